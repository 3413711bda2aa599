/- Texts of this session, merged. -/
import Derived.Tactics
import Derived.Tactics2
import Derived.WalkKit
import Derived.WalkSpells
import Derived.WalkLawsBesides
import Derived.Below
import Derived.Deep.LoopGhost
import Derived.Deep.QuietTactic
import Derived.BigQuiet
import Derived.StillTailTactics
import Derived.Deep.DeepCutAuto
import Derived.Deep.CutBlock
import Derived.Deep.RegionHeld3
import Derived.RegionTactic
import Derived.BigRegion
import Derived.Outline
import Derived.Lib.Hide
import Derived.Deep.Draws
import Derived.Laws.Rows
import Derived.Laws.OwnMore
import Derived.Laws.MakeOwn
import Derived.KernelRfl
import Derived.Test.YtlbjoflmfboeeaaWMore
import Derived.Test.YtlbjoflmfboeeaaWInvWords
import Derived.StillTail
import Derived.Test.YtlbjoflmfboeeaaChecked
import Derived.Deep.AppendLies
import Derived.Maps.AppendAt
import Derived.Deep.RegionLaw
import Derived.Laws.BitsLemmas
import Derived.RowKit
/-
  Words for memory, for all walks of this seat: a block known whole, what only some blocks turn, and lists of objects that share no block. Plain theorems; no condition.
-/
set_option linter.unusedVariables false
namespace Go.Proofs.Ytlbjoflmfboeeaa
open Go.RowKit

/-- Block g is just these cells, none of them frozen. -/
def Blk (w : World) (g : Nat) (t : TypeId) (cs : Array Value) : Prop := w.heap[g]? = some (.cells cs t (0, 0))
section
variable {w w' : World} {g k i : Nat} {t : TypeId} {cs : Array Value} {v : Value}
theorem Blk.lt (h : Blk w g t cs) : g < w.heap.size := by
  rcases Nat.lt_or_ge g w.heap.size with hlt | hge
  · exact hlt
  · unfold Blk at h; rw [Array.getElem?_eq_none hge] at h; cases h
theorem Blk.cell (h : Blk w g t cs) (hi : cs[i]? = some v) : w.cell? ⟨g, i, none⟩ = some v := by
  unfold Blk at h; simp [World.cell?, h, hi]
theorem Blk.free (h : Blk w g t cs) (i : Nat) : w.frozen? ⟨g, i, none⟩ = false := by
  unfold Blk at h; simp [World.frozen?, h]
theorem Blk.of_same (h : Blk w g t cs) (e : w'.heap[g]? = w.heap[g]?) : Blk w' g t cs := by unfold Blk at *; rw [e, h]
theorem Blk.drew (h : Blk w g t cs) : Blk w.drew g t cs := h
theorem Blk.drewN (h : Blk w g t cs) (n : Nat) : Blk (w.drewN n) g t cs := h
theorem Blk.alloc (h : Blk w g t cs) (o : Obj) : Blk (w.alloc o) g t cs := h.of_same (Below.heap_alloc w o g h.lt)
theorem Blk.new (w : World) (t : TypeId) (cs : Array Value) : Blk (w.alloc (.cells cs t)) w.heap.size t cs := by
  show (w.heap.push _)[w.heap.size]? = _
  rw [Array.getElem?_push, if_pos rfl]
theorem Blk.new_at {w : World} {g : Nat} (t : TypeId) (cs : Array Value) (hg : g = w.heap.size) : Blk (w.alloc (.cells cs t)) g t cs := by subst hg; exact Blk.new w t cs
theorem Blk.row (h : Blk w g t cs) (cs' : Array Value) : Blk (w.setRow g cs') g t cs' := setRow_heap w g cs cs' t (0, 0) h
theorem Blk.row_other (h : Blk w g t cs) {k : Nat} (hne : g ≠ k) (cs' : Array Value) : Blk (w.setRow k cs') g t cs := h.of_same (setRow_other w k g cs' hne)
theorem Blk.other (h : Blk w g t cs) {a : Addr} (hne : g ≠ a.block) (u : Value) : Blk (w.setCell a u) g t cs := h.of_same (Below.heap_setCell w a u g hne)
theorem Blk.set (h : Blk w g t cs) (i : Nat) (u : Value) : Blk (w.setCell ⟨g, i, none⟩ u) g t (cs.setIfInBounds i u) := by
  unfold Blk at *
  simp [World.setCell, Array.getElem?_modify, h]
theorem Blk.below {B : Nat} (h : Blk w g t cs) (hb : Below B w w') (hg : g < B) : Blk w' g t cs := h.of_same (hb.block g hg)
theorem Blk.inj {t' : TypeId} {cs' : Array Value} (h : Blk w g t cs) (h' : Blk w g t' cs') : t = t' ∧ cs = cs' := by
  unfold Blk at *; rw [h] at h'; simp at h'; exact ⟨h'.2, h'.1⟩
end

/-- Block g begins with these numbers, and has cap cells. -/
def RowI (w : World) (e : TypeId) (k : IntKind) (g cap : Nat) (xs : List Int) : Prop :=
  ∃ cs, Blk w g e cs ∧ xs.length ≤ cap ∧ cap ≤ maxLen ∧ cs.size = cap ∧ ∀ i (h : i < xs.length), cs[i]? = some (.int k xs[i])
section
variable {w w' : World} {e : TypeId} {k : IntKind} {g cap : Nat} {xs : List Int}
theorem RowI.lt (h : RowI w e k g cap xs) : g < w.heap.size := by obtain ⟨cs, hb, _⟩ := h; exact hb.lt
theorem RowI.free (h : RowI w e k g cap xs) (i : Nat) : w.frozen? ⟨g, i, none⟩ = false := by obtain ⟨cs, hb, _⟩ := h; exact hb.free i
theorem RowI.cell (h : RowI w e k g cap xs) {i : Nat} (hi : i < xs.length) : w.cell? ⟨g, i, none⟩ = some (.int k xs[i]) := by obtain ⟨cs, hb, _, _, _, hc⟩ := h; exact hb.cell (hc i hi)
theorem RowI.len (h : RowI w e k g cap xs) : xs.length ≤ cap ∧ cap ≤ maxLen := by obtain ⟨cs, _, h1, h2, _⟩ := h; exact ⟨h1, h2⟩
theorem RowI.of_same (h : RowI w e k g cap xs) (hs : w'.heap[g]? = w.heap[g]?) : RowI w' e k g cap xs := by obtain ⟨cs, hb, h1⟩ := h; exact ⟨cs, hb.of_same hs, h1⟩
theorem RowI.drewN (h : RowI w e k g cap xs) (n : Nat) : RowI (w.drewN n) e k g cap xs := h
theorem RowI.drew (h : RowI w e k g cap xs) : RowI w.drew e k g cap xs := h
theorem RowI.alloc (h : RowI w e k g cap xs) (o : Obj) : RowI (w.alloc o) e k g cap xs := h.of_same (Below.heap_alloc w o g h.lt)
theorem RowI.other (h : RowI w e k g cap xs) {a : Addr} (hne : g ≠ a.block) (u : Value) : RowI (w.setCell a u) e k g cap xs := h.of_same (Below.heap_setCell w a u g hne)
theorem RowI.below {B : Nat} (h : RowI w e k g cap xs) (hb : Below B w w') (hg : g < B) : RowI w' e k g cap xs := h.of_same (hb.block g hg)
theorem RowI.set (h : RowI w e k g cap xs) (i : Nat) (v : Int) : RowI (w.setCell ⟨g, i, none⟩ (.int k v)) e k g cap (xs.set i v) := by
  obtain ⟨cs, hb, h1, h2, h3, hc⟩ := h
  refine ⟨_, hb.set i _, by simpa using h1, h2, by simpa using h3, fun j hj => ?_⟩
  rw [List.length_set] at hj
  rw [List.getElem_set, Array.getElem?_setIfInBounds]
  by_cases hij : i = j
  · subst hij
    rw [if_pos rfl, if_pos rfl, if_pos (by omega)]
  · rw [if_neg hij, if_neg hij]; exact hc j hj
theorem RowI.new (w : World) (e : TypeId) (k : IntKind) (n : Nat) (v : Int) (hn : n ≤ maxLen) : RowI (w.alloc (.cells (madeCells #[.int k v] n) e)) e k w.heap.size n (List.replicate n v) := by
  refine ⟨_, Blk.new _ _ _, by simp, hn, by simp [madeCells], fun i hi => ?_⟩
  simp at hi
  simp [madeCells, hi, Nat.mod_one]
end

/-- Of what was there, only blocks of S may have turned. -/
structure Only (S : Nat → Prop) (w w' : World) : Prop where
  os : w'.os = w.os
  tape : w'.tape = w.tape
  output : w'.output = w.output
  size : w.heap.size ≤ w'.heap.size
  block : ∀ k, k < w.heap.size → ¬ S k → w'.heap[k]? = w.heap[k]?
section
variable {S S' : Nat → Prop} {a b c w w' : World}
theorem Only.refl (S : Nat → Prop) (w : World) : Only S w w := ⟨rfl, rfl, rfl, Nat.le_refl _, fun _ _ _ => rfl⟩
theorem Only.trans (h : Only S a b) (k : Only S b c) : Only S a c :=
  ⟨k.os.trans h.os, k.tape.trans h.tape, k.output.trans h.output, Nat.le_trans h.size k.size, fun i hi hs => (k.block i (Nat.lt_of_lt_of_le hi h.size) hs).trans (h.block i hi hs)⟩
/-- Behind a step that may turn what lies from the first world's end on, too. -/
theorem Only.then (h : Only S a b) (k : Only S' b c) (hs : ∀ i, S' i → S i ∨ a.heap.size ≤ i) : Only S a c :=
  ⟨k.os.trans h.os, k.tape.trans h.tape, k.output.trans h.output, Nat.le_trans h.size k.size, fun i hi hn => (k.block i (Nat.lt_of_lt_of_le hi h.size) (fun e => by rcases hs i e with h1 | h1; exact hn h1; omega)).trans (h.block i hi hn)⟩
theorem Only.mono (h : Only S a b) (hs : ∀ i, S i → S' i) : Only S' a b := ⟨h.os, h.tape, h.output, h.size, fun i hi hn => h.block i hi (fun e => hn (hs i e))⟩
theorem Only.drew (h : Only S a w) : Only S a w.drew := ⟨h.os, h.tape, h.output, h.size, h.block⟩
theorem Only.drewN (h : Only S a w) (n : Nat) : Only S a (w.drewN n) := ⟨h.os, h.tape, h.output, h.size, h.block⟩
theorem Only.alloc (h : Only S a w) (o : Obj) : Only S a (w.alloc o) :=
  ⟨h.os, h.tape, h.output, Nat.le_trans h.size (by simp), fun i hi hn => (Below.heap_alloc w o i (Nat.lt_of_lt_of_le hi h.size)).trans (h.block i hi hn)⟩
theorem Only.set (h : Only S a w) {p : Addr} (hp : S p.block ∨ a.heap.size ≤ p.block) (u : Value) : Only S a (w.setCell p u) :=
  ⟨h.os, h.tape, h.output, by simpa [World.setCell] using h.size, fun i hi hn => (Below.heap_setCell w p u i (by
    rintro rfl
    rcases hp with hp | hp
    · exact hn hp
    · omega)).trans (h.block i hi hn)⟩
theorem Only.row (h : Only S a w) {g : Nat} (hp : S g ∨ a.heap.size ≤ g) (cs : Array Value) : Only S a (w.setRow g cs) :=
  ⟨h.os, h.tape, h.output, by simpa using h.size, fun i hi hn => (setRow_other w g i cs (by
    rintro rfl
    rcases hp with hp | hp
    · exact hn hp
    · omega)).trans (h.block i hi hn)⟩
theorem Only.of_below (h : Below a.heap.size a b) : Only S a b := ⟨h.os, h.tape, h.output, h.size, fun i hi _ => h.block i hi⟩
theorem Only.below {B : Nat} (h : Only S a b) (hB : B ≤ a.heap.size) (hs : ∀ i, S i → B ≤ i) : Below B a b :=
  ⟨h.os, h.tape, h.output, h.size, fun i hi => h.block i (by omega) (fun e => by have := hs i e; omega)⟩
theorem Only.grown (h : Only S a w) {row : Option Nat} (hg : w.grownBy w' row) (hr : ∀ g, row = some g → S g ∨ a.heap.size ≤ g) : Only S a w' :=
  ⟨hg.os.trans h.os, hg.tape.trans h.tape, hg.output.trans h.output, Nat.le_trans h.size hg.size, fun i hi hn => (hg.block i (Nat.lt_of_lt_of_le hi h.size) (fun e => by
    rcases hr i e.symm with h1 | h1
    · exact hn h1
    · omega)).trans (h.block i hi hn)⟩
end

theorem below_row {B : Nat} {a w : World} (h : Below B a w) {g : Nat} (hp : B ≤ g) (cs : Array Value) : Below B a (w.setRow g cs) :=
  h.trans ⟨rfl, rfl, rfl, by simp, fun k hk => setRow_other w g k cs (by omega)⟩
/-- What is told of a world, on some blocks alone. -/
structure Ast where
  holds : World → (Nat → Prop) → Prop
  lt : ∀ {w F k}, holds w F → F k → k < w.heap.size
  move : ∀ {w w' F}, holds w F → (∀ k, F k → w'.heap[k]? = w.heap[k]?) → holds w' F
/-- Objects, each on blocks of its own from B on, none of U. -/
def Sep (w : World) (B : Nat) : (Nat → Prop) → List Ast → Prop
  | _, [] => True
  | U, A :: l => ∃ F, A.holds w F ∧ (∀ k, F k → B ≤ k ∧ ¬ U k) ∧ Sep w B (fun k => U k ∨ F k) l
def Em : Nat → Prop := fun _ => False
theorem Sep.weak {w : World} {B : Nat} : ∀ {l : List Ast} {U U' : Nat → Prop}, (∀ k, U' k → U k) → Sep w B U l → Sep w B U' l
  | [], _, _, _, _ => trivial
  | A :: l, U, U', hu, ⟨F, h1, h2, h3⟩ => ⟨F, h1, fun k hk => ⟨(h2 k hk).1, fun e => (h2 k hk).2 (hu k e)⟩, Sep.weak (fun k hk => hk.imp (hu k) id) h3⟩
/-- What turns no block of theirs. -/
theorem Sep.only {w w' : World} {B : Nat} {S : Nat → Prop} (ho : Only S w w') : ∀ {l : List Ast} {U : Nat → Prop}, (∀ k, S k → U k) → Sep w B U l → Sep w' B U l
  | [], _, _, _ => trivial
  | A :: l, U, hs, ⟨F, h1, h2, h3⟩ => ⟨F, A.move h1 fun k hk => ho.block k (A.lt h1 hk) (fun e => (h2 k hk).2 (hs k e)), h2, Sep.only ho (fun k hk => .inl (hs k hk)) h3⟩
theorem Sep.swap {w : World} {B : Nat} {U : Nat → Prop} {A A' : Ast} {l : List Ast} (h : Sep w B U (A :: A' :: l)) : Sep w B U (A' :: A :: l) := by
  obtain ⟨F, h1, h2, F', h3, h4, h5⟩ := h
  exact ⟨F', h3, fun k hk => ⟨(h4 k hk).1, fun e => (h4 k hk).2 (.inl e)⟩, F, h1, fun k hk => ⟨(h2 k hk).1, fun e => e.elim (h2 k hk).2 fun e' => (h4 k e').2 (.inr hk)⟩, Sep.weak (fun k hk => by rcases hk with (hk | hk) | hk; exact .inl (.inl hk); exact .inr hk; exact .inl (.inr hk)) h5⟩
theorem Sep.tail {w : World} {B : Nat} {U : Nat → Prop} {A : Ast} {l : List Ast} (h : Sep w B U (A :: l)) : Sep w B U l := by
  obtain ⟨F, _, _, h3⟩ := h
  exact Sep.weak (fun k hk => .inl hk) h3
theorem Sep.cons {w : World} {B : Nat} {U : Nat → Prop} {A : Ast} : ∀ {l l' : List Ast}, (∀ U, Sep w B U l → Sep w B U l') → Sep w B U (A :: l) → Sep w B U (A :: l') :=
  fun hl ⟨F, h1, h2, h3⟩ => ⟨F, h1, h2, hl _ h3⟩
/-- The third, the fourth .. one to the front, and back. -/
theorem Sep.up2 {w : World} {B : Nat} {U : Nat → Prop} {A1 A2 A3 : Ast} {l : List Ast} (h : Sep w B U (A1 :: A2 :: A3 :: l)) : Sep w B U (A3 :: A1 :: A2 :: l) := (Sep.cons (fun _ => Sep.swap) h).swap
theorem Sep.up3 {w : World} {B : Nat} {U : Nat → Prop} {A1 A2 A3 A4 : Ast} {l : List Ast} (h : Sep w B U (A1 :: A2 :: A3 :: A4 :: l)) : Sep w B U (A4 :: A1 :: A2 :: A3 :: l) := (Sep.cons (fun _ => Sep.up2) h).swap
theorem Sep.up4 {w : World} {B : Nat} {U : Nat → Prop} {A1 A2 A3 A4 A5 : Ast} {l : List Ast} (h : Sep w B U (A1 :: A2 :: A3 :: A4 :: A5 :: l)) : Sep w B U (A5 :: A1 :: A2 :: A3 :: A4 :: l) := (Sep.cons (fun _ => Sep.up3) h).swap
theorem Sep.up5 {w : World} {B : Nat} {U : Nat → Prop} {A1 A2 A3 A4 A5 A6 : Ast} {l : List Ast} (h : Sep w B U (A1 :: A2 :: A3 :: A4 :: A5 :: A6 :: l)) : Sep w B U (A6 :: A1 :: A2 :: A3 :: A4 :: A5 :: l) := (Sep.cons (fun _ => Sep.up4) h).swap
theorem Sep.down2 {w : World} {B : Nat} {U : Nat → Prop} {A1 A2 A3 : Ast} {l : List Ast} (h : Sep w B U (A3 :: A1 :: A2 :: l)) : Sep w B U (A1 :: A2 :: A3 :: l) := Sep.cons (fun _ => Sep.swap) h.swap
theorem Sep.down3 {w : World} {B : Nat} {U : Nat → Prop} {A1 A2 A3 A4 : Ast} {l : List Ast} (h : Sep w B U (A4 :: A1 :: A2 :: A3 :: l)) : Sep w B U (A1 :: A2 :: A3 :: A4 :: l) := Sep.cons (fun _ => Sep.down2) h.swap
theorem Sep.down4 {w : World} {B : Nat} {U : Nat → Prop} {A1 A2 A3 A4 A5 : Ast} {l : List Ast} (h : Sep w B U (A5 :: A1 :: A2 :: A3 :: A4 :: l)) : Sep w B U (A1 :: A2 :: A3 :: A4 :: A5 :: l) := Sep.cons (fun _ => Sep.down3) h.swap
theorem Sep.down5 {w : World} {B : Nat} {U : Nat → Prop} {A1 A2 A3 A4 A5 A6 : Ast} {l : List Ast} (h : Sep w B U (A6 :: A1 :: A2 :: A3 :: A4 :: A5 :: l)) : Sep w B U (A1 :: A2 :: A3 :: A4 :: A5 :: A6 :: l) := Sep.cons (fun _ => Sep.down4) h.swap
/-- An object is turned, or replaced, and blocks are made. -/
theorem Sep.turn {w w' : World} {B : Nat} {U F F' : Nat → Prop} {A' : Ast} {l : List Ast} (hF : ∀ k, F k → B ≤ k ∧ ¬ U k) (hl : Sep w B (fun k => U k ∨ F k) l) (hU : ∀ k, U k → k < w.heap.size) (hB : B ≤ w.heap.size)
    (ho : Only F w w') (h' : A'.holds w' F') (hsub : ∀ k, F' k → F k ∨ w.heap.size ≤ k) : Sep w' B U (A' :: l) := by
  refine ⟨F', h', fun k hk => ?_, ?_⟩
  · rcases hsub k hk with h | h
    · exact hF k h
    · exact ⟨by omega, fun e => by have := hU k e; omega⟩
  · have h1 := Sep.only ho (fun k hk => .inr hk) hl
    have go : ∀ {l : List Ast} {V : Nat → Prop}, (∀ k, F k → V k) → Sep w B V l → Sep w' B V l → Sep w' B (fun k => V k ∨ F' k) l := by
      intro l
      induction l with
      | nil => intro V hV _ _; trivial
      | cons A l ih =>
        intro V hV ⟨G, g1, g2, g3⟩ _
        have g1' := A.move g1 fun k hk => ho.block k (A.lt g1 hk) (fun e => (g2 k hk).2 (hV k e))
        refine ⟨G, g1', fun k hk => ⟨(g2 k hk).1, fun e => ?_⟩, ?_⟩
        · rcases e with e | e
          · exact (g2 k hk).2 e
          · rcases hsub k e with h | h
            · exact (g2 k hk).2 (hV k h)
            · have := A.lt g1 hk; omega
        · have := ih (V := fun k => V k ∨ G k) (fun k hk => .inl (hV k hk)) g3 (Sep.only ho (fun k hk => .inl (hV k hk)) g3)
          exact Sep.weak (fun k hk => by rcases hk with (hk | hk) | hk; exact .inl (.inl hk); exact .inr hk; exact .inl (.inr hk)) this
    exact Sep.weak (fun k hk => hk.imp (fun e => .inl e) id) (go (V := fun k => U k ∨ F k) (fun k hk => .inr hk) hl h1)
/-- A new object. -/
theorem Sep.new {w w' : World} {B : Nat} {F' : Nat → Prop} {A' : Ast} {l : List Ast} (hl : Sep w B Em l) (hB : B ≤ w.heap.size)
    (ho : Below w.heap.size w w') (h' : A'.holds w' F') (hnew : ∀ k, F' k → w.heap.size ≤ k) : Sep w' B Em (A' :: l) :=
  Sep.turn (F := Em) (fun _ h => h.elim) (Sep.weak (fun k hk => hk.elim id id) hl) (fun _ h => h.elim) hB (Only.of_below ho) h' (fun k hk => .inr (hnew k hk))
theorem Sep.below {w w' : World} {B : Nat} {l : List Ast} (hl : Sep w B Em l) (ho : Below w.heap.size w w') : Sep w' B Em l := Sep.only (Only.of_below ho) (fun _ h => h) hl
end Go.Proofs.Ytlbjoflmfboeeaa

/-
  A row of whole numbers as the printed walks tell it, and as these walks do. Plain theorems; no condition.
-/
set_option linter.unusedVariables false
namespace Go.Proofs.Ytlbjoflmfboeeaa
open Go.RowKit Go.Proofs.YtlbjoflmfboeeaaW.PrintWords

theorem rowI_of_R {k : IntKind} {e : Nat} {w : World} {base : Nat} {ok : Nat → Prop} {v : Value} {xs : List Int} (h : Kd.R (Kd.int k) e w base ok v xs) (hp : 0 < xs.length) :
    ∃ g cap, v = .slice (some ⟨g, 0, none⟩) xs.length cap ∧ base ≤ g ∧ RowI w e k g cap xs := by
  have ho := Kd.own_of_R (enc := Value.int k) h
  obtain ⟨hl, hc⟩ := ho
  rcases hc with ⟨_, h0⟩ | ⟨g, cap, cur, rfl, hg, hh, h1, h2, h3, h4⟩
  · omega
  · refine ⟨g, cap, rfl, hg, cur, hh, h1, h2, by omega, fun i hi => ?_⟩
    have e1 : (cur.toList.take (xs.length * 1))[i]? = some (.int k xs[i]) := by rw [h4]; simp [encs, hi]
    rw [List.getElem?_take, if_pos (by omega)] at e1
    simpa using e1
theorem R_of_rowI {k : IntKind} {e : Nat} {w : World} {base g cap : Nat} {xs : List Int} (h : RowI w e k g cap xs) (hb : base ≤ g) : Kd.R (Kd.int k) e w base (fun _ => True) (.slice (some ⟨g, 0, none⟩) xs.length cap) xs := by
  obtain ⟨cs, hh, h1, h2, h3, hc⟩ := h
  refine Kd.R_of_own (enc := Value.int k) (h1 := fun _ => rfl) ⟨by simp [encs], .inr ⟨g, cap, cs, rfl, hb, hh, h1, h2, by omega, ?_⟩⟩ (fun _ _ => trivial)
  apply List.ext_getElem?
  intro i
  rw [List.getElem?_take]
  by_cases hi : i < xs.length
  · rw [if_pos (by omega)]
    have := hc i hi
    rw [Array.getElem?_toList, this]
    simp [encs, hi]
  · rw [if_neg (by omega), List.getElem?_eq_none (by rw [encs_length]; omega)]
/-- A cell of a row that came in. -/
theorem cell_C {k : IntKind} {w : World} {A : Option Addr} {n : Nat} {xs : List Int} (h : (Kd.int k).C w A n xs) {i : Nat} (hi : i < xs.length) : ∃ ad, A = some ad ∧ w.cell? (ad.add i) = some (.int k xs[i]) := by
  have hl : xs.length = n := h.1
  obtain ⟨ad, e, hc⟩ := Kd.at_int h (i : Int) (by omega) (by omega)
  refine ⟨ad, e, ?_⟩
  rw [Int.toNat_natCast] at hc
  rw [hc]
  unfold rd
  rw [Int.toNat_natCast, List.getD_eq_getElem?_getD, List.getElem?_eq_getElem hi]; rfl
theorem C_of_rowI {k : IntKind} {e : Nat} {w : World} {g cap : Nat} {xs : List Int} (h : RowI w e k g cap xs) : (Kd.int k).C w (some ⟨g, 0, none⟩) xs.length xs := (Kd.R_reads' (R_of_rowI h (Nat.zero_le g))).2.2
end Go.Proofs.Ytlbjoflmfboeeaa

/-
  Words: rows filled place by place, arrays of whole numbers, numbers that keep their size. Plain theorems; no condition.
-/
set_option linter.unusedVariables false
namespace Go.Proofs.Ytlbjoflmfboeeaa
open Go.RowKit Go.Proofs.YtlbjoflmfboeeaaW.PrintWords

theorem wrapI64 {x : Int} (h0 : -9223372036854775808 ≤ x) (h1 : x < 9223372036854775808) : IntKind.i64.wrap x = x := by
  unfold IntKind.wrap
  simp only [IntKind.bits, IntKind.signed]
  simp
  split <;> omega
/-- The first j of n places filled. -/
def fillTo (f : Nat → Int) (n j : Nat) : List Int := (List.range n).map (fun i => if i < j then f i else 0)
theorem fillTo_len (f : Nat → Int) (n j : Nat) : (fillTo f n j).length = n := by simp [fillTo]
theorem fillTo_zero (f : Nat → Int) (n : Nat) : fillTo f n 0 = List.replicate n 0 := by
  apply List.ext_getElem <;> simp [fillTo]
theorem fillTo_set (f : Nat → Int) (n j : Nat) : (fillTo f n j).set j (f j) = fillTo f n (j + 1) := by
  apply List.ext_getElem
  · simp [fillTo]
  · intro i h1 h2
    rw [List.getElem_set]
    simp [fillTo] at h1 h2 ⊢
    by_cases hij : j = i
    · subst hij; simp
    · rw [if_neg hij]
      by_cases h3 : i < j
      · rw [if_pos h3, if_pos (by omega)]
      · rw [if_neg h3, if_neg (by omega)]
theorem fillTo_skip (f : Nat → Int) (n j : Nat) (h : f j = 0) : fillTo f n j = fillTo f n (j + 1) := by
  rw [← fillTo_set, h]
  apply List.ext_getElem
  · simp [fillTo]
  · intro i h1 h2
    rw [List.getElem_set]
    by_cases hij : j = i
    · subst hij; simp [fillTo]
    · rw [if_neg hij]
theorem fillTo_at (f : Nat → Int) (n j : Nat) (h : j < (fillTo f n j).length) : (fillTo f n j)[j] = 0 := by simp [fillTo]
theorem fillTo_all (f : Nat → Int) (n : Nat) : fillTo f n n = (List.range n).map f := by
  apply List.ext_getElem
  · simp [fillTo]
  · intro i h1 h2
    simp [fillTo] at h1 ⊢
    intro h; omega
theorem fillTo_all' (f : Nat → Int) (n i : Nat) (h : i < n) {h' : i < (fillTo f n n).length} : (fillTo f n n)[i] = f i := by simp [fillTo, h]
theorem RowI.new2 (w : World) (o : Obj) (e : TypeId) (k : IntKind) (n : Nat) (v : Int) (hn : n ≤ maxLen) : RowI ((w.alloc o).alloc (.cells (madeCells #[.int k v] n) e)) e k (w.heap.size + 1) n (List.replicate n v) := by
  have := RowI.new (w.alloc o) e k n v hn
  have hs : (w.alloc o).heap.size = w.heap.size + 1 := by simp
  rwa [hs] at this
/-- An array's cells. -/
def vals (k : IntKind) (xs : List Int) : Array Value := (xs.map (Value.int k)).toArray
theorem vals_get {k : IntKind} {xs : List Int} {i : Nat} (h : i < xs.length) : (vals k xs)[i]? = some (.int k xs[i]) := by simp [vals, h]
theorem vals_set (k : IntKind) (xs : List Int) (i : Nat) (v : Int) : (vals k xs).setIfInBounds i (.int k v) = vals k (xs.set i v) := by
  simp [vals, List.setIfInBounds_toArray, List.map_set]
theorem vals_size (k : IntKind) (xs : List Int) : (vals k xs).size = xs.length := by simp [vals]
theorem Blk.seti {w : World} {g : Nat} {t : TypeId} {k : IntKind} {xs : List Int} (h : Blk w g t (vals k xs)) (i : Nat) (v : Int) : Blk (w.setCell ⟨g, i, none⟩ (.int k v)) g t (vals k (xs.set i v)) := by
  have := h.set i (.int k v)
  rwa [vals_set] at this
theorem add_block (a : Addr) (n : Nat) : (a.add n).block = a.block := by unfold Addr.add; split <;> rfl
theorem C_of_cells {k : IntKind} {w : World} {g : Nat} {xs : List Int} (hl : xs.length ≤ maxLen) (h : ∀ i (hi : i < xs.length), w.cell? ⟨g, i, none⟩ = some (.int k xs[i])) : (Kd.int k).C w (some ⟨g, 0, none⟩) xs.length xs := by
  refine Kd.C_of_reads (d := (0 : Int)) (h1 := fun _ => rfl) ⟨rfl, hl, fun _ => ⟨⟨g, 0, none⟩, rfl, fun j hj => ?_⟩⟩
  have := h j hj
  rw [show (Addr.add ⟨g, 0, none⟩ j) = ⟨g, j, none⟩ from by unfold Addr.add; split <;> simp_all, this]
  simp [hj]
theorem drawn_below {w w' : World} (h : Drawn0 w w') : Below w.heap.size w w' := by
  obtain ⟨⟨n, rfl⟩⟩ := h
  exact pw_below_drewN (Below.refl _ _) n
end Go.Proofs.Ytlbjoflmfboeeaa

/-
  A region that draws its order, whose first operations read (or call what reads and draws), and whose last ones stand in one forced order: one walk in the text's order serves every order. A plain theorem over the library's; no condition.
-/
set_option linter.unusedVariables false
namespace Go.Proofs.Ytlbjoflmfboeeaa
open Go

section
variable {P : Program} {ops : Array Oper} {md : Region.Mode} {C : World → Prop}
/-- Whatever order is picked, the first n operations come up, quietly, ahead of all others; then L. -/
def QHead (P : Program) (md : Region.Mode) (ops : Array Oper) (C : World → Prop) (n : Nat) (L : Array Bool → Act → Prop) : Nat → Array Bool → Act → Prop
  | 0, ls, a => L ls a
  | f + 1, ls, a => Region.ready md ops ls ≠ [] ∧ ∀ i ∈ Region.ready md ops ls, i < n ∧ qOp P ops C i (QHead P md ops C n L f (ls.setIfInBounds i true)) a
theorem QHead.any {n g : Nat} {L : Array Bool → Act → Prop} {Q : Exit → Act → World → Prop} (hL : ∀ ls a w, C w → L ls a → wpAny P md ops Q g ls a w) :
    ∀ (f : Nat) (ls : Array Bool) (a : Act) (w : World), C w → QHead P md ops C n L f ls a → wpAny P md ops Q (f + g) ls a w := by
  intro f
  induction f with
  | zero => intro ls a w hw h; rw [Nat.zero_add]; exact hL _ _ _ hw h
  | succ f ih =>
    intro ls a w hw h
    rw [show f + 1 + g = (f + g) + 1 from by omega]
    exact ⟨fun e => absurd e h.1, fun i hi => wpOp_of_qOp hw (fun a' w' hw' h' => ih _ a' w' hw' h') (h.2 i hi).2⟩
/-- The one of them that comes first in the text may be taken first. -/
theorem QHead.first {n i : Nat} {oi : Oper} {v : Value} {L : Array Bool → Act → Prop} (hi : ops[i]? = some oi) (hsel : ∀ (j : Nat) (o : Oper) cs b, ops[j]? = some o → o.op ≠ .select cs b)
    (hs : Region.sinkB md ops n = true) (hc : Region.chainB md ops n = true) (hn : n < ops.size) (hin : i < n) (hL : ∀ ls a, L ls a → ∀ j ∈ Region.ready md ops ls, n ≤ j) :
    ∀ (f : Nat) (ls : Array Bool) (a : Act), HeadInv md ops n ls →
      (∀ j oj, ops[j]? = some oj → j ≠ i → ls.getD j true = false → (∀ e ∈ oj.after, Region.binds md e = true → e.on ≠ i) → oi.apart ops oj = true) →
      i ∈ Region.ready md ops ls → YieldsIn P ops C oi v a → QHead P md ops C n L f (ls.setIfInBounds i true) (a.put oi.dst v) → QHead P md ops C n L (f + 1) ls a := by
  intro f
  induction f with
  | zero =>
    intro ls a inv _ hr hy H
    have hun := (mem_ready.1 hr).1
    refine ⟨fun e => (by rw [e] at hr; cases hr), fun j hj => ?_⟩
    have hjn : j < n := Nat.lt_of_not_le fun hle => tail_waits hs hc hn inv _ i rfl hin hun j hle hj
    refine ⟨hjn, ?_⟩
    by_cases hji : j = i
    · subst hji; exact hy.qOp hi H
    · have := hL _ _ H j (ready_mono hj hji)
      omega
  | succ f ih =>
    intro ls a inv hfree hr hy H
    have hun := (mem_ready.1 hr).1
    refine ⟨fun e => (by rw [e] at hr; cases hr), fun j hj => ?_⟩
    have hjn : j < n := Nat.lt_of_not_le fun hle => tail_waits hs hc hn inv _ i rfl hin hun j hle hj
    refine ⟨hjn, ?_⟩
    by_cases hji : j = i
    · subst hji; exact hy.qOp hi H
    · have h1 := (H.2 j (ready_mono hj hji)).2
      obtain ⟨hjun, oj, hoj, hall⟩ := mem_ready.1 hj
      have hnot : ∀ e ∈ oj.after, Region.binds md e = true → e.on ≠ i := by
        intro e he hb heq
        have h2 := hall e he hb
        rw [heq, getD_both hun] at h2
        cases h2
      have h2 := qOp_put hoj (hfree j oj hoj hji hjun hnot) (fun cs b => hsel i oi cs b hi) (fun cs b => hsel j oj cs b hoj) hy h1
      have hfree' : ∀ k ok, ops[k]? = some ok → k ≠ i → (ls.setIfInBounds j true).getD k true = false → (∀ e ∈ ok.after, Region.binds md e = true → e.on ≠ i) → oi.apart ops ok = true := by
        intro k ok hk hki hkun hno
        refine hfree k ok hk hki ?_ hno
        by_cases hjk : j = k
        · subst hjk; exact hjun
        · rwa [getD_set_ne true hjk] at hkun
      refine qOp_mono (fun a' h3 => ih _ a' (inv.set hj hjn) hfree' (ready_mono hr (Ne.symm hji)) h3.1 ?_) h2
      rw [Array.setIfInBounds_comm _ _ hji]
      exact h3.2
theorem QHead.lex {n g : Nat} {Lq : Act → Prop} (hsel : Region.noSelect ops = true) (hs : Region.sinkB md ops n = true) (hc : Region.chainB md ops n = true) (hn : n < ops.size) :
    ∀ (l : List Oper) (k : Nat) (ls : Array Bool) (a : Act), (∀ j, j < l.length → l[j]? = ops[k + j]?) → k + l.length = n → HeadInv md ops n ls → Region.lexHead md ops g l.length k ls = true →
      wpQuiet P ops C Lq l a → QHead P md ops C n (fun ls' a' => Region.seqB md ops g n ls' = true ∧ Lq a') l.length ls a := by
  intro l
  induction l with
  | nil =>
    intro k ls a _ hk _ hB h
    obtain rfl : k = n := by simpa using hk
    exact ⟨by simpa [Region.lexHead] using hB, h⟩
  | cons o l ih =>
    intro k ls a hl hk inv hB h
    have h0 : ops[k]? = some o := by simpa using (hl 0 (by simp)).symm
    simp only [List.length_cons, Region.lexHead, Bool.and_eq_true] at hB
    have hkn : k < n := by simp only [List.length_cons] at hk; omega
    have hr : k ∈ Region.ready md ops ls := by simpa using hB.1.1
    have hst : qOp P ops C k (wpQuiet P ops C Lq l) a := by unfold qOp; simp only [h0]; exact h
    obtain ⟨v, hy, hK⟩ := yieldsIn_of_qOp h0 hst
    refine QHead.first h0 (Region.noSelect_spec hsel) hs hc hn hkn (fun ls' a' hL => seqB_ready hL.1) l.length ls a inv (Region.free_spec h0 hB.1.2) hr hy ?_
    refine ih (k + 1) _ _ (fun j hj => ?_) (by simp only [List.length_cons] at hk; omega) (inv.set hr hkn) hB.2 hK
    have := hl (j + 1) (by simp; omega)
    simpa [Nat.add_assoc, Nat.add_comm 1 j] using this
theorem region_quiet_tail {id : Nat} {Q : Exit → Act → World → Prop} {a : Act} {w : World} {l : List Oper} (n : Nat) (hm : P.follows .mixedOrders = true) (hB : Region.lexTailB .any l.toArray n = true)
    (h : wpQuiet P l.toArray (fun w' => ∃ n, w' = w.drewN n) (fun a' => ∀ w', (∃ n, w' = w.drewN n) → wpList P l.toArray Q (l.drop n) a' w') (l.take n) a) : (Code.region id l.toArray true).wp P Q a w := by
  simp only [Region.lexTailB, Bool.and_eq_true, decide_eq_true_eq] at hB
  obtain ⟨⟨⟨⟨hsel, hn⟩, hs⟩, hc⟩, hlex⟩ := hB
  have hn' : n < l.length := by simpa using hn
  have htl : (l.take n).length = n := by simp; omega
  have hdl : (l.drop n).length = l.toArray.size - n := by simp
  have inv0 : HeadInv .any l.toArray n (Array.replicate l.toArray.size false) :=
    ⟨by simp, fun j oj _ hl => (by rw [getD_replicate_false] at hl; cases hl), fun t _ ht => getD_in (by simpa using ht) (getD_replicate_false _ _)⟩
  refine wp_region_any hm ?_
  have hh := QHead.lex (P := P) (C := fun w' => ∃ n, w' = w.drewN n) (g := (l.drop n).length) hsel hs hc hn (l.take n) 0 (Array.replicate l.toArray.size false) a
    (fun j hj => by rw [htl] at hj; simp [hj]) (by simpa using htl) inv0 (by rw [htl, hdl]; exact hlex) h
  have := QHead.any (Q := Q) (fun ls a w' hw' hL => wpAny_of_seq (l.drop n) n ls a w' (fun j => by simp) hL.1 (hL.2 w' hw')) (l.take n).length _ a _ ⟨1, rfl⟩ hh
  rw [htl, hdl] at this
  have hsz : n + (l.toArray.size - n) = l.toArray.size := by simp; omega
  rw [hsz] at this
  exact this
end
end Go.Proofs.Ytlbjoflmfboeeaa

/-
  The program's model, and the document's: what they hold, and the walks of their functions; no condition but those told.
-/
set_option linter.unusedVariables false
set_option linter.unusedSimpArgs false
namespace Go.Proofs.Ytlbjoflmfboeeaa.Mdl
open Go.RowKit Go.Proofs.Ytlbjoflmfboeeaa Go.Proofs.YtlbjoflmfboeeaaW.PrintWords

/-- How often all come. -/
def lsum (L : List Int) : Int := L.sum
theorem lsum_append (a b : List Int) : lsum (a ++ b) = lsum a + lsum b := by unfold lsum; exact List.sum_append
theorem lsum_nil : lsum [] = 0 := rfl
theorem lsum_one (x : Int) : lsum [x] = x := by simp [lsum]
theorem lsum_take_succ (L : List Int) (k : Nat) (h : k < L.length) : lsum (L.take (k + 1)) = lsum (L.take k) + L[k] := by
  rw [List.take_succ_eq_append_getElem h, lsum_append, lsum_one]
theorem lsum_nonneg (L : List Int) (h : ∀ x ∈ L, 0 ≤ x) : 0 ≤ lsum L := by
  induction L with
  | nil => exact Int.le_refl 0
  | cons a l ih =>
    have h1 := ih fun x hx => h x (List.mem_cons_of_mem _ hx)
    have h2 := h a (List.mem_cons_self ..)
    have : lsum (a :: l) = a + lsum l := by simp [lsum]
    omega
theorem lsum_take_le (L : List Int) (h : ∀ x ∈ L, 0 ≤ x) (k : Nat) : 0 ≤ lsum (L.take k) ∧ lsum (L.take k) ≤ lsum L := by
  have h1 := lsum_nonneg (L.take k) fun x hx => h x (List.mem_of_mem_take hx)
  have h2 := lsum_nonneg (L.drop k) fun x hx => h x (List.mem_of_mem_drop hx)
  have h3 := lsum_append (L.take k) (L.drop k)
  rw [List.take_append_drop] at h3
  omega
/-- A list of how often symbols come, as it may be. -/
structure Good (L : List Int) : Prop where
  len1 : 1 ≤ L.length
  len2 : L.length ≤ 64
  pos : ∀ x ∈ L, 1 ≤ x
  all : lsum L ≤ 8192
theorem Good.at {L : List Int} (h : Good L) {k : Nat} (hk : k < L.length) : 1 ≤ L[k] ∧ lsum (L.take k) + L[k] ≤ lsum L ∧ 0 ≤ lsum (L.take k) := by
  have h0 : ∀ x ∈ L, 0 ≤ x := fun x hx => by have := h.pos x hx; omega
  have h1 := h.pos _ (List.getElem_mem hk)
  have h2 := lsum_take_le L h0 (k + 1)
  have h3 := lsum_take_le L h0 k
  rw [lsum_take_succ L k hk] at h2
  omega
theorem Good.nonneg {L : List Int} (h : Good L) : ∀ x ∈ L, 0 ≤ x := fun x hx => by have := h.pos x hx; omega
theorem Good.sum1 {L : List Int} (h : Good L) : 1 ≤ lsum L := by
  have := h.at (k := 0) h.len1
  omega
/-- A symbol came. -/
def bump (L : List Int) (s : Nat) : List Int := L.set s (L.getD s 0 + 32)
def halve (L : List Int) : List Int := L.map (fun x => (x + 1) / 2)
def learn (L : List Int) (s : Nat) : List Int := if lsum (bump L s) > 8192 then halve (bump L s) else bump L s
/-- What a model becomes. -/
def next (fixed : Bool) (L : List Int) (s : Nat) : List Int := if fixed = true then L else learn L s
theorem bump_len (L : List Int) (s : Nat) : (bump L s).length = L.length := by simp [bump]
theorem learn_len (L : List Int) (s : Nat) : (learn L s).length = L.length := by unfold learn; split <;> simp [halve, bump_len]
theorem next_len (f : Bool) (L : List Int) (s : Nat) : (next f L s).length = L.length := by unfold next; split; rfl; exact learn_len L s
theorem lsum_set (L : List Int) (s : Nat) (h : s < L.length) (v : Int) : lsum (L.set s v) = lsum L - L[s] + v := by
  induction L generalizing s with
  | nil => simp at h
  | cons a l ih =>
    cases s with
    | zero => simp [lsum]; omega
    | succ s =>
      have := ih s (by simpa using h)
      simp [lsum] at this ⊢
      omega
theorem lsum_bump (L : List Int) (s : Nat) (h : s < L.length) : lsum (bump L s) = lsum L + 32 := by
  unfold bump
  rw [lsum_set L s h, List.getD_eq_getElem?_getD, List.getElem?_eq_getElem h]
  simp; omega
theorem bump_pos (L : List Int) (s : Nat) (h : ∀ x ∈ L, 1 ≤ x) (hs : s < L.length) : ∀ x ∈ bump L s, 1 ≤ x := by
  intro x hx
  unfold bump at hx
  rcases List.mem_or_eq_of_mem_set hx with h1 | h1
  · exact h x h1
  · have := h _ (List.getElem_mem hs)
    rw [List.getD_eq_getElem?_getD, List.getElem?_eq_getElem hs] at h1
    simp at h1; omega
theorem halve_pos (L : List Int) (h : ∀ x ∈ L, 1 ≤ x) : ∀ x ∈ halve L, 1 ≤ x := by
  intro x hx
  obtain ⟨y, hy, rfl⟩ := List.mem_map.1 hx
  have := h y hy
  omega
theorem halve_sum (L : List Int) (h : ∀ x ∈ L, 1 ≤ x) : lsum (halve L) ≥ 0 ∧ 2 * lsum (halve L) ≤ lsum L + L.length := by
  induction L with
  | nil => simp [halve, lsum]
  | cons a l ih =>
    have h1 := ih fun x hx => h x (List.mem_cons_of_mem _ hx)
    have h2 := h a (List.mem_cons_self ..)
    have e1 : lsum (a :: l) = a + lsum l := by simp [lsum]
    have e2 : lsum (halve (a :: l)) = (a + 1) / 2 + lsum (halve l) := by simp [lsum, halve]
    rw [e1, e2]
    simp only [List.length_cons]
    omega
theorem Good.next {L : List Int} (h : Good L) (f : Bool) (s : Nat) (hs : s < L.length) : Good (next f L s) := by
  unfold Mdl.next
  split
  · exact h
  · refine ⟨by rw [learn_len]; exact h.len1, by rw [learn_len]; exact h.len2, ?_, ?_⟩
    · unfold learn
      split
      · exact halve_pos _ (bump_pos L s h.pos hs)
      · exact bump_pos L s h.pos hs
    · unfold learn
      have h1 := lsum_bump L s hs
      split
      · have := halve_sum _ (bump_pos L s h.pos hs)
        have h2 := h.len2
        have h3 := h.all
        rw [bump_len] at this
        omega
      · omega
/-- The first k of A, then B's. -/
def mix (A B : List Int) (k : Nat) : List Int := A.take k ++ B.drop k
theorem mix_len (A B : List Int) (k : Nat) (h : A.length = B.length) (hk : k ≤ A.length) : (mix A B k).length = B.length := by
  unfold mix; rw [List.length_append, List.length_take, List.length_drop]; omega
theorem mix_zero (A B : List Int) : mix A B 0 = B := by simp [mix]
theorem mix_all (A B : List Int) (h : A.length = B.length) : mix A B B.length = A := by
  unfold mix; rw [List.drop_length, List.append_nil, ← h, List.take_length]
theorem mix_get (A B : List Int) (k : Nat) (h : A.length = B.length) (hk : k < B.length) {h' : k < (mix A B k).length} : (mix A B k)[k] = B[k] := by
  have e : (mix A B k)[k]? = B[k]? := by
    unfold mix
    rw [List.getElem?_append_right (by rw [List.length_take]; omega), List.length_take, List.getElem?_drop, Nat.min_eq_left (by omega)]
    congr 1; omega
  rw [List.getElem?_eq_getElem h', List.getElem?_eq_getElem hk] at e
  exact Option.some.inj e
theorem mix_set (A B : List Int) (k : Nat) (h : A.length = B.length) (hk : k < A.length) : (mix A B k).set k A[k] = mix A B (k + 1) := by
  unfold mix
  rw [List.set_append_right _ _ (by rw [List.length_take]; omega), List.length_take, Nat.min_eq_left (by omega), Nat.sub_self, List.drop_eq_getElem_cons (show k < B.length by omega), List.set_cons_zero,
    List.take_succ_eq_append_getElem hk, List.append_assoc]
  rfl
theorem halve_len (L : List Int) : (halve L).length = L.length := by simp [halve]
theorem halve_get (L : List Int) (k : Nat) (h : k < L.length) {h' : k < (halve L).length} : (halve L)[k] = (L[k] + 1) / 2 := by simp [halve]
/-- The symbol in whose part a number is. -/
def find : List Int → Int → Nat
  | [], _ => 0
  | [_], _ => 0
  | x :: y :: l, at_ => if at_ < x then 0 else find (y :: l) (at_ - x) + 1
theorem find_lt (L : List Int) (a : Int) (h : 1 ≤ L.length) : find L a < L.length := by
  induction L generalizing a with
  | nil => simp at h
  | cons x l ih =>
    cases l with
    | nil => simp [find]
    | cons y l =>
      unfold find
      split
      · simp
      · have := ih (a - x) (by simp)
        simp at this ⊢; omega

/-- The program's model: block m holds it, block h how often. -/
structure Is (w : World) (m h cap : Nat) (L : List Int) (fixed : Bool) : Prop where
  blk : Blk w m 107 #[.slice (some ⟨h, 0, none⟩) L.length cap, .int .u32 (lsum L), .bool fixed]
  row : RowI w 22 .u32 h cap L
  ne : m ≠ h
/-- The document's. -/
structure IsR (w : World) (m h cap : Nat) (L : List Int) (fixed : Bool) : Prop where
  blk : Blk w m 116 #[.slice (some ⟨h, 0, none⟩) L.length cap, .bool fixed]
  row : RowI w 3 .i64 h cap L
  ne : m ≠ h
section
variable {w w' : World} {m h cap : Nat} {L : List Int} {f : Bool}
theorem Is.only {S : Nat → Prop} (a : Is w m h cap L f) (o : Only S w w') (h1 : ¬ S m) (h2 : ¬ S h) : Is w' m h cap L f :=
  ⟨a.blk.of_same (o.block m a.blk.lt h1), a.row.of_same (o.block h a.row.lt h2), a.ne⟩
theorem IsR.only {S : Nat → Prop} (a : IsR w m h cap L f) (o : Only S w w') (h1 : ¬ S m) (h2 : ¬ S h) : IsR w' m h cap L f :=
  ⟨a.blk.of_same (o.block m a.blk.lt h1), a.row.of_same (o.block h a.row.lt h2), a.ne⟩
theorem Is.drewN (a : Is w m h cap L f) (n : Nat) : Is (w.drewN n) m h cap L f := ⟨a.blk.drewN n, a.row.drewN n, a.ne⟩
theorem IsR.drewN (a : IsR w m h cap L f) (n : Nat) : IsR (w.drewN n) m h cap L f := ⟨a.blk.drewN n, a.row.drewN n, a.ne⟩
end
end Go.Proofs.Ytlbjoflmfboeeaa.Mdl

/-
  The walks of the program's model: New, Part, Find, Learn; no condition but those told.
-/
set_option linter.unusedVariables false
set_option linter.unusedSimpArgs false
namespace Go.Proofs.Ytlbjoflmfboeeaa.Mdl
open Go.RowKit Go.Proofs.Ytlbjoflmfboeeaa Go.Proofs.YtlbjoflmfboeeaaW.PrintWords

theorem lsum_rep (n : Nat) : lsum (List.replicate n 1) = n := by
  induction n with
  | zero => rfl
  | succ n ih => rw [List.replicate_succ]; simp [lsum]; omega
theorem good_new (n : Nat) (h1 : 1 ≤ n) (h2 : n ≤ 64) : Good (List.replicate n 1) :=
  ⟨by simpa using h1, by simpa using h2, fun x hx => by rw [List.eq_of_mem_replicate hx]; omega, by rw [lsum_rep]; omega⟩
theorem fillTo_ones (n : Nat) : fillTo (fun _ => 1) n n = List.replicate n 1 := by
  rw [fillTo_all]
  apply List.ext_getElem <;> simp
set_option maxHeartbeats 1000000 in
theorem New_yes (n : Nat) (h1 : 1 ≤ n) (h2 : n ≤ 64) (w : World) : Calls Try.prog 16 #[.int .i64 n] w fun e w' => ∃ m h, e = .returned (.tuple #[.pointer (some ⟨m, 0, none⟩), .int .i64 0]) ∧ w.heap.size ≤ m ∧ w.heap.size ≤ h ∧ Is w' m h n (List.replicate n 1) false ∧ Below w.heap.size w w' := by
  have m1 : ∀ w : World, (Instr.makeSlice 45 (.int .i64 n) (.int .i64 n)).run Try.prog w = .ok (.slice (some ⟨w.heap.size, 0, none⟩) n n) (w.alloc (.cells (madeCells #[.int .u32 0] n) 22)) := fun w => run_make_row' 45 22 (.int .u32 0) 4 Try.underlying45 (by kernel_rfl) rfl .i64 .i64 n (by omega) (by omega) w
  go_enter Try.func16, Try.ntmps16
  go_wp2
  have hsz : w.heap.size < w.heap.size + 1 := Nat.lt_succ_self _
  go_loopw [23] (fun v wr => ∃ k : Nat, k ≤ n ∧ v = .int .i64 (k : Int) ∧ Hid (Blk wr (w.heap.size + 1) 107 #[.slice (some ⟨w.heap.size, 0, none⟩) n n, .int .u32 (n : Int), .bool false]) ∧ Hid (RowI wr 22 .u32 w.heap.size n (fillTo (fun _ => 1) n k)) ∧ Hid (Below w.heap.size w wr)) (fun v _ => n - (intOf v).toNat)
  case atStart => exact ⟨0, by omega, rfl, Blk.new_at _ _ (by simp), by rw [fillTo_zero]; exact (RowI.new w _ _ n 0 (by unfold maxLen; omega)).alloc _, (((Below.refl _ _).alloc (Nat.le_refl _) _).alloc (by simp) _ : Below _ _ _)⟩
  case round =>
    obtain ⟨k, hk, rfl, HM, HR, HB⟩ := hrel
    have d0 := HM.out.cell (i := 0) rfl
    by_cases hlt : k < n
    · have d1 := HR.out.cell (i := k) (by rw [fillTo_len]; exact hlt)
      rw [fillTo_at] at d1
      have f1 := HR.out.free k
      go_wp2
      refine ⟨⟨k + 1, by omega, by push_cast; rfl, HM.out.other (a := ⟨w.heap.size, k, none⟩) (by simp) _, ?_, HB.out.setCell (p := ⟨w.heap.size, k, none⟩) (by simp) _⟩, by simp [intOf]; omega⟩
      rw [← fillTo_set]
      exact HR.out.set k 1
    · obtain rfl : k = n := by omega
      go_wp2
      go_ret2
      rw [fillTo_ones] at HR
      exact ⟨w.heap.size + 1, w.heap.size, rfl, by omega, by omega, ⟨by rw [lsum_rep, List.length_replicate]; exact HM.out, HR.out, by omega⟩, HB.out⟩
theorem New_no (n : Int) (h : n < 1 ∨ 64 < n) (w : World) : Calls Try.prog 16 #[.int .i64 n] w fun e w' => e = .returned (.tuple #[.pointer none, .int .i64 1]) ∧ w' = w := by
  rcases h with h | h
  · go_enter Try.func16, Try.ntmps16
    go_wp2
    go_ret2
    exact ⟨rfl, rfl⟩
  · have h' : ¬ n < 1 := by omega
    go_enter Try.func16, Try.ntmps16
    go_wp2
    go_ret2
    exact ⟨rfl, rfl⟩
/-- A part, as a value. -/
def part (lo ow al : Int) : Value := .agg #[.int .u32 lo, .int .u32 ow, .int .u32 al]
theorem Part_none (s : Value) (w : World) : Calls Try.prog 61 #[.pointer none, s] w fun e w' => e = .returned (.tuple #[part 0 0 0, .int .i64 1]) ∧ Below w.heap.size w w' := by
  go_enter Try.func61, Try.ntmps61
  go_wp2
  refine bodyPost_ret (v := .tuple #[part 0 0 0, .int .i64 1]) (by simp [results, Try.results61, go_sem]; rfl) rfl ⟨rfl, ((Below.refl _ _).alloc (Nat.le_refl _) _ : Below _ _ _)⟩
set_option maxHeartbeats 1000000 in
set_option maxRecDepth 100000 in
theorem Part_some {w : World} {m h cap : Nat} {L : List Int} {f : Bool} (a : Is w m h cap L f) (good : Good L) (s : Nat) (hs : s < L.length) :
    Calls Try.prog 61 #[.pointer (some ⟨m, 0, none⟩), .int .i64 s] w fun e w' => e = .returned (.tuple #[part (lsum (L.take s)) (L.getD s 0) (lsum L), .int .i64 0]) ∧ Below w.heap.size w w' := by
  have d0 := a.blk.cell (i := 0) rfl
  have d1 := a.blk.cell (i := 1) rfl
  have d2 := a.row.cell hs
  have hl2 := good.len2
  have hm := a.blk.lt
  have hh := a.row.lt
  have hc := a.row.len.1
  have A := Lib.hid a
  have G := Lib.hid good
  obtain ⟨n, hn⟩ : ∃ n, L.length = n := ⟨_, rfl⟩
  have HN := Lib.hid hn
  rw [hn] at d0 hs hl2 hc
  have i0 : (s : Int) < n := by omega
  obtain ⟨x, hx⟩ : ∃ x, L[s]'(by omega) = x := ⟨_, rfl⟩
  rw [hx] at d2
  have HX := Lib.hid hx
  clear hx hn
  go_enter Try.func61, Try.ntmps61
  go_wp2
  go_region
  go_wp2
  clear d0 d1 d2
  go_loopw [44] (fun v wr => ∃ k : Nat, k ≤ s ∧ v = .int .i64 (k : Int) ∧ Hid (Blk wr w.heap.size 31 #[.int .u32 0, .int .u32 0, .int .u32 0]) ∧ Hid (Blk wr (w.heap.size + 1) 31 #[.int .u32 (lsum (L.take k)), .int .u32 x, .int .u32 (lsum L)]) ∧ Hid (Below w.heap.size w wr)) (fun v _ => s - (intOf v).toNat)
  case atStart => exact ⟨0, by omega, rfl, ((Blk.new w _ _).alloc _).drew, (Blk.new_at _ _ (by simp)).drew, ((((Below.refl _ _).alloc (Nat.le_refl _) _).alloc (by simp) _).drew : Below _ _ _)⟩
  case round =>
    obtain ⟨k, hk, rfl, H0, HP, HB⟩ := hrel
    have p0 := HP.out.cell (i := 0) rfl
    have p1 := HP.out.cell (i := 1) rfl
    have p2 := HP.out.cell (i := 2) rfl
    have pf := HP.out.free 0
    by_cases hlt : k < s
    · have d2 := (A.out.row.below HB.out hh).cell (i := k) (by rw [HN.out]; omega)
      have hk1 := G.out.at (k := k) (by rw [HN.out]; omega)
      have hall := G.out.all
      have HS := Lib.hid (lsum_take_succ L k (by rw [HN.out]; omega))
      generalize L[k]'(by rw [HN.out]; omega) = y at *
      go_wp2
      refine ⟨⟨k + 1, by omega, by push_cast; rfl, H0.out.other (a := ⟨w.heap.size + 1, 0, none⟩) (by simp) _, ?_, HB.out.setCell (p := ⟨w.heap.size + 1, 0, none⟩) (by simp) _⟩, by simp [intOf]; omega⟩
      rw [HS.out]
      exact HP.out.set 0 _
    · obtain rfl : k = s := by omega
      have q0 := H0.out.cell (i := 0) rfl
      have q1 := H0.out.cell (i := 1) rfl
      have q2 := H0.out.cell (i := 2) rfl
      have e0 := H0.out.free 0
      have e1 := H0.out.free 1
      have e2 := H0.out.free 2
      go_wp2
      have hb2 : Below w.heap.size w (((wr.setCell ⟨w.heap.size, 0, none⟩ (.int .u32 (lsum (L.take k)))).setCell ⟨w.heap.size, 1, none⟩ (.int .u32 x)).setCell ⟨w.heap.size, 2, none⟩ (.int .u32 (lsum L))) := ((HB.out.setCell (p := ⟨w.heap.size, 0, none⟩) (Nat.le_refl _) _).setCell (p := ⟨w.heap.size, 1, none⟩) (Nat.le_refl _) _).setCell (p := ⟨w.heap.size, 2, none⟩) (Nat.le_refl _) _
      have hx : L.getD k 0 = x := by rw [List.getD_eq_getElem?_getD, List.getElem?_eq_getElem (by rw [HN.out]; exact hs), HX.out]; rfl
      rw [hx]
      exact bodyPost_ret (v := .tuple #[part (lsum (L.take k)) x (lsum L), .int .i64 0]) (by simp [results, Try.results61, go_sem, part, q0, q1, q2, e0, e1, e2]) rfl ⟨rfl, hb2⟩
theorem Part_bad {w : World} {m h cap : Nat} {L : List Int} {f : Bool} (a : Is w m h cap L f) (s : Int) (hs : s < 0 ∨ (L.length : Int) ≤ s) :
    Calls Try.prog 61 #[.pointer (some ⟨m, 0, none⟩), .int .i64 s] w fun e w' => e = .returned (.tuple #[part 0 0 0, .int .i64 1]) ∧ Below w.heap.size w w' := by
  have d0 := a.blk.cell (i := 0) rfl
  have hm := a.blk.lt
  generalize L.length = n at *
  rcases hs with hs | hs
  · go_enter Try.func61, Try.ntmps61
    go_wp2
    exact bodyPost_ret (v := .tuple #[part 0 0 0, .int .i64 1]) (by simp [results, Try.results61, go_sem]; rfl) rfl ⟨rfl, ((Below.refl _ _).alloc (Nat.le_refl _) _ : Below _ _ _)⟩
  · have h0 : ¬ s < 0 := by omega
    go_enter Try.func61, Try.ntmps61
    go_wp2
    exact bodyPost_ret (v := .tuple #[part 0 0 0, .int .i64 1]) (by simp [results, Try.results61, go_sem]; rfl) rfl ⟨rfl, ((Below.refl _ _).alloc (Nat.le_refl _) _ : Below _ _ _)⟩
theorem find_cons (x : Int) (l : List Int) (a : Int) : find (x :: l) a = if a < x ∨ l = [] then 0 else find l (a - x) + 1 := by
  cases l with
  | nil => simp [find]
  | cons y l => by_cases h : a < x <;> simp [find, h]
/-- What is found from the k-th on. -/
theorem find_drop (L : List Int) (k : Nat) (hk : k < L.length) (a : Int) : find (L.drop k) a = if a < L[k] ∨ k + 1 = L.length then 0 else find (L.drop (k + 1)) (a - L[k]) + 1 := by
  rw [List.drop_eq_getElem_cons hk, find_cons]
  have : (L.drop (k + 1) = []) ↔ (k + 1 = L.length) := by rw [List.drop_eq_nil_iff]; omega
  simp only [this]
set_option maxHeartbeats 1000000 in
theorem Find_some {w : World} {m h cap : Nat} {L : List Int} {f : Bool} (a : Is w m h cap L f) (good : Good L) (x : Int) (h0 : 0 ≤ x) (h1 : x < 4294967296) :
    Calls Try.prog 69 #[.pointer (some ⟨m, 0, none⟩), .int .u32 x] w fun e w' => e = .returned (.int .i64 (find L x)) ∧ w' = w := by
  have d0 := a.blk.cell (i := 0) rfl
  have hl2 := good.len2
  have hl1 := good.len1
  have A := Lib.hid a
  have G := Lib.hid good
  obtain ⟨n, hn⟩ : ∃ n, L.length = n := ⟨_, rfl⟩
  have HN := Lib.hid hn
  rw [hn] at d0 hl1 hl2
  clear hn a good
  go_enter Try.func69, Try.ntmps69
  go_wp2
  go_loop [1, 14] (fun v i => ∃ (k : Nat) (y : Int), k ≤ n ∧ i = .int .i64 (k : Int) ∧ v = .int .u32 y ∧ 0 ≤ y ∧ y < 4294967296 ∧ (k < n → Hid (find L x = find (L.drop k) y + k)) ∧ (k = n → Hid (find L x = n - 1))) (fun _ i => n - (intOf i).toNat)
  case atStart => exact ⟨0, x, by omega, rfl, rfl, h0, h1, fun _ => by show _ = _; rw [List.drop_zero]; rfl, fun h => by omega⟩
  case round =>
    obtain ⟨k, y, hk, rfl, rfl, hy0, hy1, hf, hl⟩ := hrel
    by_cases hlt : k < n
    · have d2 := A.out.row.cell (i := k) (by rw [HN.out]; omega)
      have hp := (G.out.at (k := k) (by rw [HN.out]; omega)).1
      have hF := hf hlt
      have HD := Lib.hid (find_drop L k (by rw [HN.out]; omega) y)
      clear hf hl
      generalize L[k]'(by rw [HN.out]; omega) = z at *
      by_cases hc : y < z
      · have HE : Hid (find L x = k) := by
          show _ = _
          rw [hF.out, HD.out, if_pos (.inl hc)]; omega
        go_wp2
        go_ret
        rw [HE.out]
        exact ⟨rfl, rfl⟩
      · go_wp2
        go_round
        case rel =>
          refine ⟨k + 1, y - z, by omega, by push_cast; rfl, rfl, by omega, by omega, fun h2 => ?_, fun h2 => ?_⟩
          · show _ = _
            rw [hF.out, HD.out, if_neg (by rw [HN.out]; omega)]; omega
          · show _ = _
            rw [hF.out, HD.out, if_pos (.inr (by rw [HN.out]; omega))]; omega
        case measure => simp [intOf]; omega
    · obtain rfl : k = n := by omega
      have hF := hl rfl
      clear hf hl
      go_wp2
      go_ret
      rw [hF.out]
      exact ⟨by rw [Int.natCast_sub hl1]; rfl, rfl⟩
theorem Find_none (x : Value) (w : World) : Calls Try.prog 69 #[.pointer none, x] w fun e w' => e = .returned (.int .i64 0) ∧ w' = w := by
  go_enter Try.func69, Try.ntmps69
  go_wp2
  go_ret
  exact ⟨rfl, rfl⟩
theorem Learn_none (s : Value) (w : World) : Calls Try.prog 62 #[.pointer none, s] w fun e w' => e = .returned (.int .i64 1) ∧ w' = w := by
  go_enter Try.func62, Try.ntmps62
  go_wp2
  go_ret
  exact ⟨rfl, rfl⟩
theorem Learn_bad {w : World} {m h cap : Nat} {L : List Int} {f : Bool} (a : Is w m h cap L f) (s : Int) (hs : s < 0 ∨ (L.length : Int) ≤ s) :
    Calls Try.prog 62 #[.pointer (some ⟨m, 0, none⟩), .int .i64 s] w fun e w' => e = .returned (.int .i64 1) ∧ w' = w := by
  have d0 := a.blk.cell (i := 0) rfl
  generalize L.length = n at *
  rcases hs with hs | hs
  · go_enter Try.func62, Try.ntmps62
    go_wp2
    go_ret
    exact ⟨rfl, rfl⟩
  · have h0 : ¬ s < 0 := by omega
    go_enter Try.func62, Try.ntmps62
    go_wp2
    go_ret
    exact ⟨rfl, rfl⟩
theorem Learn_fixed {w : World} {m h cap : Nat} {L : List Int} (a : Is w m h cap L true) (s : Nat) (hs : s < L.length) :
    Calls Try.prog 62 #[.pointer (some ⟨m, 0, none⟩), .int .i64 s] w fun e w' => e = .returned (.int .i64 0) ∧ w' = w := by
  have d0 := a.blk.cell (i := 0) rfl
  have d2 := a.blk.cell (i := 2) rfl
  generalize L.length = n at *
  go_enter Try.func62, Try.ntmps62
  go_wp2
  go_ret
  exact ⟨rfl, rfl⟩
set_option maxHeartbeats 2000000 in
set_option maxRecDepth 100000 in
theorem Learn_yes {w : World} {m h cap : Nat} {L : List Int} (a : Is w m h cap L false) (good : Good L) (s : Nat) (hs : s < L.length) :
    Calls Try.prog 62 #[.pointer (some ⟨m, 0, none⟩), .int .i64 s] w fun e w' => e = .returned (.int .i64 0) ∧ Is w' m h cap (learn L s) false ∧ Only (fun k => k = m ∨ k = h) w w' := by
  have d0 := a.blk.cell (i := 0) rfl
  have d1 := a.blk.cell (i := 1) rfl
  have d2 := a.blk.cell (i := 2) rfl
  have d3 := a.row.cell hs
  have f1 := a.blk.free 1
  have f3 := a.row.free s
  have hne := a.ne
  have hl2 := good.len2
  have hall := good.all
  have hb := good.at hs
  have HS := Lib.hid (lsum_bump L s hs)
  have HBL := Lib.hid (bump_len L s)
  have HBP := Lib.hid (bump_pos L s good.pos hs)
  have HW := Lib.hid a
  have HBset : Hid (bump L s = L.set s (L[s] + 32)) := Lib.hid (by unfold bump; rw [List.getD_eq_getElem?_getD, List.getElem?_eq_getElem hs]; rfl)
  have HLn : Hid (learn L s = if lsum (bump L s) > 8192 then halve (bump L s) else bump L s) := Lib.hid rfl
  obtain ⟨B, hB⟩ : ∃ B, bump L s = B := ⟨_, rfl⟩
  rw [hB] at HS HBL HBP HBset HLn
  obtain ⟨n, hn⟩ : ∃ n, L.length = n := ⟨_, rfl⟩
  rw [hn] at d0 hs hl2 HBL
  have i0 : (s : Int) < n := by omega
  have HN := Lib.hid hn
  generalize L[s]'(by omega) = x at *
  clear hB hn
  obtain ⟨al, hal⟩ : ∃ al, lsum L = al := ⟨_, rfl⟩
  have HA := Lib.hid hal
  rw [hal] at d1 hall hb HS
  clear hal a good
  have b1 : decide ((s : Int) < 0) = false := decide_eq_false (by omega)
  have b2 : decide (n ≤ s) = false := decide_eq_false (by omega)
  go_enter Try.func62, Try.ntmps62
  have hrow : RowI (w.setCell ⟨h, s, none⟩ (.int .u32 (x + 32))) 22 .u32 h cap B := by
    rw [HBset.out]; exact HW.out.row.set s (x + 32)
  have hblk : Blk (w.setCell ⟨h, s, none⟩ (.int .u32 (x + 32))) m 107 #[.slice (some ⟨h, 0, none⟩) n cap, .int .u32 al, .bool false] := by
    have := HW.out.blk.other (a := ⟨h, s, none⟩) hne (.int .u32 (x + 32))
    rwa [HN.out, HA.out] at this
  have honly : Only (fun k => k = m ∨ k = h) w (w.setCell ⟨h, s, none⟩ (.int .u32 (x + 32))) := (Only.refl _ w).set (p := ⟨h, s, none⟩) (.inl (.inr rfl)) _
  have HR := Lib.hid hrow
  have HK := Lib.hid hblk
  have HO := Lib.hid honly
  clear hrow hblk honly
  by_cases hc : 8192 < al + 32
  · go_wp2
    go_loopw [55] (fun v wr => ∃ k : Nat, k ≤ n ∧ v = .int .i64 (k : Int) ∧ Hid (Blk wr m 107 #[.slice (some ⟨h, 0, none⟩) n cap, .int .u32 (lsum ((halve B).take k)), .bool false]) ∧ Hid (RowI wr 22 .u32 h cap (mix (halve B) B k)) ∧ Hid (Only (fun k => k = m ∨ k = h) w wr)) (fun v _ => n - (intOf v).toNat)
    case atStart => exact ⟨0, by omega, rfl, (HK.out.set 1 (.int .u32 (al + 32))).set 1 (.int .u32 0), by rw [mix_zero]; exact (HR.out.other (a := ⟨m, 1, none⟩) (Ne.symm hne) _).other (a := ⟨m, 1, none⟩) (Ne.symm hne) _, (HO.out.set (p := ⟨m, 1, none⟩) (.inl (.inl rfl)) _).set (p := ⟨m, 1, none⟩) (.inl (.inl rfl)) _⟩
    case round =>
      clear HR HK HO d0 d1 d2 d3 f1 f3
      obtain ⟨k, hk, rfl, HK, HR, HO⟩ := hrel
      by_cases hlt : k < n
      · have hlen : (halve B).length = B.length := halve_len B
        have e0 := HK.out.cell (i := 0) rfl
        have e1 := HK.out.cell (i := 1) rfl
        have g1 := HK.out.free 1
        have e3 := HR.out.cell (i := k) (by rw [mix_len _ _ _ hlen (by rw [hlen, HBL.out]; omega), HBL.out]; omega)
        rw [mix_get _ _ _ hlen (by rw [HBL.out]; omega)] at e3
        have g3 := HR.out.free k
        have HSum := Lib.hid (lsum_take_succ (halve B) k (by rw [hlen, HBL.out]; omega))
        have HM := Lib.hid (mix_set (halve B) B k hlen (by rw [hlen, HBL.out]; omega))
        have hg := halve_get B k (by rw [HBL.out]; omega) (h' := by rw [hlen, HBL.out]; omega)
        rw [hg] at HSum HM
        have hy1 := HBP.out _ (List.getElem_mem (show k < B.length by rw [HBL.out]; omega))
        have hs0 := lsum_take_le (halve B) (fun x hx => by have := halve_pos B HBP.out x hx; omega) k
        have hs1 := halve_sum B HBP.out
        have hy2 := lsum_take_le B (fun x hx => by have := HBP.out x hx; omega) (k + 1)
        have hy3 := lsum_take_le B (fun x hx => by have := HBP.out x hx; omega) k
        rw [lsum_take_succ B k (by rw [HBL.out]; omega)] at hy2
        rw [HBL.out] at hs1
        rw [HS.out] at hs1 hy2 hy3
        clear hg
        generalize B[k]'(by rw [HBL.out]; omega) = y at *
        have HK2 := Lib.hid (HK.out.other (a := ⟨h, k, none⟩) hne (.int .u32 ((y + 1) / 2)))
        have HR2 := Lib.hid (HR.out.set k ((y + 1) / 2))
        have HO2 := Lib.hid (HO.out.set (p := ⟨h, k, none⟩) (.inl (.inr rfl)) (.int .u32 ((y + 1) / 2)))
        rw [HM.out] at HR2
        go_wp2
        clear e0 e1 e3 g1 g3 HK HR HO
        generalize (wr.setCell ⟨h, k, none⟩ (.int .u32 ((y + 1) / 2))) = wm at *
        have e0 := HK2.out.cell (i := 0) rfl
        have e1 := HK2.out.cell (i := 1) rfl
        have g1 := HK2.out.free 1
        have e3 : wm.cell? ⟨h, k, none⟩ = some (.int .u32 ((y + 1) / 2)) := by
          have := HR2.out.cell (i := k) (by rw [mix_len _ _ _ hlen (by rw [hlen, HBL.out]; omega), HBL.out]; omega)
          rw [this]
          congr 2
          rw [← Option.some_inj, ← List.getElem?_eq_getElem]
          rw [← HM.out, List.getElem?_set_self (by rw [mix_len _ _ _ hlen (by rw [hlen, HBL.out]; omega), HBL.out]; omega)]
        go_still_tail 14, (by kernel_rfl)
        go_wp2
        go_roundw
        case rel =>
          refine ⟨k + 1, by omega, by push_cast; rfl, ?_, ?_, ?_⟩
          · rw [HSum.out]
            exact (HK2.out.set 1 _).drew
          · exact (HR2.out.other (a := ⟨m, 1, none⟩) (Ne.symm hne) _).drew
          · exact (HO2.out.set (p := ⟨m, 1, none⟩) (.inl (.inl rfl)) _).drew
        case measure => simp [intOf]; omega
      · obtain rfl : k = n := by omega
        have e0 := HK.out.cell (i := 0) rfl
        go_wp2
        go_ret
        have h8 : lsum B > 8192 := by rw [HS.out]; omega
        have hlen : (halve B).length = B.length := halve_len B
        rw [HLn.out, if_pos h8]
        refine ⟨rfl, ⟨?_, ?_, hne⟩, HO.out⟩
        · have := HK.out
          rw [List.take_of_length_le (by rw [hlen, HBL.out]; omega)] at this
          rw [hlen, HBL.out]; exact this
        · have := HR.out
          rw [← HBL.out, mix_all _ _ hlen] at this
          exact this
  · have h8 : ¬ (lsum B > 8192) := by rw [HS.out]; omega
    rw [if_neg h8] at HLn
    rw [HLn.out]
    have hfin : Is ((w.setCell ⟨h, s, none⟩ (.int .u32 (x + 32))).setCell ⟨m, 1, none⟩ (.int .u32 (al + 32))) m h cap B false :=
      ⟨by rw [HBL.out, HS.out]; exact HK.out.set 1 _, HR.out.other (a := ⟨m, 1, none⟩) (Ne.symm hne) _, hne⟩
    have HFin := Lib.hid hfin
    clear hfin h8
    go_wp2
    go_ret
    exact ⟨rfl, HFin.out, HO.out.set (p := ⟨m, 1, none⟩) (.inl (.inl rfl)) _⟩
theorem Learn_any {w : World} {m h cap : Nat} {L : List Int} {f : Bool} (a : Is w m h cap L f) (good : Good L) (s : Nat) (hs : s < L.length) :
    Calls Try.prog 62 #[.pointer (some ⟨m, 0, none⟩), .int .i64 s] w fun e w' => e = .returned (.int .i64 0) ∧ Is w' m h cap (next f L s) f ∧ Only (fun k => k = m ∨ k = h) w w' := by
  cases f with
  | true =>
    refine (Learn_fixed a s hs).mono ?_
    rintro e w' ⟨rfl, rfl⟩
    exact ⟨rfl, a, Only.refl _ _⟩
  | false => exact Learn_yes a good s hs
end Go.Proofs.Ytlbjoflmfboeeaa.Mdl

/-
  Words: slices of whole numbers that own their block, and grow one by one. Plain theorems; no condition.
-/
set_option linter.unusedVariables false
namespace Go.Proofs.Ytlbjoflmfboeeaa
open Go.RowKit

theorem add_nought (a : Addr) : a.add 0 = a := by
  unfold Addr.add
  split
  · rename_i h; cases a; simp_all
  · rename_i h; cases a; simp_all
/-- v is a slice of these numbers at the head of a block of its own, or nil. -/
def Sl (w : World) (e : TypeId) (k : IntKind) (v : Value) (xs : List Int) : Prop :=
  (v = .slice none 0 0 ∧ xs = []) ∨ ∃ g cap, v = .slice (some ⟨g, 0, none⟩) xs.length cap ∧ RowI w e k g cap xs
section
variable {w w' : World} {e : TypeId} {k : IntKind} {v : Value} {xs : List Int}
theorem Sl.nil (w : World) (e : TypeId) (k : IntKind) : Sl w e k (.slice none 0 0) [] := .inl ⟨rfl, rfl⟩
theorem Sl.row {g cap : Nat} (h : RowI w e k g cap xs) : Sl w e k (.slice (some ⟨g, 0, none⟩) xs.length cap) xs := .inr ⟨g, cap, rfl, h⟩
theorem Sl.lt (h : Sl w e k v xs) {g : Nat} (hg : v.ownBlock = some g) : g < w.heap.size := by
  rcases h with ⟨rfl, _⟩ | ⟨g', cap, rfl, h⟩
  · cases hg
  · injection hg with e; subst e; exact h.lt
theorem Sl.of_same (h : Sl w e k v xs) (hs : ∀ g, v.ownBlock = some g → w'.heap[g]? = w.heap[g]?) : Sl w' e k v xs := by
  rcases h with h | ⟨g, cap, rfl, h⟩
  · exact .inl h
  · exact .inr ⟨g, cap, rfl, h.of_same (hs g rfl)⟩
theorem Sl.drew (h : Sl w e k v xs) : Sl w.drew e k v xs := h
theorem Sl.drewN (h : Sl w e k v xs) (n : Nat) : Sl (w.drewN n) e k v xs := h
theorem Sl.alloc (h : Sl w e k v xs) (o : Obj) : Sl (w.alloc o) e k v xs := h.of_same fun g hg => Below.heap_alloc w o g (h.lt hg)
theorem Sl.other (h : Sl w e k v xs) {a : Addr} (hne : v.ownBlock ≠ some a.block) (u : Value) : Sl (w.setCell a u) e k v xs :=
  h.of_same fun g hg => Below.heap_setCell w a u g (by rintro rfl; exact hne hg)
theorem Sl.only {S : Nat → Prop} (h : Sl w e k v xs) (o : Only S w w') (hn : ∀ g, v.ownBlock = some g → ¬ S g) : Sl w' e k v xs := h.of_same fun g hg => o.block g (h.lt hg) (hn g hg)
theorem Sl.below {B : Nat} (h : Sl w e k v xs) (hb : Below B w w') (hg : ∀ g, v.ownBlock = some g → g < B) : Sl w' e k v xs := h.of_same fun g hb' => hb.block g (hg g hb')
theorem Sl.form (h : Sl w e k v xs) : ∃ A cap, v = .slice A xs.length cap ∧ xs.length ≤ cap := by
  rcases h with ⟨rfl, rfl⟩ | ⟨g, cap, rfl, h⟩
  · exact ⟨none, 0, rfl, Nat.le_refl _⟩
  · exact ⟨_, cap, rfl, h.len.1⟩
theorem Sl.owns (h : Sl w e k v xs) : w.ownsRow 0 e 1 v xs.length (xs.map (Value.int k)) := by
  refine ⟨by simp, ?_⟩
  rcases h with ⟨rfl, rfl⟩ | ⟨g, cap, rfl, cs, hb, h1, h2, h3, h4⟩
  · exact .inl ⟨rfl, rfl⟩
  · refine .inr ⟨g, cap, cs, rfl, Nat.zero_le _, hb, h1, h2, by omega, ?_⟩
    apply List.ext_getElem?
    intro i
    rw [List.getElem?_take]
    by_cases hi : i < xs.length
    · rw [if_pos (by omega), Array.getElem?_toList, h4 i hi, List.getElem?_map, List.getElem?_eq_getElem hi]; rfl
    · rw [if_neg (by omega), List.getElem?_eq_none (by simpa using hi)]
theorem RowI.of_owns {g cap : Nat} (h : w.ownsRow 0 e 1 (.slice (some ⟨g, 0, none⟩) xs.length cap) xs.length (xs.map (Value.int k))) : RowI w e k g cap xs := by
  rcases h.2 with ⟨h1, _⟩ | ⟨g', cap', cur, h1, _, hb, h2, h3, h4, h5⟩
  · cases h1
  · injection h1 with e1 _ e3
    injection e1 with e1
    injection e1 with e1
    subst e1 e3
    refine ⟨cur, hb, h2, h3, by omega, fun i hi => ?_⟩
    have e1 : (cur.toList.take (xs.length * 1))[i]? = some (.int k xs[i]) := by rw [h5]; simp [hi]
    rw [List.getElem?_take, if_pos (by omega)] at e1
    simpa using e1
/-- Where one more is appended. -/
structure Pushed (w w' : World) (e : TypeId) (k : IntKind) (v : Value) (g cap : Nat) (ys : List Int) (H : Nat) : Prop where
  row : RowI w' e k g cap ys
  grown : w.grownBy w' v.ownBlock
  at_ : v.ownBlock = some g ∨ g = H
theorem Pushed.lt {g cap H : Nat} {ys : List Int} (h : Pushed w w' e k v g cap ys H) : g < w'.heap.size := h.row.lt
theorem Pushed.size {g cap H : Nat} {ys : List Int} (h : Pushed w w' e k v g cap ys H) : w.heap.size ≤ w'.heap.size := h.grown.size
theorem Pushed.block {g cap H : Nat} {ys : List Int} (h : Pushed w w' e k v g cap ys H) {i : Nat} (hi : i < w.heap.size) (hn : v.ownBlock ≠ some i) : w'.heap[i]? = w.heap[i]? := h.grown.block i hi (fun e => hn e.symm)
theorem Pushed.only {g cap H : Nat} {ys : List Int} (h : Pushed w w' e k v g cap ys H) : Only (fun i => v.ownBlock = some i) w w' :=
  ⟨h.grown.os, h.grown.tape, h.grown.output, h.grown.size, fun i hi hn => h.grown.block i hi (fun e => hn e.symm)⟩
end
section
variable {P : Program} {w : World}
theorem wpList_push {ops : Array Oper} {rest : List Oper} {o : Oper} {a : Act} {Q : Exit → Act → World → Prop} (s x : Operand) (t e : TypeId) (k : IntKind) (z : Int) (bytes : Nat) (hgd : o.guard = none)
    (ho : o.op = .call { callee := .builtin .append, args := #[s, x], argTypes := #[t, t] })
    (ht : P.underlying t = some (.slice e)) (hinfo : (P.info? e).map (fun i => (i.zero, i.size, i.bytes)) = some (some (.int k z), 1, bytes))
    (v : Value) (xs : List Int) (n : Nat) (y : Int) (ad : Addr) (H : Nat) (hs : a.eval s = v) (hx : a.eval x = .slice (some ad) 1 1) (hsl : Sl w e k v xs) (hn : xs.length = n) (hc : w.cell? ad = some (.int k y)) (hH : w.heap.size = H)
    (hb : (n + 1) * bytes ≤ 140737488355328) (hm : n < 140737488355328)
    (h : ∀ g cap w', Pushed w w' e k v g cap (xs ++ [y]) H → wpList P ops Q rest (a.put o.dst (.slice (some ⟨g, 0, none⟩) (n + 1) cap)) w') : wpList P ops Q (o :: rest) a w := by
  obtain ⟨i0, hi, hzz⟩ := Option.map_eq_some_iff.1 hinfo
  simp only [Prod.mk.injEq] at hzz
  obtain ⟨hz0, hz1, hz2⟩ := hzz
  subst hn
  refine wpList_append_lies (w := w) hgd s x t ho 0 e i0 (.int k z) 1 bytes ht hi hz0 hz1 hz2 rfl (by decide) v xs.length (xs.map (Value.int k)) hs hsl.owns ad 1 1 [.int k y] hx (by simp) ?_ (by simp [Value.oneCell']) (by decide) (by simp only [maxLen]; omega) hb (Nat.zero_le _) H hH ?_
  · intro j u hj
    match j, hj with
    | 0, hj => simp at hj; subst hj; rw [add_nought]; exact hc
    | j + 1, hj => simp at hj
  · intro g cap w' h1 h2 h3 h4
    refine h g cap w' ⟨RowI.of_owns ?_, h2, h3⟩
    have e1 : (xs ++ [y]).length = xs.length + 1 := by simp
    have e2 : (xs ++ [y]).map (Value.int k) = xs.map (Value.int k) ++ [.int k y] := by simp
    rw [e1, e2]; exact h1
theorem step_push {ops : Array Oper} {o : Oper} {a : Act} {K : Act → World → Prop} {Q : Exit → Act → World → Prop} {E : Prop} (s x : Operand) (t e : TypeId) (k : IntKind) (z : Int) (bytes : Nat) (hgd : o.guard = none)
    (ho : o.op = .call { callee := .builtin .append, args := #[s, x], argTypes := #[t, t] })
    (ht : P.underlying t = some (.slice e)) (hinfo : (P.info? e).map (fun i => (i.zero, i.size, i.bytes)) = some (some (.int k z), 1, bytes))
    (v : Value) (xs : List Int) (n : Nat) (y : Int) (ad : Addr) (H : Nat) (hs : a.eval s = v) (hx : a.eval x = .slice (some ad) 1 1) (hsl : Sl w e k v xs) (hn : xs.length = n) (hc : w.cell? ad = some (.int k y)) (hH : w.heap.size = H)
    (hb : (n + 1) * bytes ≤ 140737488355328) (hm : n < 140737488355328)
    (h : ∀ g cap w', Pushed w w' e k v g cap (xs ++ [y]) H → K (a.put o.dst (.slice (some ⟨g, 0, none⟩) (n + 1) cap)) w') :
    if Region.wanted o (yielded ops a.tmps) = true then Oper.wp P o a w K Q else E := by
  obtain ⟨i0, hi, hzz⟩ := Option.map_eq_some_iff.1 hinfo
  simp only [Prod.mk.injEq] at hzz
  obtain ⟨hz0, hz1, hz2⟩ := hzz
  subst hn
  refine step_append_lies (w := w) hgd s x t ho 0 e i0 (.int k z) 1 bytes ht hi hz0 hz1 hz2 rfl (by decide) v xs.length (xs.map (Value.int k)) hs hsl.owns ad 1 1 [.int k y] hx (by simp) ?_ (by simp [Value.oneCell']) (by decide) (by simp only [maxLen]; omega) hb (Nat.zero_le _) H hH ?_
  · intro j u hj
    match j, hj with
    | 0, hj => simp at hj; subst hj; rw [add_nought]; exact hc
    | j + 1, hj => simp at hj
  · intro g cap w' h1 h2 h3 h4
    refine h g cap w' ⟨RowI.of_owns ?_, h2, h3⟩
    have e1 : (xs ++ [y]).length = xs.length + 1 := by simp
    have e2 : (xs ++ [y]).map (Value.int k) = xs.map (Value.int k) ++ [.int k y] := by simp
    rw [e1, e2]; exact h1
/-- u is a slice of these numbers, wherever they lie. -/
def Src (w : World) (k : IntKind) (u : Value) (ys : List Int) : Prop :=
  ∃ A c, u = .slice A ys.length c ∧ (0 < ys.length → ∃ ad, A = some ad ∧ ∀ j (h : j < ys.length), w.cell? (ad.add j) = some (.int k ys[j]))
theorem Src.of_sl {w : World} {e : TypeId} {k : IntKind} {v : Value} {xs : List Int} (h : Sl w e k v xs) : Src w k v xs := by
  rcases h with ⟨rfl, rfl⟩ | ⟨g, cap, rfl, h⟩
  · exact ⟨none, 0, rfl, fun h => by simp at h⟩
  · refine ⟨_, cap, rfl, fun _ => ⟨_, rfl, fun j hj => ?_⟩⟩
    have e1 : (Addr.add ⟨g, 0, none⟩ j) = ⟨g, j, none⟩ := by unfold Addr.add; split <;> simp_all
    rw [e1]; exact h.cell hj
theorem Src.of_C {w : World} {k : IntKind} {A : Option Addr} {c : Nat} {ys : List Int} (h : (Go.Proofs.YtlbjoflmfboeeaaW.PrintWords.Kd.int k).C w A ys.length ys) : Src w k (.slice A ys.length c) ys := by
  refine ⟨A, c, rfl, fun h0 => ?_⟩
  obtain ⟨ad, e, _⟩ := cell_C h h0
  subst e
  refine ⟨ad, rfl, fun j hj => ?_⟩
  obtain ⟨ad', e', hc⟩ := cell_C h hj
  injection e' with e'
  subst e'
  exact hc
theorem Src.same {w w' : World} {k : IntKind} {u : Value} {ys : List Int} (h : Src w k u ys) (hs : ∀ g, u.ownBlock = some g → 0 < ys.length → w'.heap[g]? = w.heap[g]?) : Src w' k u ys := by
  obtain ⟨A, c, rfl, h⟩ := h
  refine ⟨A, c, rfl, fun h0 => ?_⟩
  obtain ⟨ad, rfl, hc⟩ := h h0
  refine ⟨ad, rfl, fun j hj => ?_⟩
  rw [← hc j hj]
  exact World.cell?_of_block (by rw [add_block]; exact hs ad.block rfl h0)
theorem Src.drew {w : World} {k : IntKind} {u : Value} {ys : List Int} (h : Src w k u ys) : Src w.drew k u ys := h
theorem Src.lt {w : World} {k : IntKind} {u : Value} {ys : List Int} (h : Src w k u ys) {g : Nat} (hg : u.ownBlock = some g) (h0 : 0 < ys.length) : g < w.heap.size := by
  obtain ⟨A, c, rfl, h⟩ := h
  obtain ⟨ad, rfl, hc⟩ := h h0
  have e : ad.block = g := Option.some.inj hg
  have := World.block_lt_of_cell? w _ (hc 0 h0)
  rw [add_block, e] at this
  exact this
theorem Src.below {w w' : World} {k : IntKind} {u : Value} {ys : List Int} (h : Src w k u ys) (b : Below w.heap.size w w') : Src w' k u ys := h.same fun g hg h0 => b.block g (h.lt hg h0)
/-- Where many are appended. -/
structure Added (w w' : World) (e : TypeId) (k : IntKind) (v v' : Value) (ys : List Int) (H : Nat) : Prop where
  sl : Sl w' e k v' ys
  grown : w.grownBy w' v.ownBlock
  at_ : v'.ownBlock = v.ownBlock ∨ v'.ownBlock = some H
theorem Added.only {w w' : World} {e : TypeId} {k : IntKind} {v v' : Value} {ys : List Int} {H : Nat} (h : Added w w' e k v v' ys H) : Only (fun i => v.ownBlock = some i) w w' :=
  ⟨h.grown.os, h.grown.tape, h.grown.output, h.grown.size, fun i hi hn => h.grown.block i hi (fun e => hn e.symm)⟩
theorem Sl.of_owns {w : World} {e : TypeId} {k : IntKind} {v : Value} {xs : List Int} {n : Nat} (h : w.ownsRow 0 e 1 v n (xs.map (Value.int k))) : Sl w e k v xs := by
  have hn : xs.length = n := by have := h.1; simpa using this
  subst hn
  rcases h.2 with ⟨rfl, h0⟩ | ⟨g, cap, cur, rfl, r⟩
  · exact .inl ⟨rfl, List.eq_nil_of_length_eq_zero h0⟩
  · exact Sl.row (RowI.of_owns h)
theorem run_add (t ty e : TypeId) (k : IntKind) (z : Int) (bytes : Nat) (ht : P.underlying t = some (.slice e)) (hinfo : (P.info? e).map (fun i => (i.zero, i.size, i.bytes)) = some (some (.int k z), 1, bytes))
    (v u : Value) (xs ys : List Int) (hsl : Sl w e k v xs) (hx : Src w k u ys) (hb : (xs.length + ys.length) * bytes ≤ 140737488355328) (hm : xs.length + ys.length ≤ 140737488355328) :
    ∃ v' w', (Builtin.append_ #[t, t] ty #[v, u]).run P w = .ok v' w' ∧ Added w w' e k v v' (xs ++ ys) w.heap.size := by
  obtain ⟨i0, hi, hzz⟩ := Option.map_eq_some_iff.1 hinfo
  simp only [Prod.mk.injEq] at hzz
  obtain ⟨hz0, hz1, hz2⟩ := hzz
  obtain ⟨A, c, rfl, hy⟩ := hx
  by_cases h0 : 0 < ys.length
  · obtain ⟨ad, rfl, hc⟩ := hy h0
    obtain ⟨v', w', h1, h2, h3, _, h5⟩ := run_append_own_at (P := P) w 0 t ty e i0 (.int k z) 1 bytes ht hi hz0 hz1 hz2 rfl (by decide) v xs.length (xs.map (Value.int k)) hsl.owns ad ys.length c (ys.map (Value.int k)) (by simp) (fun j q hj => by
      rw [List.getElem?_map] at hj
      have hjl : j < ys.length := by
        rcases Nat.lt_or_ge j ys.length with h | h
        · exact h
        · rw [List.getElem?_eq_none h] at hj; cases hj
      rw [List.getElem?_eq_getElem hjl] at hj
      rw [hc j hjl]; exact hj) (fun q hq => by obtain ⟨y, _, rfl⟩ := List.mem_map.1 hq; rfl) (by simp only [maxLen]; omega) hb (Nat.zero_le _)
    refine ⟨v', w', h1, ⟨Sl.of_owns (n := xs.length + ys.length) (by rw [List.map_append]; exact h2), h3, h5⟩⟩
  · have hn : ys = [] := List.eq_nil_of_length_eq_zero (by omega)
    subst hn
    rw [List.append_nil]
    have refl : w.grownBy w v.ownBlock := ⟨rfl, rfl, rfl, Nat.le_refl _, fun _ _ _ => rfl⟩
    cases A with
    | none =>
      refine ⟨v, w, ?_, ⟨hsl, refl, .inl rfl⟩⟩
      rcases hsl with ⟨rfl, rfl⟩ | ⟨g, cap, rfl, h⟩
      · simp [Builtin.append_, run_underlying ht, sizeOf, typeInfo, hi, Builtin.lenOf, Builtin.firstCells]
      · simp [Builtin.append_, run_underlying ht, sizeOf, typeInfo, hi, Builtin.lenOf, Builtin.firstCells, h.len.1, storeCells]
    | some ad =>
      obtain ⟨v', w', h1, h2, h3, _, h5⟩ := run_append_own_at (P := P) w 0 t ty e i0 (.int k z) 1 bytes ht hi hz0 hz1 hz2 rfl (by decide) v xs.length (xs.map (Value.int k)) hsl.owns ad 0 c [] (by simp) (fun j q hj => by simp at hj) (fun q hq => by cases hq) (by simp only [maxLen]; omega) (by simpa using hb) (Nat.zero_le _)
      rw [List.append_nil] at h2
      exact ⟨v', w', h1, ⟨Sl.of_owns h2, h3, h5⟩⟩
theorem wpList_add {ops : Array Oper} {rest : List Oper} {o : Oper} {a : Act} {Q : Exit → Act → World → Prop} (s x : Operand) (t e : TypeId) (k : IntKind) (z : Int) (bytes : Nat) (hgd : o.guard = none)
    (ho : o.op = .call { callee := .builtin .append, args := #[s, x], argTypes := #[t, t] })
    (ht : P.underlying t = some (.slice e)) (hinfo : (P.info? e).map (fun i => (i.zero, i.size, i.bytes)) = some (some (.int k z), 1, bytes))
    (v u : Value) (xs ys : List Int) (hs : a.eval s = v) (hx : a.eval x = u) (hsl : Sl w e k v xs) (hsrc : Src w k u ys) (hb : (xs.length + ys.length) * bytes ≤ 140737488355328) (hm : xs.length + ys.length ≤ 140737488355328)
    (h : ∀ v' w', Added w w' e k v v' (xs ++ ys) w.heap.size → wpList P ops Q rest (a.put o.dst v') w') : wpList P ops Q (o :: rest) a w := by
  refine wpList_plain hgd fun K hK => ?_
  obtain ⟨v', w', hr, h2⟩ := run_add (P := P) (w := w) t o.type e k z bytes ht hinfo v u xs ys hsl hsrc hb hm
  unfold Oper.wp execOp
  simp only [ho, resolve, invoke, builtin, Sem.run_bind, Sem.run_pure, Result.andThen_ok, List.map_toArray, List.map_cons, List.map_nil, hs, hx, hr]
  exact hK _ _ (h v' w' h2)
theorem step_add {ops : Array Oper} {o : Oper} {a : Act} {K : Act → World → Prop} {Q : Exit → Act → World → Prop} {E : Prop} (s x : Operand) (t e : TypeId) (k : IntKind) (z : Int) (bytes : Nat) (hgd : o.guard = none)
    (ho : o.op = .call { callee := .builtin .append, args := #[s, x], argTypes := #[t, t] })
    (ht : P.underlying t = some (.slice e)) (hinfo : (P.info? e).map (fun i => (i.zero, i.size, i.bytes)) = some (some (.int k z), 1, bytes))
    (v u : Value) (xs ys : List Int) (hs : a.eval s = v) (hx : a.eval x = u) (hsl : Sl w e k v xs) (hsrc : Src w k u ys) (hb : (xs.length + ys.length) * bytes ≤ 140737488355328) (hm : xs.length + ys.length ≤ 140737488355328)
    (h : ∀ v' w', Added w w' e k v v' (xs ++ ys) w.heap.size → K (a.put o.dst v') w') :
    if Region.wanted o (yielded ops a.tmps) = true then Oper.wp P o a w K Q else E := by
  have hw : Region.wanted o (yielded ops a.tmps) = true := by simp [Region.wanted, hgd]
  rw [if_pos hw]
  obtain ⟨v', w', hr, h2⟩ := run_add (P := P) (w := w) t o.type e k z bytes ht hinfo v u xs ys hsl hsrc hb hm
  unfold Oper.wp execOp
  simp only [ho, resolve, invoke, builtin, Sem.run_bind, Sem.run_pure, Result.andThen_ok, List.map_toArray, List.map_cons, List.map_nil, hs, hx, hr]
  exact h v' w' h2
end
theorem RowI.take {w : World} {e : TypeId} {k : IntKind} {g cap : Nat} {xs : List Int} (h : RowI w e k g cap xs) (n : Nat) : RowI w e k g cap (xs.take n) := by
  obtain ⟨cs, h1, h2, h3, h4, h5⟩ := h
  refine ⟨cs, h1, by rw [List.length_take]; omega, h3, h4, fun i hi => ?_⟩
  rw [List.length_take] at hi
  rw [h5 i (by omega), List.getElem_take]
end Go.Proofs.Ytlbjoflmfboeeaa

/-
  The walks of the document's model: New, Sum, Find, Learn, and of both Fixed; no condition but those told.
-/
set_option linter.unusedVariables false
set_option linter.unusedSimpArgs false
namespace Go.Proofs.Ytlbjoflmfboeeaa.Mdl
open Go.RowKit Go.Proofs.Ytlbjoflmfboeeaa Go.Proofs.YtlbjoflmfboeeaaW.PrintWords

theorem info_int : (Try.prog.info? 3).map (fun i => (i.zero, i.size, i.bytes)) = some (some (.int .i64 0), 1, 8) := by kernel_rfl
theorem info_u32 : (Try.prog.info? 22).map (fun i => (i.zero, i.size, i.bytes)) = some (some (.int .u32 0), 1, 4) := by kernel_rfl
theorem rep_snoc (k : Nat) (x : Int) : List.replicate k x ++ [x] = List.replicate (k + 1) x := by
  rw [List.replicate_succ']
set_option maxHeartbeats 1000000 in
set_option maxRecDepth 100000 in
theorem RNew_yes (n : Nat) (h1 : 1 ≤ n) (h2 : n ≤ 64) (w : World) : Calls Try.prog 23 #[.int .i64 n] w fun e w' => ∃ m h cap, e = .returned (.tuple #[.pointer (some ⟨m, 0, none⟩), .bool true]) ∧ w.heap.size ≤ m ∧ w.heap.size ≤ h ∧ IsR w' m h cap (List.replicate n 1) false ∧ Below w.heap.size w w' := by
  go_enter Try.func23, Try.ntmps23
  go_wp2
  go_loopw [5] (fun i wr => ∃ (k : Nat) (v : Value), k ≤ n ∧ i = .int .i64 (k : Int) ∧ Hid (Blk wr w.heap.size 116 #[v, .bool false]) ∧ Hid (Sl wr 3 .i64 v (List.replicate k 1)) ∧ Hid (∀ g, v.ownBlock = some g → w.heap.size < g) ∧ Hid (Below w.heap.size w wr)) (fun v _ => n - (intOf v).toNat)
  case atStart => exact ⟨0, .slice none 0 0, by omega, rfl, Blk.new _ _ _, Sl.nil _ _ _, fun g hg => (by cases hg), ((Below.refl _ _).alloc (Nat.le_refl _) _ : Below _ _ _)⟩
  case round =>
    obtain ⟨k, v, hk, rfl, HM, HS, HN, HB⟩ := hrel
    by_cases hlt : k < n
    · have d0 := HM.out.cell (i := 0) rfl
      have hwr := HM.out.lt
      go_wp2_with (first
        | (at_builtin; refine wpList_push (.tmp 23) (.tmp 24) 54 3 .i64 0 8 rfl rfl Try.underlying54 info_int v (List.replicate k 1) k 1 ⟨wr.heap.size, 0, none⟩ (wr.heap.size + 1) rfl rfl (HS.out.alloc _) (by simp) ((Blk.new wr _ _).cell rfl) (by simp) (by omega) (by omega) ?_
           intro g cap w1 hp
           have HM1 := Lib.hid ((HM.out.alloc (.cells #[.int .i64 1] 3)).of_same (hp.block (by simp; omega) (fun e => by have := HN.out _ e; omega)))
           have d1 := HM1.out.cell (i := 0) rfl
           have f1 := HM1.out.free 0
           have HP := Lib.hid hp
           clear hp))
      go_roundw
      case rel =>
        have hgw : w.heap.size < g := by
          rcases HP.out.at_ with h | h
          · exact HN.out g h
          · omega
        refine ⟨k + 1, .slice (some ⟨g, 0, none⟩) (k + 1) cap, by omega, by push_cast; rfl, HM1.out.set 0 _, ?_, fun g' hg' => ?_, ?_⟩
        · have := Sl.row (HP.out.row.other (a := ⟨w.heap.size, 0, none⟩) (by simp; omega) (.slice (some ⟨g, 0, none⟩) (k + 1) cap))
          rw [rep_snoc, List.length_replicate] at this
          exact this
        · have e : g = g' := Option.some.inj hg'
          omega
        · exact (((HB.out.alloc HB.out.size _).trans (HP.out.only.below (B := w.heap.size) (by simp; omega) (fun i hi => by have := HN.out i hi; omega))).setCell (p := ⟨w.heap.size, 0, none⟩) (Nat.le_refl _) _ : Below _ _ _)
      case measure => simp [intOf]; omega
    · obtain rfl : k = n := by omega
      have hs := HS.out
      rcases hs with ⟨_, h0⟩ | ⟨g, cap, rfl, hr⟩
      · have := congrArg List.length h0
        rw [List.length_replicate] at this
        simp at this; omega
      · have hg := HN.out g rfl
        have HR := Lib.hid hr
        clear hr
        go_wp2
        go_ret2
        exact ⟨w.heap.size, g, cap, rfl, Nat.le_refl _, by omega, ⟨HM.out, HR.out, by omega⟩, HB.out⟩
theorem RSum_calls {w : World} {m h cap : Nat} {L : List Int} {f : Bool} (a : IsR w m h cap L f) (nn : ∀ x ∈ L, 0 ≤ x) (all : lsum L ≤ 1000000000) (s : Nat) (hs : s ≤ L.length) (hl : L.length ≤ 64) :
    Calls Try.prog 63 #[.pointer (some ⟨m, 0, none⟩), .int .i64 s] w fun e w' => e = .returned (.int .i64 (lsum (L.take s))) ∧ w' = w := by
  have d0 := a.blk.cell (i := 0) rfl
  have A := Lib.hid a
  have NN := Lib.hid nn
  clear a nn
  obtain ⟨n, hn⟩ : ∃ n, L.length = n := ⟨_, rfl⟩
  have HN := Lib.hid hn
  rw [hn] at d0 hs hl
  clear hn
  go_enter Try.func63, Try.ntmps63
  go_wp2
  go_loop [5, 6] (fun v i => ∃ k : Nat, k ≤ s ∧ i = .int .i64 (k : Int) ∧ v = .int .i64 (lsum (L.take k))) (fun _ i => s - (intOf i).toNat)
  case atStart => exact ⟨0, by omega, rfl, rfl⟩
  case round =>
    obtain ⟨k, hk, rfl, rfl⟩ := hrel
    by_cases hlt : k < s
    · have d2 := A.out.row.cell (i := k) (by rw [HN.out]; omega)
      have h1 := lsum_take_le L NN.out k
      have h2 := lsum_take_le L NN.out (k + 1)
      have h3 := NN.out _ (List.getElem_mem (show k < L.length by rw [HN.out]; omega))
      have HS := Lib.hid (lsum_take_succ L k (by rw [HN.out]; omega))
      rw [HS.out] at h2
      generalize L[k]'(by rw [HN.out]; omega) = y at *
      have i1 : (k : Int) < n := by omega
      go_wp2
      go_round
      case rel => exact ⟨k + 1, by omega, by push_cast; rfl, by rw [HS.out]⟩
      case measure => simp [intOf]; omega
    · obtain rfl : k = s := by omega
      go_wp2
      go_ret
      exact ⟨rfl, rfl⟩
/-- What is found by sums. -/
theorem find_before (L : List Int) (x : Int) (k : Nat) (hk : k < find L x) : lsum (L.take (k + 1)) ≤ x := by
  induction L generalizing x k with
  | nil => simp [find] at hk
  | cons a l ih =>
    rw [find_cons] at hk
    by_cases h : x < a ∨ l = []
    · rw [if_pos h] at hk; omega
    · rw [if_neg h] at hk
      have hxa : ¬ x < a := fun e => h (.inl e)
      cases k with
      | zero => simp [lsum]; omega
      | succ k =>
        have := ih (x - a) k (by omega)
        have e : lsum ((a :: l).take (k + 1 + 1)) = a + lsum (l.take (k + 1)) := by simp [lsum]
        omega
theorem find_at (L : List Int) (x : Int) (h0 : 0 ≤ x) (hf : find L x + 1 < L.length) : x < lsum (L.take (find L x + 1)) := by
  induction L generalizing x with
  | nil => simp at hf
  | cons a l ih =>
    rw [find_cons] at hf ⊢
    by_cases h : x < a ∨ l = []
    · rw [if_pos h] at hf ⊢
      rcases h with h | h
      · simp [lsum]; omega
      · subst h; simp at hf
    · rw [if_neg h] at hf ⊢
      have hxa : ¬ x < a := fun e => h (.inl e)
      have := ih (x - a) (by omega) (by simp at hf; omega)
      have e : lsum ((a :: l).take (find l (x - a) + 1 + 1)) = a + lsum (l.take (find l (x - a) + 1)) := by simp [lsum]
      omega
set_option maxHeartbeats 1000000 in
theorem RFind_calls {w : World} {m h cap : Nat} {L : List Int} {f : Bool} (a : IsR w m h cap L f) (good : Good L) (x : Int) (h0 : 0 ≤ x) (h1 : x < 4294967296) :
    Calls Try.prog 72 #[.pointer (some ⟨m, 0, none⟩), .int .i64 x] w fun e w' => e = .returned (.int .i64 (find L x)) ∧ w' = w := by
  have d0 := a.blk.cell (i := 0) rfl
  have hl2 := good.len2
  have hl1 := good.len1
  have A := Lib.hid a
  have G := Lib.hid good
  clear a good
  obtain ⟨n, hn⟩ : ∃ n, L.length = n := ⟨_, rfl⟩
  have HN := Lib.hid hn
  have hfl := find_lt L x (by omega)
  have HB := Lib.hid (find_before L x)
  have HT := Lib.hid (find_at L x h0)
  rw [hn] at d0 hl1 hl2 hfl HT
  generalize find L x = r at *
  clear hn
  go_enter Try.func72, Try.ntmps72
  go_wp2
  go_loopw [5] (fun i wr => ∃ k : Nat, k ≤ n ∧ i = .int .i64 (k : Int) ∧ (k ≤ r ∨ k = n ∧ r + 1 = n) ∧ wr = w) (fun i _ => n - (intOf i).toNat)
  case atStart => exact ⟨0, by omega, rfl, .inl (by omega), rfl⟩
  case round =>
    obtain ⟨k, hk, rfl, hkr, rfl⟩ := hrel
    by_cases hlt : k < n
    · have hkr2 : k ≤ r := by omega
      have hall := G.out.all
      have nn := G.out.nonneg
      have HSn := Lib.hid (RSum_calls A.out nn (by omega) (k + 1) (by rw [HN.out]; omega) (by rw [HN.out]; omega))
      have h2 := lsum_take_le L nn (k + 1)
      have b1 : k < r → lsum (L.take (k + 1)) ≤ x := HB.out k
      have b2 : k = r → r + 1 < n → x < lsum (L.take (k + 1)) := by rintro rfl hh; exact HT.out hh
      clear nn hkr
      obtain ⟨sm, hsm⟩ : ∃ sm, lsum (L.take (k + 1)) = sm := ⟨_, rfl⟩
      rw [hsm] at h2 b1 b2 HSn
      clear hsm
      have e1 : IntKind.i64.wrap ((k : Int) + 1) = ((k + 1 : Nat) : Int) := by rw [wrapI64 (by omega) (by omega)]; rfl
      by_cases hc : x < sm
      · have hrk : r = k := by
          rcases Nat.lt_or_ge k r with h | h
          · have := b1 h; omega
          · omega
        clear b1 b2
        subst hrk
        go_wp2_with (go_at_call 63; refine HSn.out.mono ?_; rintro e w' ⟨rfl, rfl⟩)
        go_ret
        exact ⟨rfl, rfl⟩
      · have hrk : k < r ∨ (k = r ∧ r + 1 = n) := by
          rcases Nat.lt_or_ge k r with h | h
          · exact .inl h
          · refine .inr ⟨by omega, ?_⟩
            rcases Nat.lt_or_ge (r + 1) n with h3 | h3
            · have := b2 (by omega) h3; omega
            · omega
        clear b1 b2
        go_wp2_with (go_at_call 63; refine HSn.out.mono ?_; rintro e w' ⟨rfl, rfl⟩)
        go_roundw
        case rel => exact ⟨k + 1, by omega, by push_cast; rfl, by omega, trivial⟩
        case measure => simp [intOf]; omega
    · obtain rfl : k = n := by omega
      have hr : r = k - 1 := by omega
      go_wp2
      go_ret
      exact ⟨by rw [Int.natCast_sub hl1]; rfl, rfl⟩
theorem RLearn_fixed {w : World} {m h cap : Nat} {L : List Int} (a : IsR w m h cap L true) (s : Nat) :
    Calls Try.prog 64 #[.pointer (some ⟨m, 0, none⟩), .int .i64 s] w fun e w' => e = .returned (.tuple #[]) ∧ w' = w := by
  have d1 := a.blk.cell (i := 1) rfl
  go_enter Try.func64, Try.ntmps64
  go_wp2
  exact bodyPost_ret (results_none rfl _ _ _) rfl ⟨rfl, rfl⟩
set_option maxHeartbeats 2000000 in
set_option maxRecDepth 100000 in
theorem RLearn_yes {w : World} {m h cap : Nat} {L : List Int} (a : IsR w m h cap L false) (good : Good L) (s : Nat) (hs : s < L.length) :
    Calls Try.prog 64 #[.pointer (some ⟨m, 0, none⟩), .int .i64 s] w fun e w' => e = .returned (.tuple #[]) ∧ IsR w' m h cap (learn L s) false ∧ Only (fun k => k = m ∨ k = h) w w' := by
  have d0 := a.blk.cell (i := 0) rfl
  have d1 := a.blk.cell (i := 1) rfl
  have d3 := a.row.cell hs
  have f3 := a.row.free s
  have hne := a.ne
  have hl2 := good.len2
  have hall := good.all
  have hb := good.at hs
  have HS := Lib.hid (lsum_bump L s hs)
  have HBL := Lib.hid (bump_len L s)
  have HBP := Lib.hid (bump_pos L s good.pos hs)
  have HW := Lib.hid a
  have HBset : Hid (bump L s = L.set s (L[s] + 32)) := Lib.hid (by unfold bump; rw [List.getD_eq_getElem?_getD, List.getElem?_eq_getElem hs]; rfl)
  have HLn : Hid (learn L s = if lsum (bump L s) > 8192 then halve (bump L s) else bump L s) := Lib.hid rfl
  obtain ⟨B, hB⟩ : ∃ B, bump L s = B := ⟨_, rfl⟩
  rw [hB] at HS HBL HBP HBset HLn
  obtain ⟨n, hn⟩ : ∃ n, L.length = n := ⟨_, rfl⟩
  rw [hn] at d0 hs hl2 HBL
  have i0 : (s : Int) < n := by omega
  have HN := Lib.hid hn
  generalize L[s]'(by omega) = x at *
  clear hB hn
  have HA := Lib.hid (Eq.refl (lsum L))
  clear a good
  have hrow : RowI (w.setCell ⟨h, s, none⟩ (.int .i64 (x + 32))) 3 .i64 h cap B := by
    rw [HBset.out]; exact HW.out.row.set s (x + 32)
  have hblk : Blk (w.setCell ⟨h, s, none⟩ (.int .i64 (x + 32))) m 116 #[.slice (some ⟨h, 0, none⟩) n cap, .bool false] := by
    have := HW.out.blk.other (a := ⟨h, s, none⟩) hne (.int .i64 (x + 32))
    rwa [HN.out] at this
  have honly : Only (fun k => k = m ∨ k = h) w (w.setCell ⟨h, s, none⟩ (.int .i64 (x + 32))) := (Only.refl _ w).set (p := ⟨h, s, none⟩) (.inl (.inr rfl)) _
  have HR := Lib.hid hrow.drew
  have HK := Lib.hid hblk.drew
  have HO := Lib.hid honly.drew
  clear hrow hblk honly
  go_enter Try.func64, Try.ntmps64
  go_wp2
  go_still_tail 14, (by kernel_rfl)
  go_wp2_with fail
  clear d0 d1 d3 f3
  generalize (w.setCell ⟨h, s, none⟩ (.int .i64 (x + 32))).drew = wm at *
  have HI : Hid (IsR wm m h cap B false) := Lib.hid ⟨by rw [HBL.out]; exact HK.out, HR.out, hne⟩
  have hsum := RSum_calls HI.out (fun x hx => by have := HBP.out x hx; omega) (by rw [HS.out]; omega) n (by rw [HBL.out]; omega) (by rw [HBL.out]; omega)
  rw [List.take_of_length_le (by rw [HBL.out]; omega)] at hsum
  have HSm := Lib.hid hsum
  have hS2 := HS.out
  clear hsum
  obtain ⟨sm, hsm⟩ : ∃ sm, lsum B = sm := ⟨_, rfl⟩
  rw [hsm] at HSm hS2 HLn
  obtain ⟨al, hal⟩ : ∃ al, lsum L = al := ⟨_, rfl⟩
  rw [hal] at hS2 hall
  have hsm9 : sm ≤ 8224 := by omega
  have hsmB : Hid (lsum B ≤ 8224) := Lib.hid (by rw [hsm]; omega)
  clear hal hS2 hsm HA HS
  have d0 := HK.out.cell (i := 0) rfl
  by_cases hc : 8192 < sm
  · refine HSm.out.mono ?_
    rintro e w' ⟨rfl, rfl⟩
    go_wp2
    go_loopw [4] (fun v wr => ∃ k : Nat, k ≤ n ∧ v = .int .i64 (k : Int) ∧ Hid (Blk wr m 116 #[.slice (some ⟨h, 0, none⟩) n cap, .bool false]) ∧ Hid (RowI wr 3 .i64 h cap (mix (halve B) B k)) ∧ Hid (Only (fun k => k = m ∨ k = h) w wr)) (fun v _ => n - (intOf v).toNat)
    case atStart => exact ⟨0, by omega, rfl, HK, by rw [mix_zero]; exact HR, HO⟩
    case round =>
      clear HI HSm d0 HR HK HO
      obtain ⟨k, hk, rfl, HK, HR, HO⟩ := hrel
      have e0 := HK.out.cell (i := 0) rfl
      by_cases hlt : k < n
      · have hlen : (halve B).length = B.length := halve_len B
        have e3 := HR.out.cell (i := k) (by rw [mix_len _ _ _ hlen (by rw [hlen, HBL.out]; omega), HBL.out]; omega)
        rw [mix_get _ _ _ hlen (by rw [HBL.out]; omega)] at e3
        have g3 := HR.out.free k
        have HM := Lib.hid (mix_set (halve B) B k hlen (by rw [hlen, HBL.out]; omega))
        have hg := halve_get B k (by rw [HBL.out]; omega) (h' := by rw [hlen, HBL.out]; omega)
        rw [hg] at HM
        have hy1 := HBP.out _ (List.getElem_mem (show k < B.length by rw [HBL.out]; omega))
        have hset : B = L.set s (x + 32) := HBset.out
        have i1 : (k : Int) < n := by omega
        have hy2 : B[k]'(by rw [HBL.out]; omega) ≤ 1000000 := by
          have h1 := lsum_take_le B (fun x hx => by have := HBP.out x hx; omega) k
          have h2 := lsum_take_le B (fun x hx => by have := HBP.out x hx; omega) (k + 1)
          rw [lsum_take_succ B k (by rw [HBL.out]; omega)] at h2
          have := hsmB.out
          omega
        clear hset hg
        generalize B[k]'(by rw [HBL.out]; omega) = y at *
        go_wp2
        go_still_tail 15, (by kernel_rfl)
        go_wp2
        go_roundw
        case rel => exact ⟨k + 1, by omega, by push_cast; rfl, (HK.out.other (a := ⟨h, k, none⟩) hne (.int .i64 ((y + 1) / 2))).drew, by rw [← HM.out]; exact (HR.out.set k _).drew, (HO.out.set (p := ⟨h, k, none⟩) (.inl (.inr rfl)) _).drew⟩
        case measure => simp [intOf]; omega
      · obtain rfl : k = n := by omega
        go_wp2
        rw [HLn.out, if_pos hc]
        have hlen : (halve B).length = B.length := halve_len B
        have hfin : IsR wr m h cap (halve B) false := ⟨by rw [hlen, HBL.out]; exact HK.out, by
          have := HR.out
          rw [← HBL.out, mix_all _ _ hlen] at this
          exact this, hne⟩
        exact bodyPost_end (results_none rfl _ _ _) rfl ⟨rfl, hfin, HO.out⟩
  · refine HSm.out.mono ?_
    rintro e w' ⟨rfl, rfl⟩
    go_wp2
    rw [HLn.out, if_neg (by omega)]
    exact bodyPost_end (results_none rfl _ _ _) rfl ⟨rfl, HI.out, HO.out⟩
set_option maxHeartbeats 2000000 in
set_option maxRecDepth 100000 in
theorem Fixed_yes (L : List Int) (good : Good L) (A0 : Option Addr) (c0 : Nat) (w : World) (hr : Kd.C (Kd.int .u32) w A0 L.length L) (hc : L.length ≤ c0) :
    Calls Try.prog 24 #[.slice A0 L.length c0] w fun e w' => ∃ m h cap, e = .returned (.tuple #[.pointer (some ⟨m, 0, none⟩), .int .i64 0]) ∧ w.heap.size ≤ m ∧ w.heap.size ≤ h ∧ Is w' m h cap L true ∧ Below w.heap.size w w' := by
  have HR := Lib.hid hr
  have G := Lib.hid good
  have h1 := good.len1
  have h2 := good.len2
  obtain ⟨n, hn⟩ : ∃ n, L.length = n := ⟨_, rfl⟩
  have HN := Lib.hid hn
  rw [hn] at h1 h2 hc ⊢
  clear hn hr good
  go_enter Try.func24, Try.ntmps24
  go_wp2
  go_loopw [19] (fun i wr => ∃ (k : Nat) (v : Value), k ≤ n ∧ i = .int .i64 (k : Int) ∧ Hid (Blk wr w.heap.size 107 #[v, .int .u32 (lsum (L.take k)), .bool true]) ∧ Hid (Sl wr 22 .u32 v (L.take k)) ∧ Hid (∀ g, v.ownBlock = some g → w.heap.size < g) ∧ Hid (Below w.heap.size w wr)) (fun v _ => n - (intOf v).toNat)
  case atStart => exact ⟨0, .slice none 0 0, by omega, rfl, Blk.new _ _ _, Sl.nil _ _ _, fun g hg => (by cases hg), ((Below.refl _ _).alloc (Nat.le_refl _) _ : Below _ _ _)⟩
  case round =>
    obtain ⟨k, v, hk, rfl, HM, HS, HNw, HB⟩ := hrel
    by_cases hlt : k < n
    · have d0 := HM.out.cell (i := 0) rfl
      have d1 := HM.out.cell (i := 1) rfl
      have hwr := HM.out.lt
      obtain ⟨ad, rfl, dk⟩ := cell_C HR.out (i := k) (by rw [HN.out]; omega)
      have had : (ad.add k).block < w.heap.size := World.block_lt_of_cell? w _ dk
      rw [← HB.out.cell had] at dk
      have hgk := G.out.at (k := k) (by rw [HN.out]; omega)
      have hall := G.out.all
      have HSum := Lib.hid (lsum_take_succ L k (by rw [HN.out]; omega))
      have HTk := Lib.hid (List.take_succ_eq_append_getElem (show k < L.length by rw [HN.out]; omega))
      have hlk : (L.take k).length = k := by rw [List.length_take, HN.out]; omega
      have HLk := Lib.hid hlk
      generalize L[k]'(by rw [HN.out]; omega) = y at *
      generalize lsum (L.take k) = sm at *
      generalize lsum L = al at *
      clear hlk
      go_wp2
      have f0 := HM.out.free 0
      have f1 := HM.out.free 1
      go_region_law ((refine step_push _ _ _ 22 .u32 0 4 (by rfl) (by rfl) Try.underlying45 info_u32 v (L.take k) k y ⟨wr.heap.size, 0, none⟩ (wr.heap.size + 1) (by rfl) (by rfl) ?_ HLk.out ?_ ?_ ?_ ?_ ?_
                      · exact (HS.out.alloc _).drew
                      · exact (Blk.new wr _ _).cell (i := 0) rfl
                      · simp
                      · omega
                      · omega
                      intro g cap w1 hp
                      have HM1 := Lib.hid ((HM.out.alloc (.cells #[.int .u32 y] 22)).drew.of_same (hp.block (by simp; omega) (fun e => by have := HNw.out _ e; simp at this)))
                      have d0' := HM1.out.cell (i := 0) rfl
                      have d1' := HM1.out.cell (i := 1) rfl
                      have f0' := HM1.out.free 0
                      have f1' := HM1.out.free 1
                      have HP := Lib.hid hp
                      clear hp))
      all_goals
        go_wp2
        go_roundw
        case rel =>
          have hgw : w.heap.size < g := by
            rcases HP.out.at_ with h | h
            · exact HNw.out g h
            · omega
          refine ⟨k + 1, .slice (some ⟨g, 0, none⟩) (k + 1) cap, by omega, by push_cast; rfl, ?_, ?_, fun g' hg' => ?_, ?_⟩
          · rw [HSum.out]
            exact (HM1.out.set 0 _).set 1 _
          · have hrow := HP.out.row
            rw [← HTk.out] at hrow
            have := Sl.row ((hrow.other (a := ⟨w.heap.size, 0, none⟩) (by simp; omega) (.slice (some ⟨g, 0, none⟩) (k + 1) cap)).other (a := ⟨w.heap.size, 1, none⟩) (by simp; omega) (.int .u32 (sm + y)))
            have hl : (L.take (k + 1)).length = k + 1 := by rw [List.length_take, HN.out]; omega
            rw [hl] at this
            exact this
          · have e : g = g' := Option.some.inj hg'
            omega
          · have hA : Below w.heap.size w (wr.alloc (.cells #[.int .u32 y] 22)).drew := (HB.out.alloc HB.out.size _).drew
            exact (((hA.trans (HP.out.only.below (B := w.heap.size) (by simp; omega) (fun i hi => by have := HNw.out i hi; omega))).setCell (p := ⟨w.heap.size, 0, none⟩) (Nat.le_refl _) _).setCell (p := ⟨w.heap.size, 1, none⟩) (Nat.le_refl _) _ : Below _ _ _)
        case measure => simp [intOf]; omega
    · obtain rfl : k = n := by omega
      rw [List.take_of_length_le (by rw [HN.out]; omega)] at HM HS
      have hs := HS.out
      rcases hs with ⟨_, h0⟩ | ⟨g, cap, rfl, hr⟩
      · have := congrArg List.length h0
        rw [HN.out] at this
        simp at this; omega
      · have hg := HNw.out g rfl
        have HRw := Lib.hid hr
        clear hr
        rw [HN.out] at HM
        go_wp2
        go_ret2
        exact ⟨w.heap.size, g, cap, rfl, Nat.le_refl _, by omega, ⟨by rw [HN.out]; exact HM.out, HRw.out, by omega⟩, HB.out⟩
set_option maxHeartbeats 2000000 in
set_option maxRecDepth 100000 in
theorem RFixed_yes (L : List Int) (good : Good L) (A0 : Option Addr) (c0 : Nat) (w : World) (hr : Kd.C (Kd.int .u32) w A0 L.length L) (hc : L.length ≤ c0) :
    Calls Try.prog 25 #[.slice A0 L.length c0] w fun e w' => ∃ m h cap, e = .returned (.tuple #[.pointer (some ⟨m, 0, none⟩), .bool true]) ∧ w.heap.size ≤ m ∧ w.heap.size ≤ h ∧ IsR w' m h cap L true ∧ Below w.heap.size w w' := by
  have HR := Lib.hid hr
  have G := Lib.hid good
  have h1 := good.len1
  have h2 := good.len2
  obtain ⟨n, hn⟩ : ∃ n, L.length = n := ⟨_, rfl⟩
  have HN := Lib.hid hn
  rw [hn] at h1 h2 hc ⊢
  clear hn hr good
  go_enter Try.func25, Try.ntmps25
  go_wp2
  go_loopw [5] (fun i wr => ∃ (k : Nat) (v : Value), k ≤ n ∧ i = .int .i64 (k : Int) ∧ Hid (Blk wr w.heap.size 116 #[v, .bool true]) ∧ Hid (Sl wr 3 .i64 v (L.take k)) ∧ Hid (∀ g, v.ownBlock = some g → w.heap.size < g) ∧ Hid (Below w.heap.size w wr)) (fun v _ => n - (intOf v).toNat)
  case atStart => exact ⟨0, .slice none 0 0, by omega, rfl, Blk.new _ _ _, Sl.nil _ _ _, fun g hg => (by cases hg), ((Below.refl _ _).alloc (Nat.le_refl _) _ : Below _ _ _)⟩
  case round =>
    obtain ⟨k, v, hk, rfl, HM, HS, HNw, HB⟩ := hrel
    by_cases hlt : k < n
    · have d0 := HM.out.cell (i := 0) rfl
      have f0 := HM.out.free 0
      have hwr := HM.out.lt
      obtain ⟨ad, rfl, dk⟩ := cell_C HR.out (i := k) (by rw [HN.out]; omega)
      have had : (ad.add k).block < w.heap.size := World.block_lt_of_cell? w _ dk
      rw [← HB.out.cell had] at dk
      have hgk := G.out.at (k := k) (by rw [HN.out]; omega)
      have hall := G.out.all
      have HTk := Lib.hid (List.take_succ_eq_append_getElem (show k < L.length by rw [HN.out]; omega))
      have hlk : (L.take k).length = k := by rw [List.length_take, HN.out]; omega
      have HLk := Lib.hid hlk
      generalize L[k]'(by rw [HN.out]; omega) = y at *
      generalize lsum (L.take k) = sm at *
      generalize lsum L = al at *
      have hyz : (y == 0) = false := by rw [beq_eq_false_iff_ne]; omega
      have ik : (k : Int) < n := by omega
      have hbk : ad.block < w.heap.size := by rw [add_block] at had; exact had
      have hbk2 : ad.block ≠ w.heap.size := by omega
      have ew : IntKind.i64.wrap y = y := wrapI64 (by omega) (by omega)
      clear hlk
      go_wp2
      go_region_law ((refine step_push _ _ _ 3 .i64 0 8 (by rfl) (by rfl) Try.underlying54 info_int v (L.take k) k y ⟨wr.heap.size, 0, none⟩ (wr.heap.size + 1) (by rfl) (by rfl) ?_ HLk.out ?_ ?_ ?_ ?_ ?_
                      · exact (HS.out.alloc _).drew
                      · exact (Blk.new wr _ _).cell (i := 0) rfl
                      · simp
                      · omega
                      · omega
                      intro g cap w1 hp
                      have HM1 := Lib.hid ((HM.out.alloc (.cells #[.int .i64 y] 3)).drew.of_same (hp.block (by simp; omega) (fun e => by have := HNw.out _ e; simp at this)))
                      have d0' := HM1.out.cell (i := 0) rfl
                      have f0' := HM1.out.free 0
                      have hk' : w1.cell? (ad.add k) = wr.cell? (ad.add k) := (hp.grown.cell_far (ad.add k) (by simp; omega) (fun e => by have := HNw.out _ e.symm; omega)).trans ((((Below.refl _ _).alloc (Nat.le_refl _) _).drew : Below wr.heap.size wr (wr.alloc (.cells #[.int .i64 y] 3)).drew).cell (by omega))
                      rw [dk] at hk'
                      have hk2 : (w1.setCell ⟨w.heap.size, 0, none⟩ (.slice (some ⟨g, 0, none⟩) (k + 1) cap)).cell? (ad.add k) = some (.int .u32 y) := (World.cell?_of_block (Below.heap_setCell w1 ⟨w.heap.size, 0, none⟩ _ _ (by rw [add_block]; exact hbk2))).trans hk'
                      have HP := Lib.hid hp
                      clear hp))
      all_goals
        go_wp2
        go_roundw
        case rel =>
          have hgw : w.heap.size < g := by
            rcases HP.out.at_ with h | h
            · exact HNw.out g h
            · omega
          refine ⟨k + 1, .slice (some ⟨g, 0, none⟩) (k + 1) cap, by omega, by push_cast; rfl, ?_, ?_, fun g' hg' => ?_, ?_⟩
          · exact HM1.out.set 0 _
          · have hrow := HP.out.row
            rw [← HTk.out] at hrow
            have := Sl.row (hrow.other (a := ⟨w.heap.size, 0, none⟩) (by simp; omega) (.slice (some ⟨g, 0, none⟩) (k + 1) cap))
            have hl : (L.take (k + 1)).length = k + 1 := by rw [List.length_take, HN.out]; omega
            rw [hl] at this
            exact this
          · have e : g = g' := Option.some.inj hg'
            omega
          · have hA : Below w.heap.size w (wr.alloc (.cells #[.int .i64 y] 3)).drew := (HB.out.alloc HB.out.size _).drew
            exact ((hA.trans (HP.out.only.below (B := w.heap.size) (by simp; omega) (fun i hi => by have := HNw.out i hi; omega))).setCell (p := ⟨w.heap.size, 0, none⟩) (Nat.le_refl _) _ : Below _ _ _)
        case measure => simp [intOf]; omega
    · obtain rfl : k = n := by omega
      rw [List.take_of_length_le (by rw [HN.out]; omega)] at HS
      have hs := HS.out
      rcases hs with ⟨_, h0⟩ | ⟨g, cap, rfl, hr⟩
      · have := congrArg List.length h0
        rw [HN.out] at this
        simp at this; omega
      · have hg := HNw.out g rfl
        have HRw := Lib.hid hr
        clear hr
        have HI : Hid (IsR wr w.heap.size g cap L true) := Lib.hid ⟨HM.out, HRw.out, by omega⟩
        have hsum := RSum_calls HI.out G.out.nonneg (by have := G.out.all; omega) k (by rw [HN.out]; omega) (by rw [HN.out]; omega)
        rw [List.take_of_length_le (by rw [HN.out]; omega)] at hsum
        have hall := G.out.all
        have HSm := Lib.hid hsum
        clear hsum
        generalize lsum L = al at *
        rw [HN.out] at HM
        go_wp2_with (go_at_call 63; refine HSm.out.mono ?_; rintro e w' ⟨rfl, rfl⟩)
        go_ret2
        exact ⟨w.heap.size, g, cap, rfl, Nat.le_refl _, by omega, HI.out, HB.out⟩
theorem RLearn_any {w : World} {m h cap : Nat} {L : List Int} {f : Bool} (a : IsR w m h cap L f) (good : Good L) (s : Nat) (hs : s < L.length) :
    Calls Try.prog 64 #[.pointer (some ⟨m, 0, none⟩), .int .i64 s] w fun e w' => e = .returned (.tuple #[]) ∧ IsR w' m h cap (next f L s) f ∧ Only (fun k => k = m ∨ k = h) w w' := by
  cases f with
  | true =>
    refine (RLearn_fixed a s).mono ?_
    rintro e w' ⟨rfl, rfl⟩
    exact ⟨rfl, a, Only.refl _ _⟩
  | false => exact RLearn_yes a good s hs
end Go.Proofs.Ytlbjoflmfboeeaa.Mdl

/-
  The program's encoder: what it holds, and the walks of New, shift, Put, Len; no condition but those told.
-/
set_option linter.unusedVariables false
set_option linter.unusedSimpArgs false
namespace Go.Proofs.Ytlbjoflmfboeeaa.Enc
open Go.RowKit Go.Proofs.Ytlbjoflmfboeeaa Go.Proofs.YtlbjoflmfboeeaaW.PrintWords

theorem wraps_u64 (n : Int) (h₀ : 0 ≤ n) (h₁ : n < 2 ^ 64) : IntKind.u64.wrap n = n := by
  unfold IntKind.wrap
  simp only [IntKind.bits, IntKind.signed]
  simp
  omega
theorem wraps_u32 (n : Int) (h₀ : 0 ≤ n) (h₁ : n < 2 ^ 32) : IntKind.u32.wrap n = n := by rw [IntKind.wrap_u32]; omega
theorem u64_low24 (x : Int) (h₀ : 0 ≤ x) (h₁ : x < 18446744073709551616) : bits .and .u64 x 16777215 = x % 16777216 := bits_mask .u64 64 (by decide) wraps_u64 24 (by decide) x h₀ h₁
/-- What an encoder holds. -/
structure St where
  lo : Int
  sz : Int
  he : Nat
  fi : Int
  out : List Int
  be : Bool
def over (s : St) : Int := s.lo / 4294967296
def flush (s : St) : List Int := (if s.be = true then s.out ++ [(s.fi + over s) % 256] else s.out) ++ List.replicate (s.he - 1) ((255 + over s) % 256)
def shiftS (s : St) : St :=
  if s.lo < 4278190080 ∨ 4294967296 ≤ s.lo then ⟨s.lo % 16777216 * 256, s.sz, 1, s.lo / 16777216 % 256, flush s, true⟩
  else ⟨s.lo % 16777216 * 256, s.sz, s.he + 1, s.fi, s.out, s.be⟩
/-- How many bytes there are, but for the last four. -/
def St.k (s : St) : Nat := s.out.length + s.he - 1 + (if s.be = true then 1 else 0)
structure St.Ok (s : St) : Prop where
  lo0 : 0 ≤ s.lo
  lo1 : s.lo < 8589934592
  sz0 : 0 ≤ s.sz
  sz1 : s.sz < 4294967296
  he0 : 1 ≤ s.he
  fi0 : 0 ≤ s.fi
  fi1 : s.fi < 256
  small : s.k ≤ 1000000000
theorem flush_len (s : St) (h : 1 ≤ s.he) : (flush s).length = s.k := by
  unfold flush St.k
  rw [List.length_append, List.length_replicate]
  split <;> simp_all <;> omega
theorem shift_k (s : St) (h : 1 ≤ s.he) : (shiftS s).k = s.k + 1 := by
  unfold shiftS
  split
  · have := flush_len s h
    unfold St.k at this ⊢
    simp at this ⊢
    omega
  · unfold St.k
    simp only
    omega
/-- The program's encoder: block m. -/
structure Is (w : World) (m : Nat) (s : St) (v : Value) : Prop where
  blk : Blk w m 110 #[.int .u64 s.lo, .int .u32 s.sz, .int .i64 s.he, .int .u8 s.fi, v, .bool s.be]
  sl : Sl w 5 .u8 v s.out
  ne : v.ownBlock ≠ some m
/-- What an encoder's step turns. -/
structure Step (m : Nat) (v v' : Value) (w w' : World) : Prop where
  only : Only (fun k => k = m ∨ v.ownBlock = some k) w w'
  own : ∀ g, v'.ownBlock = some g → v.ownBlock = some g ∨ w.heap.size ≤ g
section
variable {m : Nat} {v v' v'' : Value} {w w' w'' : World} {s : St}
theorem Step.refl (m : Nat) (v : Value) (w : World) : Step m v v w w := ⟨Only.refl _ _, fun _ h => .inl h⟩
theorem Step.trans (a : Step m v v' w w') (b : Step m v' v'' w' w'') : Step m v v'' w w'' := by
  refine ⟨a.only.then b.only fun i hi => ?_, fun g hg => ?_⟩
  · rcases hi with hi | hi
    · exact .inl (.inl hi)
    · rcases a.own i hi with h | h
      · exact .inl (.inr h)
      · exact .inr h
  · rcases b.own g hg with h | h
    · exact a.own g h
    · exact .inr (Nat.le_trans a.only.size h)
theorem Step.drew (a : Step m v v' w w') : Step m v v' w w'.drew := ⟨a.only.drew, a.own⟩
theorem Step.set (a : Step m v v' w w') (i : Nat) (u : Value) : Step m v v' w (w'.setCell ⟨m, i, none⟩ u) := ⟨a.only.set (p := ⟨m, i, none⟩) (.inl (.inl rfl)) u, a.own⟩
theorem Step.below (a : Step m v v' w w') (b : Below w'.heap.size w' w'') : Step m v v' w w'' :=
  ⟨a.only.then (Only.of_below b : Only (fun _ => False) _ _) fun _ h => h.elim, a.own⟩
theorem Is.only {S : Nat → Prop} (a : Is w m s v) (o : Only S w w') (h1 : ¬ S m) (h2 : ∀ g, v.ownBlock = some g → ¬ S g) : Is w' m s v :=
  ⟨a.blk.of_same (o.block m a.blk.lt h1), a.sl.only o h2, a.ne⟩
theorem Is.below (a : Is w m s v) (b : Below w.heap.size w w') : Is w' m s v := a.only (Only.of_below b : Only (fun _ => False) _ _) (fun h => h) (fun _ _ h => h)
end
theorem info_u8 : (Try.prog.info? 5).map (fun i => (i.zero, i.size, i.bytes)) = some (some (.int .u8 0), 1, 1) := by kernel_rfl
/-- None yet. -/
def fresh : St := ⟨0, 4294967295, 1, 0, [], false⟩
theorem New_calls (w : World) : Calls Try.prog 22 #[] w fun e w' => e = .returned (.pointer (some ⟨w.heap.size, 0, none⟩)) ∧ Is w' w.heap.size fresh (.slice none 0 0) ∧ Below w.heap.size w w' := by
  go_enter Try.func22, Try.ntmps22
  go_wp2
  go_ret
  exact ⟨rfl, ⟨Blk.new _ _ _, Sl.nil _ _ _, fun h => by cases h⟩, ((Below.refl _ _).alloc (Nat.le_refl _) _ : Below _ _ _)⟩
set_option maxHeartbeats 2000000 in
set_option maxRecDepth 100000 in
theorem shift_calm {w : World} {m : Nat} {s : St} {v : Value} (a : Is w m s v) (ok : s.Ok) (hc : ¬ (s.lo < 4278190080 ∨ 4294967296 ≤ s.lo)) :
    Calls Try.prog 60 #[.pointer (some ⟨m, 0, none⟩)] w fun e w' => ∃ v', e = .returned (.tuple #[]) ∧ Is w' m (shiftS s) v' ∧ Step m v v' w w' := by
  have d0 := a.blk.cell (i := 0) rfl
  have d2 := a.blk.cell (i := 2) rfl
  have f0 := a.blk.free 0
  have f2 := a.blk.free 2
  have A := Lib.hid a
  obtain ⟨l0, l1, s0, s1, h0, i0, i1, sm⟩ := ok
  obtain ⟨lo, sz, he, fi, out, be⟩ := s
  simp only [St.k] at *
  have hm := u64_low24 lo l0 (by omega)
  have c1 : ¬ lo < 4278190080 := fun h => hc (.inl h)
  have c2 : ¬ 4294967296 ≤ lo := fun h => hc (.inr h)
  have HS : Hid (shiftS ⟨lo, sz, he, fi, out, be⟩ = ⟨lo % 16777216 * 256, sz, he + 1, fi, out, be⟩) := Lib.hid (by unfold shiftS; rw [if_neg hc])
  clear a hc
  go_enter Try.func60, Try.ntmps60
  go_wp2
  rw [HS.out]
  have e2 : ((he + 1 : Nat) : Int) = (he : Int) + 1 := by omega
  refine bodyPost_end (results_none rfl _ _ _) rfl ⟨rfl, v, ⟨?_, (A.out.sl.other (a := ⟨m, 2, none⟩) A.out.ne _).other (a := ⟨m, 0, none⟩) A.out.ne _, A.out.ne⟩, ((Step.refl m v w).set 2 _).set 0 _⟩
  rw [e2]
  exact (A.out.blk.set 2 (.int .i64 ((he : Int) + 1))).set 0 (.int .u64 (lo % 16777216 * 256))
/-- Where bytes are appended: the loop. -/
def Rl (w w0 : World) (m : Nat) (lo sz he fi : Int) (be : Bool) (v0 : Value) (xs : List Int) (v : Value) : Prop :=
  Blk w m 110 #[.int .u64 lo, .int .u32 sz, .int .i64 he, .int .u8 fi, v, .bool be] ∧ Sl w 5 .u8 v xs ∧ v.ownBlock ≠ some m ∧ Step m v0 v w0 w
theorem Rl.push {w w0 w1 : World} {m : Nat} {lo sz he fi : Int} {be : Bool} {v0 v : Value} {xs : List Int} (h : Rl w w0 m lo sz he fi be v0 xs v) {y : Int} {g cap : Nat} {o : Obj} (hp : Pushed (w.alloc o) w1 5 .u8 v g cap (xs ++ [y]) (w.heap.size + 1)) {n : Nat} (hn : xs.length = n) :
    Blk w1 m 110 #[.int .u64 lo, .int .u32 sz, .int .i64 he, .int .u8 fi, v, .bool be] ∧ Rl (w1.setCell ⟨m, 4, none⟩ (.slice (some ⟨g, 0, none⟩) (n + 1) cap)) w0 m lo sz he fi be v0 (xs ++ [y]) (.slice (some ⟨g, 0, none⟩) (n + 1) cap) := by
  obtain ⟨h1, h2, h3, h4⟩ := h
  have hml := h1.lt
  have b1 : Blk w1 m 110 #[.int .u64 lo, .int .u32 sz, .int .i64 he, .int .u8 fi, v, .bool be] := (h1.alloc o).of_same (hp.block (by simp; omega) h3)
  have hgm : g ≠ m := by
    rintro rfl
    rcases hp.at_ with h | h
    · exact h3 h
    · omega
  refine ⟨b1, b1.set 4 _, ?_, fun e => hgm (Option.some.inj e), ?_⟩
  · have := Sl.row (hp.row.other (a := ⟨m, 4, none⟩) hgm (.slice (some ⟨g, 0, none⟩) (n + 1) cap))
    have hl : (xs ++ [y]).length = n + 1 := by simp [hn]
    rw [hl] at this
    exact this
  · have s1 : Step m v (.slice (some ⟨g, 0, none⟩) (n + 1) cap) w (w1.setCell ⟨m, 4, none⟩ (.slice (some ⟨g, 0, none⟩) (n + 1) cap)) := by
      refine ⟨(((Only.refl _ w).alloc o).then hp.only (fun i hi => .inl (.inr hi))).set (p := ⟨m, 4, none⟩) (.inl (.inl rfl)) _, fun g' hg' => ?_⟩
      have e : g = g' := Option.some.inj hg'
      subst e
      rcases hp.at_ with h | h
      · exact .inl h
      · exact .inr (by omega)
    exact h4.trans s1
theorem Rl.drew {w w0 : World} {m : Nat} {lo sz he fi : Int} {be : Bool} {v0 v : Value} {xs : List Int} (h : Rl w w0 m lo sz he fi be v0 xs v) : Rl w.drew w0 m lo sz he fi be v0 xs v := ⟨h.1, h.2.1, h.2.2.1, h.2.2.2.drew⟩
theorem Rl.he {w w0 : World} {m : Nat} {lo sz he fi : Int} {be : Bool} {v0 v : Value} {xs : List Int} (h : Rl w w0 m lo sz he fi be v0 xs v) (he' : Int) : Rl (w.setCell ⟨m, 2, none⟩ (.int .i64 he')) w0 m lo sz he' fi be v0 xs v :=
  ⟨h.1.set 2 _, h.2.1.other (a := ⟨m, 2, none⟩) h.2.2.1 _, h.2.2.1, h.2.2.2.set 2 _⟩
set_option maxHeartbeats 8000000 in
set_option maxRecDepth 100000 in
theorem shift_loud {w : World} {m : Nat} {s : St} {v : Value} (a : Is w m s v) (ok : s.Ok) (hc : s.lo < 4278190080 ∨ 4294967296 ≤ s.lo) :
    Calls Try.prog 60 #[.pointer (some ⟨m, 0, none⟩)] w fun e w' => ∃ v', e = .returned (.tuple #[]) ∧ Is w' m (shiftS s) v' ∧ Step m v v' w w' := by
  have d0 := a.blk.cell (i := 0) rfl
  have d3 := a.blk.cell (i := 3) rfl
  have d4 := a.blk.cell (i := 4) rfl
  have d5 := a.blk.cell (i := 5) rfl
  have f4 := a.blk.free 4
  have A := Lib.hid a
  obtain ⟨l0, l1, s0, s1, h0, i0, i1, sm⟩ := ok
  obtain ⟨lo, sz, he, fi, out, be⟩ := s
  simp only [St.k] at *
  have hm := u64_low24 lo l0 (by omega)
  have HS : Hid (shiftS ⟨lo, sz, he, fi, out, be⟩ = ⟨lo % 16777216 * 256, sz, 1, lo / 16777216 % 256, flush ⟨lo, sz, he, fi, out, be⟩, true⟩) := Lib.hid (by unfold shiftS; rw [if_pos hc])
  have HR : Hid (Rl w w m lo sz he fi be v out v) := Lib.hid ⟨A.out.blk, A.out.sl, A.out.ne, Step.refl m v w⟩
  have hov : 0 ≤ lo / 4294967296 ∧ lo / 4294967296 ≤ 1 := by omega
  have hml := a.blk.lt
  have ew : IntKind.u8.wrap (fi + lo / 4294967296) = (fi + lo / 4294967296) % 256 := IntKind.wrap_u8 _
  obtain ⟨n, hn⟩ : ∃ n, out.length = n := ⟨_, rfl⟩
  have HN := Lib.hid hn
  rw [hn] at sm
  clear a hn
  have hc2 : lo < 4278190080 ∨ (¬ lo < 4278190080 ∧ 4294967296 ≤ lo) := by omega
  clear hc
  obtain ⟨pre, hpre⟩ : ∃ pre, pre = (if be = true then out ++ [(fi + lo / 4294967296) % 256] else out) := ⟨_, rfl⟩
  have hpl : pre.length ≤ n + 1 := by rw [hpre]; have := HN.out; split <;> simp <;> omega
  have hfl : flush ⟨lo, sz, he, fi, out, be⟩ = pre ++ List.replicate (he - 1) ((255 + lo / 4294967296) % 256) := by rw [hpre]; rfl
  have HPre := Lib.hid hpre
  have HFl := Lib.hid hfl
  clear hpre hfl
  rcases hc2 with hc | ⟨hc0, hc⟩
  all_goals
    go_enter Try.func60, Try.ntmps60
    go_upto_if 24 with (fail)
    go_cut [] (fun wc => ∃ v1, Hid (Rl wc w m lo sz he fi be v pre v1))
    case first =>
      cases be with
      | true =>
        have hp2 : pre = out ++ [(fi + lo / 4294967296) % 256] := by rw [HPre.out]; rfl
        clear HPre HFl hpl
        subst hp2
        go_wp2
        go_region_law ((refine step_push _ _ _ 5 .u8 0 1 (by rfl) (by rfl) Try.underlying35 info_u8 v out n ((fi + lo / 4294967296) % 256) ⟨w.heap.size, 0, none⟩ (w.heap.size + 1) (by rfl) (by rfl) ?_ HN.out ?_ ?_ ?_ ?_ ?_
                        · exact (A.out.sl.alloc _).drew
                        · exact (Blk.new w _ _).cell (i := 0) rfl
                        · simp
                        · omega
                        · omega
                        intro g cap w1 hp
                        obtain ⟨b1, r1⟩ := HR.out.drew.push hp HN.out
                        have x4 := b1.free 4
                        have x4' := b1.cell (i := 4) rfl
                        have HR1 := Lib.hid r1
                        clear hp r1))
        all_goals (go_wp2; go_meet)
        all_goals exact ⟨_, HR1⟩
      | false =>
        have hp2 : pre = out := by rw [HPre.out]; rfl
        clear HPre HFl hpl
        subst hp2
        go_wp2
        go_meet
        exact ⟨_, HR⟩
    case rest =>
      clear d0 d3 d4 d5 f4 A HR ew hc
      try clear hc0
      obtain ⟨v1, HR⟩ := hcut
      go_wp2
      go_loopg [] (he - 1) (fun j wr => ∃ (i : Nat) (v2 : Value), i + j + 1 = he ∧ Hid (Rl wr w m lo sz ((j : Int) + 1) fi be v (pre ++ List.replicate i ((255 + lo / 4294967296) % 256)) v2))
      case atStart => exact ⟨0, v1, by omega, by rw [show ((he - 1 : Nat) : Int) + 1 = he from by omega, List.replicate_zero, List.append_nil]; exact HR⟩
      case round =>
        clear HR
        obtain ⟨i, v2, hij, HR⟩ := hrel
        have e2 := HR.out.1.cell (i := 2) rfl
        have e4 := HR.out.1.cell (i := 4) rfl
        have g2 := HR.out.1.free 2
        have hml := HR.out.1.lt
        by_cases hj : 0 < gk
        · have hlen : (pre ++ List.replicate i ((255 + lo / 4294967296) % 256)).length = pre.length + i := by simp
          have ew : IntKind.u8.wrap (255 + lo / 4294967296) = (255 + lo / 4294967296) % 256 := IntKind.wrap_u8 _
          go_wp2_with (first
            | (at_builtin; refine wpList_push (.tmp 56) (.tmp 59) 35 5 .u8 0 1 rfl rfl Try.underlying35 info_u8 v2 (pre ++ List.replicate i ((255 + lo / 4294967296) % 256)) (pre.length + i) ((255 + lo / 4294967296) % 256) ⟨wr.heap.size, 0, none⟩ (wr.heap.size + 1) rfl rfl (HR.out.2.1.alloc _) hlen ((Blk.new wr _ _).cell rfl) (by simp) (by omega) (by omega) ?_
               intro g cap w1 hp
               obtain ⟨b1, r1⟩ := HR.out.push hp hlen
               have x4 := b1.free 4
               have x4' := b1.cell (i := 4) rfl
               have x2 := r1.1.cell (i := 2) rfl
               have y2 := r1.1.free 2
               have HR1 := Lib.hid r1
               clear hp r1 e2 e4 g2))
          go_roundg (gk - 1)
          case measure => omega
          case rel =>
            refine ⟨i + 1, .slice (some ⟨g, 0, none⟩) (pre.length + i + 1) cap, by omega, ?_⟩
            have := HR1.out.he (gk : Int)
            rw [List.append_assoc, List.replicate_append_replicate.symm] at *
            rw [show ((gk - 1 : Nat) : Int) + 1 = gk from by omega]
            exact this
        · obtain rfl : gk = 0 := by omega
          obtain rfl : i = he - 1 := by omega
          have e0 := HR.out.1.cell (i := 0) rfl
          have g3 := HR.out.1.free 3
          have e3 := HR.out.1.cell (i := 3) rfl
          have e5 := HR.out.1.cell (i := 5) rfl
          have ew : IntKind.u8.wrap (lo / 16777216) = lo / 16777216 % 256 := IntKind.wrap_u8 _
          have g5 := HR.out.1.free 5
          have g0 := HR.out.1.free 0
          go_wp2
          rw [HS.out, HFl.out]
          have hb := (((((HR.out.1.set 2 (.int .i64 0)).set 3 (.int .u8 (lo / 16777216 % 256))).set 5 (.bool true)).set 2 (.int .i64 1))).set 0 (.int .u64 (lo % 16777216 * 256))
          have hs := (((((HR.out.2.1.other (a := ⟨m, 2, none⟩) HR.out.2.2.1 (.int .i64 0)).other (a := ⟨m, 3, none⟩) HR.out.2.2.1 (.int .u8 (lo / 16777216 % 256))).other (a := ⟨m, 5, none⟩) HR.out.2.2.1 (.bool true)).other (a := ⟨m, 2, none⟩) HR.out.2.2.1 (.int .i64 1))).other (a := ⟨m, 0, none⟩) HR.out.2.2.1 (.int .u64 (lo % 16777216 * 256))
          have ht := (((((HR.out.2.2.2.set 2 (.int .i64 0)).set 3 (.int .u8 (lo / 16777216 % 256))).set 5 (.bool true)).set 2 (.int .i64 1))).set 0 (.int .u64 (lo % 16777216 * 256))
          have hfin : Is (((((wr.setCell ⟨m, 2, none⟩ (.int .i64 0)).setCell ⟨m, 3, none⟩ (.int .u8 (lo / 16777216 % 256))).setCell ⟨m, 5, none⟩ (.bool true)).setCell ⟨m, 2, none⟩ (.int .i64 1)).setCell ⟨m, 0, none⟩ (.int .u64 (lo % 16777216 * 256))) m ⟨lo % 16777216 * 256, sz, 1, lo / 16777216 % 256, pre ++ List.replicate (he - 1) ((255 + lo / 4294967296) % 256), true⟩ v2 := ⟨hb, hs, HR.out.2.2.1⟩
          exact bodyPost_end (results_none rfl _ _ _) rfl ⟨v2, rfl, hfin, ht⟩
theorem shift_calls {w : World} {m : Nat} {s : St} {v : Value} (a : Is w m s v) (ok : s.Ok) :
    Calls Try.prog 60 #[.pointer (some ⟨m, 0, none⟩)] w fun e w' => ∃ v', e = .returned (.tuple #[]) ∧ Is w' m (shiftS s) v' ∧ Step m v v' w w' := by
  by_cases hc : s.lo < 4278190080 ∨ 4294967296 ≤ s.lo
  · exact shift_loud a ok hc
  · exact shift_calm a ok hc
end Go.Proofs.Ytlbjoflmfboeeaa.Enc

/-
  The walks of the program's encoder: Put, Symbol, Bits, Len; no condition but those told.
-/
set_option linter.unusedVariables false
set_option linter.unusedSimpArgs false
namespace Go.Proofs.Ytlbjoflmfboeeaa.Enc
open Go.RowKit Go.Proofs.Ytlbjoflmfboeeaa Go.Proofs.YtlbjoflmfboeeaaW.PrintWords

def step1 (s : St) : St := shiftS ⟨s.lo, s.sz * 256, s.he, s.fi, s.out, s.be⟩
def norm : Nat → St → St
  | 0, s => s
  | n + 1, s => if s.sz < 16777216 then norm n (step1 s) else s
def putS (s : St) (lo ow al : Int) : St := norm 2 ⟨s.lo + s.sz / al * lo, s.sz / al * ow, s.he, s.fi, s.out, s.be⟩
/-- An encoder as it is between parts. -/
structure St.Ready (s : St) : Prop where
  lo0 : 0 ≤ s.lo
  sum : s.lo + s.sz < 8589934592
  sz0 : 16777216 ≤ s.sz
  sz1 : s.sz < 4294967296
  he0 : 1 ≤ s.he
  fi0 : 0 ≤ s.fi
  fi1 : s.fi < 256
theorem shiftS_lo (s : St) : 0 ≤ (shiftS s).lo ∧ (shiftS s).lo < 4294967296 := by
  unfold shiftS; split <;> (simp only; omega)
theorem shiftS_sz (s : St) : (shiftS s).sz = s.sz := by unfold shiftS; split <;> rfl
theorem shiftS_he (s : St) (h : 1 ≤ s.he) : 1 ≤ (shiftS s).he := by unfold shiftS; split <;> (simp only; omega)
theorem shiftS_fi (s : St) (h0 : 0 ≤ s.fi) (h1 : s.fi < 256) : 0 ≤ (shiftS s).fi ∧ (shiftS s).fi < 256 := by unfold shiftS; split <;> (simp only; omega)
theorem mul_bd (e x a sz : Int) (he : e = sz / a) (ha : 0 < a) (hx0 : 0 ≤ x) (hxa : x ≤ a) (hs : 0 ≤ sz) : 0 ≤ e * x ∧ e * x ≤ sz := by
  subst he
  have h1 : 0 ≤ sz / a := Int.ediv_nonneg hs (by omega)
  refine ⟨Int.mul_nonneg h1 hx0, ?_⟩
  have h2 : sz / a * x ≤ sz / a * a := Int.mul_le_mul_of_nonneg_left hxa h1
  have h3 : sz / a * a ≤ sz := Int.ediv_mul_le sz (by omega)
  omega
theorem each_lo (al sz : Int) (h1 : 1 ≤ al) (h2 : al ≤ 8192) (h3 : 16777216 ≤ sz) : 2048 ≤ sz / al := by
  rw [Int.le_ediv_iff_mul_le (by omega)]
  omega
def lw : Nat → Int
  | 0 => 16777216
  | 1 => 65536
  | _ => 256
/-- A part that may be. -/
def May (lo ow al : Int) : Prop := 0 ≤ lo ∧ 1 ≤ ow ∧ lo + ow ≤ al ∧ al ≤ 8192
theorem norm_ready (n : Nat) (hn : n ≤ 2) : ∀ (t : St), 0 ≤ t.lo → t.lo + t.sz < 8589934592 → lw n ≤ t.sz → t.sz < 4294967296 → 1 ≤ t.he → 0 ≤ t.fi → t.fi < 256 → (norm n t).Ready ∧ t.k ≤ (norm n t).k ∧ (norm n t).k ≤ t.k + n := by
  induction n with
  | zero =>
    intro t h1 h2 h3 h4 h5 h6 h7
    exact ⟨⟨h1, h2, h3, h4, h5, h6, h7⟩, Nat.le_refl _, Nat.le_refl _⟩
  | succ n ih =>
    intro t h1 h2 h3 h4 h5 h6 h7
    unfold norm
    by_cases hc : t.sz < 16777216
    · rw [if_pos hc]
      have hlw2 : lw n ≤ t.sz * 256 := by
        rcases (show n = 0 ∨ n = 1 by omega) with h | h
        · subst h; have : (65536 : Int) ≤ t.sz := h3; show (16777216 : Int) ≤ _; omega
        · subst h; have : (256 : Int) ≤ t.sz := h3; show (65536 : Int) ≤ _; omega
      have hs1 : step1 t = shiftS ⟨t.lo, t.sz * 256, t.he, t.fi, t.out, t.be⟩ := rfl
      have hl := shiftS_lo ⟨t.lo, t.sz * 256, t.he, t.fi, t.out, t.be⟩
      have hz := shiftS_sz ⟨t.lo, t.sz * 256, t.he, t.fi, t.out, t.be⟩
      have hh := shiftS_he ⟨t.lo, t.sz * 256, t.he, t.fi, t.out, t.be⟩ h5
      have hf := shiftS_fi ⟨t.lo, t.sz * 256, t.he, t.fi, t.out, t.be⟩ h6 h7
      have hk := shift_k ⟨t.lo, t.sz * 256, t.he, t.fi, t.out, t.be⟩ h5
      have hk3 : St.k ⟨t.lo, t.sz * 256, t.he, t.fi, t.out, t.be⟩ = t.k := rfl
      rw [← hs1] at hl hz hh hf hk
      simp only at hz
      obtain ⟨r1, r2, r3⟩ := ih (by omega) (step1 t) hl.1 (by omega) (by omega) (by omega) hh hf.1 hf.2
      exact ⟨r1, by omega, by omega⟩
    · rw [if_neg hc]
      exact ⟨⟨h1, h2, by omega, h4, h5, h6, h7⟩, Nat.le_refl _, by omega⟩
theorem put_ready {s : St} (ok : s.Ready) {lo ow al : Int} (may : May lo ow al) : (putS s lo ow al).Ready ∧ s.k ≤ (putS s lo ow al).k ∧ (putS s lo ow al).k ≤ s.k + 2 := by
  obtain ⟨p0, p1, p2, p3⟩ := may
  obtain ⟨l0, l1, s0, s1, h0, i0, i1⟩ := ok
  obtain ⟨each, hE⟩ : ∃ each, each = s.sz / al := ⟨_, rfl⟩
  have b3 := each_lo al s.sz (by omega) p3 s0
  have b1 := mul_bd each lo al s.sz hE (by omega) p0 (by omega) (by omega)
  have b2 := mul_bd each ow al s.sz hE (by omega) (by omega) (by omega) (by omega)
  have b6 := mul_bd each (lo + ow) al s.sz hE (by omega) (by omega) (by omega) (by omega)
  rw [Int.mul_add] at b6
  have b4 : each * 1 ≤ each * ow := Int.mul_le_mul_of_nonneg_left p1 (by omega)
  rw [Int.mul_one] at b4
  unfold putS
  rw [← hE] at b3 ⊢
  exact norm_ready 2 (by omega) ⟨s.lo + each * lo, each * ow, s.he, s.fi, s.out, s.be⟩ (by simp only; omega) (by simp only; omega) (by show (256 : Int) ≤ each * ow; omega) (by simp only; omega) h0 i0 i1
set_option maxHeartbeats 4000000 in
set_option maxRecDepth 100000 in
theorem Put_yes {w : World} {m : Nat} {s : St} {v : Value} (a : Is w m s v) (ok : s.Ready) (small : s.k ≤ 900000000) (lo ow al : Int) (may : May lo ow al) :
    Calls Try.prog 17 #[.pointer (some ⟨m, 0, none⟩), Mdl.part lo ow al] w fun e w' => ∃ v', e = .returned (.int .i64 0) ∧ Is w' m (putS s lo ow al) v' ∧ Step m v v' w w' := by
  obtain ⟨p0, p1, p2, p3⟩ := may
  obtain ⟨each, hE⟩ : ∃ each, each = s.sz / al := ⟨_, rfl⟩
  obtain ⟨q, hq⟩ : ∃ q, q = each * lo := ⟨_, rfl⟩
  obtain ⟨r, hr⟩ : ∃ r, r = each * ow := ⟨_, rfl⟩
  have hm := a.blk.lt
  have b1 := mul_bd each lo al s.sz hE (by omega) p0 (by omega) (by have := ok.sz0; omega)
  have b2 := mul_bd each ow al s.sz hE (by omega) (by omega) (by omega) (by have := ok.sz0; omega)
  have b3 := each_lo al s.sz (by omega) p3 ok.sz0
  have b6 := mul_bd each (lo + ow) al s.sz hE (by omega) (by omega) (by omega) (by have := ok.sz0; omega)
  rw [Int.mul_add] at b6
  have b4 : each * 1 ≤ each * ow := Int.mul_le_mul_of_nonneg_left p1 (by omega)
  rw [← hE] at b3
  rw [← hq] at b1 b6
  rw [← hr] at b2 b4 b6
  rw [Int.mul_one] at b4
  have hput : putS s lo ow al = norm 2 ⟨s.lo + q, r, s.he, s.fi, s.out, s.be⟩ := by unfold putS; rw [hq, hr, hE]
  have HPut := Lib.hid hput
  have e1 : Int.tdiv s.sz al = each := by rw [hE, Int.tdiv_eq_ediv_of_nonneg (by have := ok.sz0; omega)]
  have e1' : s.sz / al = each := hE.symm
  have e2 : each * lo = q := hq.symm
  have e3 : each * ow = r := hr.symm
  obtain ⟨l0, l1, s0, s1, h0, i0, i1⟩ := ok
  have A := Lib.hid a
  obtain ⟨slo, sz, he, fi, out, be⟩ := s
  have d0 := a.blk.cell (i := 0) rfl
  have d1 := a.blk.cell (i := 1) rfl
  have f0 := a.blk.free 0
  have f1 := a.blk.free 1
  simp only at *
  have z1 : al ≠ 0 := by omega
  have z2 : (al == 0) = false := by rw [beq_eq_false_iff_ne]; omega
  have z3 : (ow == 0) = false := by rw [beq_eq_false_iff_ne]; omega
  have b5 : each ≤ sz := by rw [hE]; exact Int.ediv_le_self _ (by omega)
  have e4 : IntKind.u32.wrap each = each := wraps_u32 _ (by omega) (by omega)
  have e5 : IntKind.u64.wrap q = q := wraps_u64 _ (by omega) (by omega)
  have e6 : IntKind.u64.wrap (slo + q) = slo + q := wraps_u64 _ (by omega) (by omega)
  have e7 : IntKind.u32.wrap r = r := wraps_u32 _ (by omega) (by omega)
  have e8 : r % 4294967296 = r := by omega
  have e9 : IntKind.u64.wrap each = each := wraps_u64 _ (by omega) (by omega)
  have e10 : IntKind.u64.wrap lo = lo := wraps_u64 _ (by omega) (by omega)
  have y1 : decide (8192 < al) = false := decide_eq_false (by omega)
  have y2 : decide (al ≤ lo) = false := decide_eq_false (by omega)
  have y3 : decide (al - lo < ow) = false := decide_eq_false (by omega)
  clear hE hq hr a hput
  unfold Mdl.part
  go_enter Try.func17, Try.ntmps17
  go_wp2
  go_quiet (fail)
  have hB : Below w.heap.size w ((w.alloc (.cells #[.int .u32 lo, .int .u32 ow, .int .u32 al] 31)).drewN nq) := pw_below_drewN ((Below.refl _ _).alloc (Nat.le_refl _) _) nq
  have A2 := Lib.hid (A.out.below hB)
  have P2 : Hid (Blk ((w.alloc (.cells #[.int .u32 lo, .int .u32 ow, .int .u32 al] 31)).drewN nq) w.heap.size 31 #[.int .u32 lo, .int .u32 ow, .int .u32 al]) := (Blk.new w _ _).drewN nq
  have S2 := Lib.hid ((Step.refl m v w).below hB)
  go_wp2
  clear d0 d1 f0 f1 A hB
  generalize ((w.alloc (.cells #[.int .u32 lo, .int .u32 ow, .int .u32 al] 31)).drewN nq) = w2 at *
  have d0 := A2.out.blk.cell (i := 0) rfl
  have d1 := A2.out.blk.cell (i := 1) rfl
  have f0 := A2.out.blk.free 0
  have f1 := A2.out.blk.free 1
  have c0 := P2.out.cell (i := 0) rfl
  have c1 := P2.out.cell (i := 1) rfl
  have c2 := P2.out.cell (i := 2) rfl
  go_still_tail 13, (by kernel_rfl)
  go_wp2
  have t1 : St.Ok ⟨slo + q, r, he, fi, out, be⟩ := ⟨by simp only; omega, by simp only; omega, by simp only; omega, by simp only; omega, h0, i0, i1, by simp only [St.k] at small ⊢; omega⟩
  have T1 := Lib.hid t1
  have A3 : Hid (Is ((w2.setCell ⟨m, 0, none⟩ (.int .u64 (slo + q))).setCell ⟨m, 1, none⟩ (.int .u32 r)).drew m ⟨slo + q, r, he, fi, out, be⟩ v) :=
    Lib.hid ⟨((A2.out.blk.set 0 (.int .u64 (slo + q))).set 1 (.int .u32 r)).drew, ((A2.out.sl.other (a := ⟨m, 0, none⟩) A2.out.ne (.int .u64 (slo + q))).other (a := ⟨m, 1, none⟩) A2.out.ne (.int .u32 r)).drew, A2.out.ne⟩
  have S3 := Lib.hid (((S2.out.set 0 (.int .u64 (slo + q))).set 1 (.int .u32 r)).drew)
  have hk1 : St.k ⟨slo + q, r, he, fi, out, be⟩ ≤ 900000000 := by simp only [St.k] at small ⊢; omega
  clear d0 d1 f0 f1 c0 c1 c2 A2 P2 S2 e1 e1' e2 e3 e4 e5 e6 e7 e8 e9 e10 t1
  go_loopg [] 2 (fun j wr => ∃ (t : St) (v' : Value), j ≤ 2 ∧ lw j ≤ t.sz ∧ Hid t.Ok ∧ Hid (norm j t = putS ⟨slo, sz, he, fi, out, be⟩ lo ow al) ∧ t.k + j ≤ 900000002 ∧ Hid (Is wr m t v') ∧ Hid (Step m v v' w wr))
  case atStart => exact ⟨_, v, Nat.le_refl _, by show (256 : Int) ≤ r; omega, T1, HPut.out.symm, by omega, A3, S3⟩
  case round =>
    clear T1 A3 S3 HPut hk1 small
    obtain ⟨t, v', hj2, hlw, T1, HN, hkk, A3, S3⟩ := hrel
    have d1 := A3.out.blk.cell (i := 1) rfl
    have f1 := A3.out.blk.free 1
    have ts1 := T1.out.sz1
    have ts0 := T1.out.sz0
    by_cases hc : t.sz < 16777216
    · have hg : 0 < gk := by
        rcases Nat.eq_zero_or_pos gk with h | h
        · subst h; have : (16777216 : Int) ≤ t.sz := hlw; omega
        · exact h
      obtain ⟨j, rfl⟩ : ∃ j, gk = j + 1 := ⟨gk - 1, by omega⟩
      have t2 : St.Ok ⟨t.lo, t.sz * 256, t.he, t.fi, t.out, t.be⟩ := ⟨T1.out.lo0, T1.out.lo1, by simp only; omega, by simp only; omega, T1.out.he0, T1.out.fi0, T1.out.fi1, by have := hkk; simp only [St.k] at this ⊢; omega⟩
      have A4 : Hid (Is (wr.setCell ⟨m, 1, none⟩ (.int .u32 (t.sz * 256))) m ⟨t.lo, t.sz * 256, t.he, t.fi, t.out, t.be⟩ v') :=
        Lib.hid ⟨A3.out.blk.set 1 (.int .u32 (t.sz * 256)), A3.out.sl.other (a := ⟨m, 1, none⟩) A3.out.ne _, A3.out.ne⟩
      have SH := Lib.hid (shift_calls A4.out t2)
      have hstep : norm (j + 1) t = norm j (step1 t) := by show (if t.sz < 16777216 then norm j (step1 t) else t) = _; rw [if_pos hc]
      have HSt := Lib.hid hstep
      have hlw2 : lw j ≤ t.sz * 256 := by
        rcases (show j = 0 ∨ j = 1 by omega) with h | h
        · subst h; have : (65536 : Int) ≤ t.sz := hlw; show (16777216 : Int) ≤ _; omega
        · subst h; have : (256 : Int) ≤ t.sz := hlw; show (65536 : Int) ≤ _; omega
      have T2 := Lib.hid t2
      clear hstep t2 hlw
      obtain ⟨tsz, htz⟩ : ∃ tsz, t.sz = tsz := ⟨_, rfl⟩
      have HTz := Lib.hid htz
      rw [htz] at d1 ts1 ts0 hc hlw2 A4 SH T2
      clear htz
      go_wp2_with (go_at_call 60; refine SH.out.mono ?_; rintro e w4 ⟨v4, rfl, a4, s4⟩; have A5 := Lib.hid a4; have S5 := Lib.hid s4; clear a4 s4)
      go_roundg j
      case measure => omega
      case rel =>
        have hs1 : step1 t = shiftS ⟨t.lo, tsz * 256, t.he, t.fi, t.out, t.be⟩ := by unfold step1; rw [HTz.out]
        rw [hs1] at HSt
        have hh := shiftS_he ⟨t.lo, tsz * 256, t.he, t.fi, t.out, t.be⟩ T2.out.he0
        have hf := shiftS_fi ⟨t.lo, tsz * 256, t.he, t.fi, t.out, t.be⟩ T2.out.fi0 T2.out.fi1
        have hl := shiftS_lo ⟨t.lo, tsz * 256, t.he, t.fi, t.out, t.be⟩
        have hz := shiftS_sz ⟨t.lo, tsz * 256, t.he, t.fi, t.out, t.be⟩
        have hkk2 := shift_k ⟨t.lo, tsz * 256, t.he, t.fi, t.out, t.be⟩ T2.out.he0
        have hk3 : St.k ⟨t.lo, tsz * 256, t.he, t.fi, t.out, t.be⟩ = t.k := rfl
        exact ⟨_, v4, by omega, by rw [hz]; exact hlw2, ⟨hl.1, by omega, by rw [hz]; exact T2.out.sz0, by rw [hz]; exact T2.out.sz1, hh, hf.1, hf.2, by omega⟩, HSt.out.symm.trans HN.out, by omega, A5, (S3.out.set 1 _).trans S5.out⟩
    · have hF : norm gk t = t := by
        cases gk with
        | zero => rfl
        | succ j => show (if t.sz < 16777216 then norm j (step1 t) else t) = _; rw [if_neg hc]
      have HF : Hid (putS ⟨slo, sz, he, fi, out, be⟩ lo ow al = t) := Lib.hid (HN.out.symm.trans hF)
      clear hF HN
      go_wp2
      go_ret
      rw [HF.out]
      exact ⟨rfl, v', A3.out, S3.out⟩
theorem Put_none (p : Value) (x y z : Value) (h : p = .agg #[x, y, z]) (w : World) :
    Calls Try.prog 17 #[.pointer none, p] w fun e w' => e = .returned (.int .i64 1) ∧ Below w.heap.size w w' := by
  subst h
  go_enter Try.func17, Try.ntmps17
  go_wp2
  go_ret
  exact ⟨rfl, ((Below.refl _ _).alloc (Nat.le_refl _) _ : Below _ _ _)⟩
theorem Put_bad (m : Nat) (lo ow al : Int) (h : ¬ May lo ow al) (l0 : 0 ≤ lo) (o0 : 0 ≤ ow) (a0 : 0 ≤ al) (a1 : al < 4294967296) (w : World) :
    Calls Try.prog 17 #[.pointer (some ⟨m, 0, none⟩), Mdl.part lo ow al] w fun e w' => e = .returned (.int .i64 1) ∧ Below w.heap.size w w' := by
  unfold May at h
  unfold Mdl.part
  have hb : Below w.heap.size w (w.alloc (.cells #[.int .u32 lo, .int .u32 ow, .int .u32 al] 31)) := (Below.refl _ _).alloc (Nat.le_refl _) _
  have HB := Lib.hid hb
  clear hb
  by_cases h1 : al = 0
  · have z : (al == 0) = true := by rw [beq_iff_eq]; exact h1
    clear h h1
    go_enter Try.func17, Try.ntmps17
    go_wp2
    go_ret
    exact ⟨rfl, HB.out⟩
  have z1 : (al == 0) = false := by rw [beq_eq_false_iff_ne]; exact h1
  by_cases h2 : 8192 < al
  · clear h h1
    go_enter Try.func17, Try.ntmps17
    go_wp2
    go_ret
    exact ⟨rfl, HB.out⟩
  by_cases h3 : ow = 0
  · have z : (ow == 0) = true := by rw [beq_iff_eq]; exact h3
    clear h h1 h3
    go_enter Try.func17, Try.ntmps17
    go_wp2
    go_ret
    exact ⟨rfl, HB.out⟩
  have z3 : (ow == 0) = false := by rw [beq_eq_false_iff_ne]; exact h3
  by_cases h4 : al ≤ lo
  · clear h h1 h3
    go_enter Try.func17, Try.ntmps17
    go_wp2
    go_ret
    exact ⟨rfl, HB.out⟩
  have h5 : al - lo < ow := by omega
  clear h h1 h3
  go_enter Try.func17, Try.ntmps17
  go_wp2
  go_ret
  exact ⟨rfl, HB.out⟩
end Go.Proofs.Ytlbjoflmfboeeaa.Enc

/-
  The walks of the program's encoder: Symbol, Bits, Len; no condition but those told.
-/
set_option linter.unusedVariables false
set_option linter.unusedSimpArgs false
namespace Go.Proofs.Ytlbjoflmfboeeaa.Enc
open Go.RowKit Go.Proofs.Ytlbjoflmfboeeaa Go.Proofs.YtlbjoflmfboeeaaW.PrintWords

/-- What a model's part is. -/
theorem may_of {L : List Int} (good : Mdl.Good L) (k : Nat) (hk : k < L.length) : May (Mdl.lsum (L.take k)) (L.getD k 0) (Mdl.lsum L) := by
  have h := good.at hk
  have e : L.getD k 0 = L[k] := by rw [List.getD_eq_getElem?_getD, List.getElem?_eq_getElem hk]; rfl
  rw [e]
  exact ⟨h.2.2, h.1, h.2.1, good.all⟩
/-- The encoder's state behind a model's symbol. -/
def symS (s : St) (L : List Int) (k : Nat) : St := putS s (Mdl.lsum (L.take k)) (L.getD k 0) (Mdl.lsum L)
set_option maxHeartbeats 2000000 in
set_option maxRecDepth 100000 in
theorem Symbol_yes {w : World} {e m h cap : Nat} {s : St} {v : Value} {L : List Int} {f : Bool} (a : Is w e s v) (ok : s.Ready) (small : s.k ≤ 900000000) (b : Mdl.Is w m h cap L f) (good : Mdl.Good L) (k : Nat) (hk : k < L.length)
    (n1 : e ≠ m) (n2 : e ≠ h) (n3 : v.ownBlock ≠ some m) (n4 : v.ownBlock ≠ some h) :
    Calls Try.prog 19 #[.pointer (some ⟨e, 0, none⟩), .pointer (some ⟨m, 0, none⟩), .int .i64 k] w fun en w' => ∃ v', en = .returned (.int .i64 0) ∧ Is w' e (symS s L k) v' ∧ Mdl.Is w' m h cap (Mdl.next f L k) f ∧
      Only (fun i => (i = e ∨ v.ownBlock = some i) ∨ (i = m ∨ i = h)) w w' ∧ (∀ g, v'.ownBlock = some g → v.ownBlock = some g ∨ w.heap.size ≤ g) := by
  have A := Lib.hid a
  have B := Lib.hid b
  have G := Lib.hid good
  have HK := Lib.hid hk
  have MY := Lib.hid (may_of good k hk)
  have RD := Lib.hid ok
  have N3 := Lib.hid n3
  have N4 := Lib.hid n4
  have lm := b.blk.lt
  have lh := b.row.lt
  have le := a.blk.lt
  have HSy : Hid (symS s L k = putS s (Mdl.lsum (L.take k)) (L.getD k 0) (Mdl.lsum L)) := Lib.hid rfl
  have P1 := Lib.hid (Mdl.Part_some b good k hk)
  clear a b good ok hk n3 n4
  generalize Mdl.lsum (L.take k) = lo at *
  generalize L.getD k 0 = ow at *
  generalize Mdl.lsum L = al at *
  unfold Mdl.part at P1
  go_enter Try.func19, Try.ntmps19
  go_wp2_with (first
    | (go_at_call 61; refine P1.out.mono ?_; rintro e1 w1 ⟨rfl, hb1⟩; have hs1 := hb1.size; have HB1 := Lib.hid hb1; clear hb1)
    | (go_at_call 17
       have hb2 : Below w.heap.size w (w1.alloc (.cells #[.int .u32 lo, .int .u32 ow, .int .u32 al] 31)) := HB1.out.alloc hs1 _
       refine (Put_yes (A.out.below hb2) RD.out small lo ow al MY.out).mono ?_
       rintro e2 w2 ⟨v2, rfl, a2, s2⟩
       have A2 := Lib.hid a2
       have S2 := Lib.hid s2
       have O2 : Hid (Only (fun i => (i = e ∨ v.ownBlock = some i) ∨ (i = m ∨ i = h)) w w2) := Lib.hid ((Only.of_below hb2 : Only (fun i => (i = e ∨ v.ownBlock = some i) ∨ (i = m ∨ i = h)) _ _).then s2.only (fun i hi => .inl (.inl hi)))
       have W2 : Hid (∀ g, v2.ownBlock = some g → v.ownBlock = some g ∨ w.heap.size ≤ g) := Lib.hid (fun g hg => (s2.own g hg).imp id (fun hh => Nat.le_trans hb2.size hh))
       have B2 : Hid (Mdl.Is w2 m h cap L f) := Lib.hid ((B.out.only (Only.of_below hb2 : Only (fun _ => False) _ _) (fun x => x) (fun x => x)).only s2.only (fun hh => by rcases hh with hh | hh; exact n1 hh.symm; exact N3.out hh) (fun hh => by rcases hh with hh | hh; exact n2 hh.symm; exact N4.out hh))
       have L2 := s2.only.size
       clear a2 s2 hb2)
    | (go_at_call 62
       refine (Mdl.Learn_any B2.out G.out k HK.out).mono ?_
       rintro e3 w3 ⟨rfl, b3, o3⟩
       have B3 := Lib.hid b3
       have A3 : Hid (Is w3 e (putS s lo ow al) v2) := Lib.hid (A2.out.only o3 (fun hh => by rcases hh with hh | hh; exact n1 hh; exact n2 hh) (fun g hg hh => by
         rcases W2.out g hg with h1 | h1
         · rcases hh with hh | hh
           · subst hh; exact N3.out h1
           · subst hh; exact N4.out h1
         · rcases hh with hh | hh
           · omega
           · omega))
       have O3 : Hid (Only (fun i => (i = e ∨ v.ownBlock = some i) ∨ (i = m ∨ i = h)) w w3) := Lib.hid (O2.out.then o3 (fun i hi => .inl (.inr hi)))
       clear b3 o3))
  go_ret
  rw [HSy.out]
  exact ⟨v2, rfl, A3.out, B3.out, O3.out, W2.out⟩
theorem Symbol_bad {w : World} {e m h cap : Nat} {L : List Int} {f : Bool} (b : Mdl.Is w m h cap L f) (k : Int) (hk : k < 0 ∨ (L.length : Int) ≤ k) :
    Calls Try.prog 19 #[.pointer (some ⟨e, 0, none⟩), .pointer (some ⟨m, 0, none⟩), .int .i64 k] w fun en w' => en = .returned (.int .i64 1) ∧ Below w.heap.size w w' := by
  have P1 := Lib.hid (Mdl.Part_bad b k hk)
  clear b hk
  unfold Mdl.part at P1
  go_enter Try.func19, Try.ntmps19
  go_wp2_with (first
    | (go_at_call 61; refine P1.out.mono ?_; rintro e1 w1 ⟨rfl, hb1⟩; have hs1 := hb1.size; have HB1 := Lib.hid hb1; clear hb1))
  go_ret
  exact ⟨rfl, HB1.out.alloc hs1 _⟩
theorem Symbol_nomodel (e : Nat) (k : Value) (w : World) :
    Calls Try.prog 19 #[.pointer (some ⟨e, 0, none⟩), .pointer none, k] w fun en w' => en = .returned (.int .i64 1) ∧ Below w.heap.size w w' := by
  have P1 := Lib.hid (Mdl.Part_none k w)
  unfold Mdl.part at P1
  go_enter Try.func19, Try.ntmps19
  go_wp2_with (first
    | (go_at_call 61; refine P1.out.mono ?_; rintro e1 w1 ⟨rfl, hb1⟩; have hs1 := hb1.size; have HB1 := Lib.hid hb1; clear hb1))
  go_ret
  exact ⟨rfl, HB1.out.alloc hs1 _⟩
theorem Symbol_none {w : World} {m h cap : Nat} {L : List Int} {f : Bool} (b : Mdl.Is w m h cap L f) (good : Mdl.Good L) (k : Int) :
    Calls Try.prog 19 #[.pointer none, .pointer (some ⟨m, 0, none⟩), .int .i64 k] w fun en w' => en = .returned (.int .i64 1) ∧ Below w.heap.size w w' := by
  have P1 : Hid (Calls Try.prog 61 #[.pointer (some ⟨m, 0, none⟩), .int .i64 k] w fun en w' => ∃ x y z q : Int, en = .returned (.tuple #[.agg #[.int .u32 x, .int .u32 y, .int .u32 z], .int .i64 q]) ∧ Below w.heap.size w w') := by
    apply Lib.hid
    by_cases hk : k < 0 ∨ (L.length : Int) ≤ k
    · refine (Mdl.Part_bad b k hk).mono ?_
      rintro en w' ⟨rfl, hb⟩
      exact ⟨0, 0, 0, 1, rfl, hb⟩
    · obtain ⟨n, rfl⟩ := Int.eq_ofNat_of_zero_le (show 0 ≤ k by omega)
      refine (Mdl.Part_some b good n (by omega)).mono ?_
      rintro en w' ⟨rfl, hb⟩
      exact ⟨_, _, _, 0, rfl, hb⟩
  clear b good
  go_enter Try.func19, Try.ntmps19
  go_wp2_with (first
    | (go_at_call 61; refine P1.out.mono ?_; rintro e1 w1 ⟨x, y, z, q, rfl, hb1⟩; have hs1 := hb1.size; have HB1 := Lib.hid hb1; clear hb1))
  go_ret
  exact ⟨rfl, HB1.out.alloc hs1 _⟩
/-- The encoder's state behind a number's bits. -/
def bitsS (s : St) (n : Int) (w : Nat) : St :=
  if w = 0 then s else if w ≤ 12 then putS s (n % 2 ^ w) 1 (2 ^ w) else putS (putS s (n / 2 ^ (w - 12) % 4096) 1 4096) (n % 2 ^ (w - 12)) 1 (2 ^ (w - 12))
theorem bits_step (t : St) (n : Int) (j i : Nat) (hi : j = i + 12) (h0 : 0 < i) (h12 : i ≤ 12) : bitsS t n j = bitsS (putS t (n / 2 ^ i % 4096) 1 4096) n i := by
  unfold bitsS
  rw [if_neg (by omega), if_neg (by omega), if_neg (by omega), if_pos (by omega), show j - 12 = i from by omega]
theorem bits_last (t : St) (n : Int) (j : Nat) (h0 : 0 < j) (h12 : j ≤ 12) : bitsS t n j = putS t (n % 2 ^ j) 1 (2 ^ j) := by
  unfold bitsS
  rw [if_neg (by omega), if_pos h12]
theorem bits_nought (t : St) (n : Int) : bitsS t n 0 = t := by unfold bitsS; rw [if_pos rfl]
attribute [local irreducible] bitsS putS symS norm shiftS
theorem Is.drew {w : World} {m : Nat} {s : St} {v : Value} (a : Is w m s v) : Is w.drew m s v := ⟨a.blk.drew, a.sl.drew, a.ne⟩
set_option maxHeartbeats 2000000 in
set_option maxRecDepth 100000 in
theorem Bits_yes {w : World} {e : Nat} {s : St} {v : Value} (a : Is w e s v) (ok : s.Ready) (small : s.k ≤ 800000000) (n : Int) (wide : Nat) (h0 : 0 ≤ n) (h1 : n < 2 ^ wide) (h2 : wide ≤ 24) :
    Calls Try.prog 18 #[.pointer (some ⟨e, 0, none⟩), .int .u32 n, .int .i64 wide] w fun en w' => ∃ v', en = .returned (.int .i64 0) ∧ Is w' e (bitsS s n wide) v' ∧ Step e v v' w w' := by
  have nm : min wide 32 = wide := by omega
  have z0 : n / 2 ^ wide = 0 := Int.ediv_eq_zero_of_lt h0 h1
  have z1 : (n / 2 ^ wide == 0) = true := by rw [z0]; rfl
  have z2 : (n / 2 ^ wide != 0) = false := by rw [z0]; rfl
  have y1 : decide ((wide : Int) < 0) = false := decide_eq_false (by omega)
  have y2 : decide ((24 : Int) < (wide : Int)) = false := decide_eq_false (by omega)
  have A := Lib.hid a
  have R0 := Lib.hid ok
  clear a ok
  go_enter Try.func18, Try.ntmps18
  go_wp2
  clear z0 z1 z2 y1 y2 nm
  go_loopw [2] (fun u wr => ∃ (j : Nat) (t : St) (v' : Value), j ≤ 24 ∧ u = .int .i64 (j : Int) ∧ Hid (bitsS t n j = bitsS s n wide) ∧ Hid t.Ready ∧ t.k + 2 * j ≤ 800000048 ∧ Hid (Is wr e t v') ∧ Hid (Step e v v' w wr)) (fun u _ => (intOf u).toNat)
  case atStart => exact ⟨wide, s, v, h2, rfl, rfl, R0, by omega, A, Step.refl e v w⟩
  case round =>
    clear A R0
    obtain ⟨j, t, v', hj, rfl, HN, R0, hkk, A, S0⟩ := hrel
    have hm := A.out.blk.lt
    have u1 : (1 : Int) % 4294967296 = 1 := by decide
    by_cases hc : 12 < j
    · obtain ⟨i, hi⟩ : ∃ i : Nat, j = i + 12 := ⟨j - 12, by omega⟩
      have hji : (j : Int) - 12 = (i : Int) := by omega
      have nm : min i 32 = i := by omega
      have k1 : ¬ ((i : Int) < 0) := by omega
      have k2 : decide ((i : Int) < 0) = false := decide_eq_false k1
      have w1 : IntKind.u32.wrap 4096 = 4096 := by decide
      have w2 : IntKind.u32.wrap 4095 = 4095 := by decide
      have hp : (1 : Int) ≤ 2 ^ i := by have : (0 : Int) < 2 ^ i := Int.pow_pos (by omega); omega
      have hn32 : n < 4294967296 := by
        have : (2 : Int) ^ wide ≤ 2 ^ 24 := by
          have := Nat.pow_le_pow_right (show 0 < 2 by decide) h2
          exact_mod_cast this
        have e24 : (2 : Int) ^ 24 = 16777216 := by decide
        omega
      have hx0 : 0 ≤ n / 2 ^ i := Int.ediv_nonneg h0 (by omega)
      have hx1 : n / 2 ^ i ≤ n := Int.ediv_le_self _ h0
      have em : bits .and .u32 (n / 2 ^ i) 4095 = n / 2 ^ i % 4096 := bits_mask .u32 32 (by decide) wraps_u32 12 (by decide) _ hx0 (by show n / 2 ^ i < 4294967296; omega)
      have MY : Hid (May (n / 2 ^ i % 4096) 1 4096) := Lib.hid ⟨by omega, by omega, by omega, by omega⟩
      have HP := Lib.hid (put_ready R0.out MY.out)
      have HSt := Lib.hid (bits_step t n j i hi (by omega) (by omega))
      clear hi hx0 hx1 hp hn32
      go_wp2
      go_still_tail 11, (by kernel_rfl)
      go_wp2_with (first
        | (go_at_call 17
           refine (Put_yes A.out.drew R0.out (by omega) _ _ _ MY.out).mono ?_
           rintro e4 w4 ⟨v4, rfl, a4, s4⟩
           have A4 := Lib.hid a4
           have S4 := Lib.hid s4
           clear a4 s4))
      go_roundw
      case rel => exact ⟨i, putS t (n / 2 ^ i % 4096) 1 4096, v4, by omega, rfl, HSt.out.symm.trans HN.out, HP.out.1, by have := HP.out.2.2; omega, A4, S0.out.drew.trans S4.out⟩
      case measure => simp [intOf]; omega
    · by_cases hz : 0 < j
      · have m1 : min (j : Int) 12 = (j : Int) := by omega
        have m2 : mn (j : Int) 12 = (j : Int) := by unfold mn; omega
        have hp : (1 : Int) ≤ 2 ^ j ∧ (2 : Int) ^ j ≤ 4096 := by
          have h3 : (0 : Int) < 2 ^ j := Int.pow_pos (by omega)
          have h4 := Nat.pow_le_pow_right (show 0 < 2 by decide) (show j ≤ 12 by omega)
          have h5 : (2 : Int) ^ j ≤ 2 ^ 12 := by exact_mod_cast h4
          have e12 : (2 : Int) ^ 12 = 4096 := by decide
          omega
        have hn32 : n < 4294967296 := by
          have h4 := Nat.pow_le_pow_right (show 0 < 2 by decide) h2
          have h5 : (2 : Int) ^ wide ≤ 2 ^ 24 := by exact_mod_cast h4
          have e24 : (2 : Int) ^ 24 = 16777216 := by decide
          omega
        have w1 : IntKind.u32.wrap (2 ^ j) = 2 ^ j := wraps_u32 _ (by omega) (by omega)
        have w2 : IntKind.u32.wrap (2 ^ j - 1) = 2 ^ j - 1 := wraps_u32 _ (by omega) (by omega)
        have em : bits .and .u32 n (2 ^ j - 1) = n % 2 ^ j := bits_mask .u32 32 (by decide) wraps_u32 j (by show j ≤ 32; omega) _ h0 (by show n < 4294967296; omega)
        have hq0 := Int.emod_nonneg n (show (2 : Int) ^ j ≠ 0 by omega)
        have hq1 := Int.emod_lt_of_pos n (show (0 : Int) < 2 ^ j by omega)
        have MY : Hid (May (n % 2 ^ j) 1 (2 ^ j)) := Lib.hid ⟨hq0, by omega, by omega, by omega⟩
        have HP := Lib.hid (put_ready R0.out MY.out)
        have HSt := Lib.hid (bits_last t n j hz (by omega))
        have k4 : ¬ ((j : Int) < 0) := by omega
        have k5 : decide ((j : Int) < 0) = false := decide_eq_false k4
        clear hq0 hq1 hp hn32
        go_wp2
        go_still_tail 11, (by kernel_rfl)
        go_wp2_with (first
          | (go_at_call 17
             refine (Put_yes A.out.drew R0.out (by omega) _ _ _ MY.out).mono ?_
             rintro e4 w4 ⟨v4, rfl, a4, s4⟩
             have A4 := Lib.hid a4
             have S4 := Lib.hid s4
             clear a4 s4))
        go_roundw
        case rel => exact ⟨0, putS t (n % 2 ^ j) 1 (2 ^ j), v4, by omega, rfl, (bits_nought _ _).trans (HSt.out.symm.trans HN.out), HP.out.1, by have := HP.out.2.2; omega, A4, S0.out.drew.trans S4.out⟩
        case measure => simp [intOf]; omega
      · obtain rfl : j = 0 := by omega
        rw [bits_nought] at HN
        have HN2 := HN.out.symm
        have HF := Lib.hid HN2
        clear HN HN2
        go_wp2
        go_ret
        rw [HF.out]
        exact ⟨v', rfl, A.out, S0.out⟩
theorem Bits_none (n wide : Value) (w : World) : Calls Try.prog 18 #[.pointer none, n, wide] w fun en w' => en = .returned (.int .i64 1) ∧ w' = w := by
  go_enter Try.func18, Try.ntmps18
  go_wp2
  go_ret
  exact ⟨rfl, rfl⟩
theorem Bits_bad (e : Nat) (n : Int) (wide : Int) (h0 : 0 ≤ n) (hb : wide < 0 ∨ 24 < wide ∨ (2 : Int) ^ wide.toNat ≤ n) (w : World) :
    Calls Try.prog 18 #[.pointer (some ⟨e, 0, none⟩), .int .u32 n, .int .i64 wide] w fun en w' => en = .returned (.int .i64 1) ∧ w' = w := by
  by_cases h1 : wide < 0
  · clear hb
    go_enter Try.func18, Try.ntmps18
    go_wp2
    go_ret
    exact ⟨rfl, rfl⟩
  by_cases h2 : 24 < wide
  · clear hb
    go_enter Try.func18, Try.ntmps18
    go_wp2
    go_ret
    exact ⟨rfl, rfl⟩
  obtain ⟨k, rfl⟩ := Int.eq_ofNat_of_zero_le (show 0 ≤ wide by omega)
  have h3 : (2 : Int) ^ k ≤ n := by
    rcases hb with h | h | h
    · omega
    · omega
    · simpa using h
  have nm : min k 32 = k := by omega
  have hp : (0 : Int) < 2 ^ k := Int.pow_pos (by omega)
  have z0 : ¬ (n / 2 ^ k = 0) := by
    have : 1 ≤ n / 2 ^ k := (Int.le_ediv_iff_mul_le hp).2 (by omega)
    omega
  have z1 : (n / 2 ^ k == 0) = false := by rw [beq_eq_false_iff_ne]; exact z0
  have z2 : (n / 2 ^ k != 0) = true := by rw [bne_iff_ne]; exact z0
  clear hb h3 hp
  go_enter Try.func18, Try.ntmps18
  go_wp2
  go_ret
  exact ⟨rfl, rfl⟩
end Go.Proofs.Ytlbjoflmfboeeaa.Enc

/-
  The walks of the program's encoder: Len, Bytes; no condition but those told.
-/
set_option linter.unusedVariables false
set_option linter.unusedSimpArgs false
namespace Go.Proofs.Ytlbjoflmfboeeaa.Enc
open Go.RowKit Go.Proofs.Ytlbjoflmfboeeaa Go.Proofs.YtlbjoflmfboeeaaW.PrintWords

theorem Len_none (w : World) : Calls Try.prog 20 #[.pointer none] w fun en w' => en = .returned (.int .i64 0) ∧ w' = w := by
  go_enter Try.func20, Try.ntmps20
  go_wp2
  go_ret
  exact ⟨rfl, rfl⟩
theorem Len_some {w : World} {e : Nat} {s : St} {v : Value} (a : Is w e s v) (he : 1 ≤ s.he) (small : s.k ≤ 900000000) :
    Calls Try.prog 20 #[.pointer (some ⟨e, 0, none⟩)] w fun en w' => en = .returned (.int .i64 ((s.k + 4 : Nat) : Int)) ∧ Below w.heap.size w w' := by
  obtain ⟨A0, cap, hv, hcap⟩ := a.sl.form
  have d2 := a.blk.cell (i := 2) rfl
  have d4 := a.blk.cell (i := 4) rfl
  have d5 := a.blk.cell (i := 5) rfl
  obtain ⟨lo, sz, he', fi, out, be⟩ := s
  simp only [St.k] at *
  clear a
  subst hv
  generalize out.length = n at *
  cases be with
  | true =>
    simp only [if_true] at small ⊢
    go_enter Try.func20, Try.ntmps20
    go_wp2
    go_quiet (fail)
    go_wp2
    go_ret
    exact ⟨by simp; omega, pw_below_drewN (Below.refl _ _) _⟩
  | false =>
    simp only [Bool.false_eq_true, if_false] at small ⊢
    go_enter Try.func20, Try.ntmps20
    go_wp2
    go_quiet (fail)
    go_wp2
    go_ret
    exact ⟨by simp; omega, pw_below_drewN (Below.refl _ _) _⟩
/-- Without noughts behind. -/
def strip (l : List Int) : List Int := (l.reverse.dropWhile (fun x => x == 0)).reverse
theorem strip_nil : strip [] = [] := rfl
theorem strip_snoc (l : List Int) (x : Int) : strip (l ++ [x]) = if x = 0 then strip l else l ++ [x] := by
  unfold strip
  rw [List.reverse_append, List.reverse_singleton, List.singleton_append, List.dropWhile_cons]
  by_cases h : x = 0
  · subst h; simp
  · rw [if_neg h, if_neg (by simpa using h)]; simp
theorem strip_take (l : List Int) (k : Nat) (h : k < l.length) : strip (l.take (k + 1)) = if l[k] = 0 then strip (l.take k) else l.take (k + 1) := by
  rw [List.take_succ_eq_append_getElem h, strip_snoc]
def shifts : Nat → St → St
  | 0, s => s
  | n + 1, s => shifts n (shiftS s)
/-- The bytes of all parts so far. -/
def bytesS (s : St) : List Int := strip (shifts 5 s).out
theorem Bytes_none (w : World) : Calls Try.prog 21 #[.pointer none] w fun en w' => en = .returned (.slice none 0 0) ∧ w' = w := by
  go_enter Try.func21, Try.ntmps21
  go_wp2
  go_ret
  exact ⟨rfl, rfl⟩
set_option maxHeartbeats 2000000 in
set_option maxRecDepth 100000 in
theorem Bytes_some {w : World} {e : Nat} {s : St} {v : Value} (a : Is w e s v) (ok : s.Ready) (small : s.k ≤ 800000000) :
    Calls Try.prog 21 #[.pointer (some ⟨e, 0, none⟩)] w fun en w' => ∃ v', en = .returned v' ∧ Sl w' 5 .u8 v' (bytesS s) ∧ (∀ g, v'.ownBlock = some g → w.heap.size ≤ g) ∧ Below w.heap.size w w' := by
  obtain ⟨A0, cap, hv, hcap⟩ := a.sl.form
  subst hv
  have d0 := a.blk.cell (i := 0) rfl
  have d1 := a.blk.cell (i := 1) rfl
  have d2 := a.blk.cell (i := 2) rfl
  have d3 := a.blk.cell (i := 3) rfl
  have d4 := a.blk.cell (i := 4) rfl
  have d5 := a.blk.cell (i := 5) rfl
  have hle := a.blk.lt
  have A := Lib.hid a
  have R := Lib.hid ok
  have hl : s.out.length ≤ 800000000 := by have := ok.he0; have h2 := small; unfold St.k at h2; omega
  clear a ok
  go_enter Try.func21, Try.ntmps21
  go_wp2_with (first
    | (at_builtin; refine wpList_add (.tmp 9) (.tmp 13) 35 5 .u8 0 1 rfl rfl Try.underlying35 info_u8 (.slice (some ⟨w.heap.size + 1, 0, none⟩) 0 0) (.slice A0 s.out.length cap) [] s.out rfl rfl ?_ ?_ ?_ ?_ ?_
       · have hr : RowI ((w.alloc (.cells #[.int .u64 s.lo, .int .u32 s.sz, .int .i64 s.he, .int .u8 s.fi, .slice A0 s.out.length cap, .bool s.be] 110)).alloc (.cells #[] 5)) 5 .u8 (w.heap.size + 1) 0 [] :=
           ⟨#[], Blk.new_at _ _ (by simp), Nat.le_refl _, Nat.zero_le _, rfl, fun i h => by simp at h⟩
         exact Sl.row hr
       · exact Src.of_sl ((A.out.sl.alloc _).alloc _)
       · simp; omega
       · simp; omega
       intro v1 w1 ha
       rw [List.nil_append] at ha
       have b1 : Blk w1 w.heap.size 110 #[.int .u64 s.lo, .int .u32 s.sz, .int .i64 s.he, .int .u8 s.fi, .slice A0 s.out.length cap, .bool s.be] :=
         ((Blk.new w _ _).alloc _).of_same (ha.grown.block _ (by simp; omega) (by show some w.heap.size ≠ some (w.heap.size + 1); simp))
       obtain ⟨A1, c1, hv1, hc1⟩ := ha.sl.form
       subst hv1
       have x4 := b1.cell (i := 4) rfl
       have y4 := b1.free 4
       have B1 := Lib.hid b1
       have HA := Lib.hid ha
       clear ha b1))
  have hown : ∀ g, (Value.slice A1 s.out.length c1).ownBlock = some g → w.heap.size < g := by
    intro g hg
    rcases HA.out.at_ with h | h
    · rw [h] at hg; have e : w.heap.size + 1 = g := Option.some.inj hg; omega
    · rw [h] at hg; have e := Option.some.inj hg; simp at e; omega
  have hB : Below w.heap.size w w1 := ((((Below.refl _ _).alloc (Nat.le_refl _) _ : Below w.heap.size w _).alloc (by simp) _).trans (HA.out.only.below (B := w.heap.size) (by simp; omega) (fun i hi => by have e : w.heap.size + 1 = i := Option.some.inj hi; omega)))
  have I1 : Is (w1.setCell ⟨w.heap.size, 4, none⟩ (.slice A1 s.out.length c1)) w.heap.size s (.slice A1 s.out.length c1) :=
    ⟨B1.out.set 4 _, HA.out.sl.other (a := ⟨w.heap.size, 4, none⟩) (fun h => Nat.lt_irrefl _ (hown _ h)) _, fun h => Nat.lt_irrefl _ (hown _ h)⟩
  have hB2 : Below w.heap.size w (w1.setCell ⟨w.heap.size, 4, none⟩ (.slice A1 s.out.length c1)) := hB.setCell (p := ⟨w.heap.size, 4, none⟩) (Nat.le_refl _) _
  have I0 := Lib.hid I1
  have W0 := Lib.hid hB2
  have N0 := Lib.hid hown
  clear d0 d1 d2 d3 d4 d5 x4 y4 B1 HA hown hB I1 hB2 A
  go_loopw [16] (fun u wr => ∃ (j : Nat) (t : St) (v' : Value), j ≤ 5 ∧ u = .int .i64 (j : Int) ∧ Hid (shifts (5 - j) t = shifts 5 s) ∧ Hid t.Ok ∧ t.k = s.k + j ∧ Hid (Is wr w.heap.size t v') ∧ Hid (∀ g, v'.ownBlock = some g → w.heap.size < g) ∧ Hid (Below w.heap.size w wr)) (fun u _ => 5 - (intOf u).toNat)
  case atStart =>
    have r := R.out
    exact ⟨0, s, _, by omega, rfl, rfl, ⟨r.lo0, by have := r.sum; have := r.sz0; omega, by have := r.sz0; omega, r.sz1, r.he0, r.fi0, r.fi1, by omega⟩, rfl, I0, N0, W0⟩
  case round =>
    clear I0 W0 N0
    obtain ⟨j, t, v', hj, rfl, HN, T1, hk, I1, N1, W1⟩ := hrel
    by_cases hlt : j < 5
    · have SH := Lib.hid (shift_calls I1.out T1.out)
      go_wp2_with (first
        | (go_at_call 60; refine SH.out.mono ?_; rintro e w4 ⟨v4, rfl, a4, s4⟩; have A5 := Lib.hid a4; have S5 := Lib.hid s4; clear a4 s4))
      go_roundw
      case rel =>
        have hh := shiftS_he t T1.out.he0
        have hf := shiftS_fi t T1.out.fi0 T1.out.fi1
        have hl := shiftS_lo t
        have hz := shiftS_sz t
        have hk2 := shift_k t T1.out.he0
        have hwr := I1.out.blk.lt
        refine ⟨j + 1, shiftS t, v4, by omega, by push_cast; rfl, ?_, ⟨hl.1, by omega, by rw [hz]; exact T1.out.sz0, by rw [hz]; exact T1.out.sz1, hh, hf.1, hf.2, by omega⟩, by omega, A5, fun g hg => ?_, W1.out.trans (S5.out.only.below (B := w.heap.size) (by omega) (fun i hi => ?_))⟩
        · have e5 : 5 - j = (5 - (j + 1)) + 1 := by omega
          have := HN.out
          rw [e5] at this
          exact this
        · rcases S5.out.own g hg with h | h
          · exact N1.out g h
          · omega
        · rcases hi with hi | hi
          · omega
          · exact Nat.le_of_lt (N1.out i hi)
      case measure => simp [intOf]; omega
    · obtain rfl : j = 5 := by omega
      have HF : Hid (t.out = (shifts 5 s).out) := Lib.hid (congrArg St.out HN.out)
      have hlen : t.out.length ≤ 900000000 := by have := T1.out.he0; unfold St.k at hk; unfold St.k at small; omega
      have HFin : Hid (bytesS s = strip t.out) := Lib.hid (by unfold bytesS; rw [HF.out])
      have hsl := I1.out.sl
      obtain ⟨lo, sz, he, fi, out, be⟩ := t
      simp only at hlen hsl HFin
      rcases hsl with ⟨rfl, rfl⟩ | ⟨g, cp, rfl, hrow⟩
      · have x4 := I1.out.blk.cell (i := 4) rfl
        go_wp2
        refine wp_loop_rounds 1 ?_
        rw [rounds_succ]
        go_wp2
        go_ret
        exact ⟨_, rfl, by rw [HFin.out]; exact Sl.nil _ _ _, fun g hg => (by cases hg), W1.out⟩
      · have HRow := Lib.hid hrow
        have HBk := Lib.hid I1.out.blk
        have hg := N1.out g rfl
        simp only at HBk
        clear hrow I1 T1 HN HF
        obtain ⟨len, hlen2⟩ : ∃ len, out.length = len := ⟨_, rfl⟩
        have HL := Lib.hid hlen2
        have hcl := HRow.out.len.1
        rw [hlen2] at hlen HBk hcl
        clear hlen2 N1
        go_wp2
        go_loopg [] len (fun n wq => n ≤ len ∧ Hid (strip (out.take n) = bytesS s) ∧ Hid (Blk wq w.heap.size 110 #[.int .u64 lo, .int .u32 sz, .int .i64 he, .int .u8 fi, .slice (some ⟨g, 0, none⟩) n cp, .bool be]) ∧ Hid (RowI wq 5 .u8 g cp out) ∧ Hid (Below w.heap.size w wq))
        case atStart => exact ⟨Nat.le_refl _, by show _ = _; rw [List.take_of_length_le (by rw [HL.out]; omega)]; exact HFin.out.symm, HBk, HRow, W1⟩
        case round =>
          clear HBk HRow W1
          obtain ⟨hn, HS, HBk, HRow, W1⟩ := hrel
          have x4 := HBk.out.cell (i := 4) rfl
          have y4 := HBk.out.free 4
          by_cases h0 : 0 < gk
          · obtain ⟨n, rfl⟩ : ∃ n, gk = n + 1 := ⟨gk - 1, by omega⟩
            have c1 := HRow.out.cell (i := n) (by rw [HL.out]; omega)
            have HT := Lib.hid (strip_take out n (by rw [HL.out]; omega))
            have e1 : ((n + 1 : Nat) : Int) - 1 = (n : Int) := by omega
            generalize out[n]'(by rw [HL.out]; omega) = y at *
            by_cases hy : y = 0
            · have z : (y == 0) = true := by rw [beq_iff_eq]; exact hy
              have HT2 : Hid (strip (out.take (n + 1)) = strip (out.take n)) := Lib.hid (by rw [HT.out, if_pos hy])
              have ncp : n ≤ cp := by omega
              clear hy HT
              go_wp2
              go_roundg n
              case measure => omega
              case rel => exact ⟨by omega, HT2.out.symm.trans HS.out, HBk.out.set 4 _, HRow.out.other (a := ⟨w.heap.size, 4, none⟩) (by simp; omega) _, W1.out.setCell (p := ⟨w.heap.size, 4, none⟩) (Nat.le_refl _) _⟩
            · have z : (y == 0) = false := by rw [beq_eq_false_iff_ne]; exact hy
              have HT2 : Hid (strip (out.take (n + 1)) = out.take (n + 1)) := Lib.hid (by rw [HT.out, if_neg hy])
              clear hy HT
              go_wp2
              go_ret
              have hr := HRow.out.take (n + 1)
              have hs := Sl.row hr
              rw [List.length_take, Nat.min_eq_left (by rw [HL.out]; omega)] at hs
              exact ⟨_, rfl, by rw [← HS.out, HT2.out]; exact hs, fun g' hg' => (by have e : g = g' := Option.some.inj hg'; omega), W1.out⟩
          · obtain rfl : gk = 0 := by omega
            go_wp2
            go_ret
            have hr := HRow.out.take 0
            have hs := Sl.row hr
            rw [List.take_zero] at hs HS
            exact ⟨_, rfl, by rw [← HS.out]; exact hs, fun g' hg' => (by have e : g = g' := Option.some.inj hg'; omega), W1.out⟩
end Go.Proofs.Ytlbjoflmfboeeaa.Enc

/-
  Digits to the base 256: sums, and what goes over. Plain theorems; no condition but those told.
-/
set_option linter.unusedVariables false
namespace Go.Proofs.Ytlbjoflmfboeeaa.Dig

/-- The number that digits are. -/
def vl (D : List Int) : Int := D.foldl (fun a x => a * 256 + x) 0
theorem foldl_vl (a : Int) (D : List Int) : D.foldl (fun a x => a * 256 + x) a = a * 256 ^ D.length + vl D := by
  induction D generalizing a with
  | nil => simp [vl]
  | cons x l ih =>
    have h1 := ih (a * 256 + x)
    have h2 := ih (0 * 256 + x)
    unfold vl
    simp only [List.foldl_cons, List.length_cons]
    rw [h1, h2, Int.pow_succ, Int.add_mul, Int.mul_assoc]
    simp only [Int.zero_mul, Int.zero_add]
    rw [Int.mul_comm 256]
    omega
theorem vl_append (A B : List Int) : vl (A ++ B) = vl A * 256 ^ B.length + vl B := by
  unfold vl
  rw [List.foldl_append, foldl_vl]; rfl
theorem vl_nil : vl [] = 0 := rfl
theorem vl_one (x : Int) : vl [x] = x := by simp [vl]
theorem vl_cons (x : Int) (l : List Int) : vl (x :: l) = x * 256 ^ l.length + vl l := by
  have := vl_append [x] l
  rw [vl_one] at this
  exact this
theorem vl_snoc (l : List Int) (x : Int) : vl (l ++ [x]) = vl l * 256 + x := by
  rw [vl_append, vl_one]; simp
theorem pow_pos256 (n : Nat) : (0 : Int) < 256 ^ n := Int.pow_pos (by omega)
theorem vl_nonneg (D : List Int) (h : ∀ x ∈ D, 0 ≤ x) : 0 ≤ vl D := by
  induction D with
  | nil => exact Int.le_refl 0
  | cons x l ih =>
    rw [vl_cons]
    have h1 := ih fun y hy => h y (List.mem_cons_of_mem _ hy)
    have h2 := h x (List.mem_cons_self ..)
    have h3 := Int.mul_nonneg h2 (Int.le_of_lt (pow_pos256 l.length))
    omega
theorem vl_lt (D : List Int) (h : ∀ x ∈ D, 0 ≤ x ∧ x ≤ 255) : vl D < 256 ^ D.length := by
  induction D with
  | nil => simp [vl]
  | cons x l ih =>
    rw [vl_cons]
    have h1 := ih fun y hy => h y (List.mem_cons_of_mem _ hy)
    have h2 := h x (List.mem_cons_self ..)
    have h3 : x * 256 ^ l.length ≤ 255 * 256 ^ l.length := Int.mul_le_mul_of_nonneg_right h2.2 (Int.le_of_lt (pow_pos256 _))
    rw [List.length_cons, Int.pow_succ]
    omega
/-- Digits are told by the number. -/
theorem vl_inj (A B : List Int) (hl : A.length = B.length) (ha : ∀ x ∈ A, 0 ≤ x ∧ x ≤ 255) (hb : ∀ x ∈ B, 0 ≤ x ∧ x ≤ 255) (h : vl A = vl B) : A = B := by
  induction A generalizing B with
  | nil => cases B with
    | nil => rfl
    | cons y m => simp at hl
  | cons x l ih =>
    cases B with
    | nil => simp at hl
    | cons y m =>
      have hlm : l.length = m.length := by simpa using hl
      rw [vl_cons, vl_cons, hlm] at h
      have h1 := vl_lt l fun z hz => ha z (List.mem_cons_of_mem _ hz)
      have h2 := vl_lt m fun z hz => hb z (List.mem_cons_of_mem _ hz)
      have h3 := vl_nonneg l fun z hz => (ha z (List.mem_cons_of_mem _ hz)).1
      have h4 := vl_nonneg m fun z hz => (hb z (List.mem_cons_of_mem _ hz)).1
      rw [hlm] at h1
      have hp := pow_pos256 m.length
      generalize (256 : Int) ^ m.length = p at *
      have hxy : x = y := by
        rcases Int.lt_trichotomy x y with hlt | heq | hgt
        · have : (x + 1) * p ≤ y * p := Int.mul_le_mul_of_nonneg_right (by omega) (by omega)
          rw [Int.add_mul] at this; omega
        · exact heq
        · have : (y + 1) * p ≤ x * p := Int.mul_le_mul_of_nonneg_right (by omega) (by omega)
          rw [Int.add_mul] at this; omega
      subst hxy
      rw [ih m hlm (fun z hz => ha z (List.mem_cons_of_mem _ hz)) (fun z hz => hb z (List.mem_cons_of_mem _ hz)) (by omega)]
theorem vl_set (D : List Int) (i : Nat) (hi : i < D.length) (x : Int) : vl (D.set i x) = vl D + (x - D[i]) * 256 ^ (D.length - 1 - i) := by
  induction D generalizing i with
  | nil => simp at hi
  | cons y l ih =>
    cases i with
    | zero =>
      simp only [List.set_cons_zero, List.getElem_cons_zero, List.length_cons, Nat.add_sub_cancel, Nat.sub_zero]
      rw [vl_cons, vl_cons, Int.sub_mul]
      omega
    | succ i =>
      simp only [List.set_cons_succ, List.getElem_cons_succ, List.length_cons, Nat.add_sub_cancel]
      have := ih i (by simpa using hi)
      rw [vl_cons, vl_cons, this, List.length_set, show l.length - (i + 1) = l.length - 1 - i from by omega]
      omega
/-- A number is added to the last digits, none is carried. -/
def addF : Nat → List Int → Nat → Int → List Int
  | 0, D, _, _ => D
  | n + 1, D, K, a => addF n (D.set (K + n) (D.getD (K + n) 0 + a % 256)) K (a / 256)
/-- What is above 255 goes over, from place n down. -/
def carF : Nat → List Int → Nat → List Int
  | 0, D, _ => D
  | i + 1, D, K => if K ≤ i + 1 ∨ 255 < D.getD (i + 1) 0 then carF i (if 255 < D.getD (i + 1) 0 then (D.set (i + 1) (D.getD (i + 1) 0 - 256)).set i (D.getD i 0 + 1) else D) K else D
theorem getD_get (D : List Int) (i : Nat) (h : i < D.length) : D.getD i 0 = D[i] := by rw [List.getD_eq_getElem?_getD, List.getElem?_eq_getElem h]; rfl
theorem vl_put (D : List Int) (i : Nat) (hi : i < D.length) (x : Int) (e : Nat) (he : D.length - 1 - i = e) : vl (D.set i x) = vl D + (x - D.getD i 0) * 256 ^ e := by
  subst he
  rw [vl_set D i hi, getD_get D i hi]
theorem getD_put (D : List Int) (i j : Nat) (h : j ≠ i) (x : Int) : (D.set j x).getD i 0 = D.getD i 0 := by
  rw [List.getD_eq_getElem?_getD, List.getD_eq_getElem?_getD, List.getElem?_set_ne h]
theorem addF_len (n : Nat) : ∀ (D : List Int) (K : Nat) (a : Int), (addF n D K a).length = D.length := by
  induction n with
  | zero => intro D K a; rfl
  | succ n ih => intro D K a; unfold addF; rw [ih]; simp
theorem carF_len (n : Nat) : ∀ (D : List Int) (K : Nat), (carF n D K).length = D.length := by
  induction n with
  | zero => intro D K; rfl
  | succ n ih => intro D K; unfold carF; split <;> (try split) <;> simp [ih]
theorem addF_vl (n : Nat) (hn : n ≤ 4) : ∀ (D : List Int) (K : Nat) (a : Int), D.length = K + 4 → 0 ≤ a → a < 256 ^ n → vl (addF n D K a) = vl D + a * 256 ^ (4 - n) := by
  induction n with
  | zero =>
    intro D K a hl h0 h1
    have : a = 0 := by simp at h1; omega
    subst this
    simp [addF]
  | succ n ih =>
    intro D K a hl h0 h1
    unfold addF
    rw [ih (by omega) _ _ _ (by simpa using hl) (by omega) (by rw [Int.pow_succ] at h1; exact Int.ediv_lt_of_lt_mul (by omega) h1), vl_put D (K + n) (by omega) _ (4 - (n + 1)) (by omega), show 4 - n = 4 - (n + 1) + 1 from by omega, Int.pow_succ]
    have e : a = a % 256 + a / 256 * 256 := by omega
    generalize (256 : Int) ^ (4 - (n + 1)) = p
    have h5 : a * p = (a % 256 + a / 256 * 256) * p := by rw [← e]
    rw [h5, Int.add_mul, show D.getD (K + n) 0 + a % 256 - D.getD (K + n) 0 = a % 256 from by omega, Int.mul_assoc, Int.mul_comm 256 p]
    omega
theorem carF_vl (n : Nat) : ∀ (D : List Int) (K : Nat), n < D.length → vl (carF n D K) = vl D := by
  induction n with
  | zero => intro D K h; rfl
  | succ i ih =>
    intro D K h
    unfold carF
    by_cases hc : K ≤ i + 1 ∨ 255 < D.getD (i + 1) 0
    · rw [if_pos hc]
      by_cases h2 : 255 < D.getD (i + 1) 0
      · rw [if_pos h2, ih _ _ (by simp; omega), vl_put _ i (by simp; omega) _ (D.length - 1 - (i + 1) + 1) (by simp; omega), vl_put D (i + 1) h _ (D.length - 1 - (i + 1)) rfl, getD_put D i (i + 1) (by omega), Int.pow_succ]
        generalize (256 : Int) ^ (D.length - 1 - (i + 1)) = p
        rw [show D.getD (i + 1) 0 - 256 - D.getD (i + 1) 0 = -256 from by omega, show D.getD i 0 + 1 - D.getD i 0 = 1 from by omega]
        omega
      · rw [if_neg h2, ih _ _ (by omega)]
    · rw [if_neg hc]
/-- What holds of digits while they are carried: from i down. -/
structure Mid (D : List Int) (K i : Nat) : Prop where
  low : ∀ x ∈ D, 0 ≤ x
  hi : ∀ j (h : j < D.length), i < j → D[j] ≤ 255
  at_ : ∀ (h : i < D.length), D[i] ≤ 511
  lt : ∀ j (h : j < D.length), j < i → D[j] ≤ 510
  far : ∀ j (h : j < D.length), j < i → j < K → D[j] ≤ 255
theorem Mid.step {D : List Int} {K i : Nat} (h : Mid D K (i + 1)) (hl : i + 1 < D.length) (h2 : 255 < D.getD (i + 1) 0) : Mid ((D.set (i + 1) (D.getD (i + 1) 0 - 256)).set i (D.getD i 0 + 1)) K i := by
  rw [getD_get _ _ hl] at h2 ⊢
  rw [getD_get _ _ (show i < D.length by omega)]
  have h511 := h.at_ hl
  have hi510 := h.lt i (by omega) (by omega)
  have hi0 := h.low _ (List.getElem_mem (show i < D.length by omega))
  refine ⟨fun x hx => ?_, fun j hj hij => ?_, fun hj => ?_, fun j hj hij => ?_, fun j hj hij hK => ?_⟩
  · rcases List.mem_or_eq_of_mem_set hx with hx | hx
    · rcases List.mem_or_eq_of_mem_set hx with hx | hx
      · exact h.low x hx
      · omega
    · omega
  · simp at hj
    rw [List.getElem_set_ne (by omega)]
    by_cases hji : j = i + 1
    · subst hji; rw [List.getElem_set_self]; omega
    · rw [List.getElem_set_ne (by omega)]
      exact h.hi j hj (by omega)
  · rw [List.getElem_set_self]; omega
  · simp at hj
    rw [List.getElem_set_ne (by omega), List.getElem_set_ne (by omega)]
    exact h.lt j hj (by omega)
  · simp at hj
    rw [List.getElem_set_ne (by omega), List.getElem_set_ne (by omega)]
    exact h.far j hj (by omega) hK
theorem Mid.skip {D : List Int} {K i : Nat} (h : Mid D K (i + 1)) (hl : i + 1 < D.length) (h2 : ¬ 255 < D.getD (i + 1) 0) : Mid D K i := by
  rw [getD_get _ _ hl] at h2
  refine ⟨h.low, fun j hj hij => ?_, fun hj => ?_, fun j hj hij => h.lt j hj (by omega), fun j hj hij hK => h.far j hj (by omega) hK⟩
  · by_cases hji : j = i + 1
    · subst hji; omega
    · exact h.hi j hj (by omega)
  · have := h.lt i hj (by omega); omega
theorem carF_ok (i : Nat) : ∀ (D : List Int) (K : Nat), Mid D K i → i < D.length → vl D < 256 ^ D.length → ∀ x ∈ carF i D K, 0 ≤ x ∧ x ≤ 255 := by
  induction i with
  | zero =>
    intro D K h hl hv x hx
    have hx' : x ∈ D := hx
    refine ⟨h.low x hx', ?_⟩
    obtain ⟨j, hj, rfl⟩ := List.getElem_of_mem hx'
    by_cases h0 : 0 < j
    · exact h.hi j hj h0
    · obtain rfl : j = 0 := by omega
      cases D with
      | nil => simp at hl
      | cons y l =>
        rw [vl_cons, List.length_cons, Int.pow_succ] at hv
        have hn := vl_nonneg l fun z hz => h.low z (List.mem_cons_of_mem _ hz)
        simp only [List.getElem_cons_zero]
        have hp := pow_pos256 l.length
        generalize (256 : Int) ^ l.length = p at *
        by_cases hy : y ≤ 255
        · exact hy
        · have : 256 * p ≤ y * p := Int.mul_le_mul_of_nonneg_right (by omega) (by omega)
          omega
  | succ i ih =>
    intro D K h hl hv
    unfold carF
    by_cases hc : K ≤ i + 1 ∨ 255 < D.getD (i + 1) 0
    · rw [if_pos hc]
      by_cases h2 : 255 < D.getD (i + 1) 0
      · rw [if_pos h2]
        have hvv : vl ((D.set (i + 1) (D.getD (i + 1) 0 - 256)).set i (D.getD i 0 + 1)) = vl D := by
          have := carF_vl (i + 1) D (i + 1) hl
          unfold carF at this
          rw [if_pos (.inl (Nat.le_refl _)), if_pos h2, carF_vl i _ _ (by simp; omega)] at this
          exact this
        exact ih _ K (h.step hl h2) (by simp; omega) (by rw [hvv]; simpa using hv)
      · rw [if_neg h2]
        exact ih D K (h.skip hl h2) (by omega) hv
    · rw [if_neg hc]
      intro x hx
      refine ⟨h.low x hx, ?_⟩
      obtain ⟨j, hj, rfl⟩ := List.getElem_of_mem hx
      rcases Nat.lt_trichotomy j (i + 1) with h1 | h1 | h1
      · exact h.far j hj h1 (by omega)
      · subst h1
        rw [getD_get _ _ hl] at hc
        omega
      · exact h.hi j hj h1
/-- The last n digits behind K may have grown. -/
structure Adds (D : List Int) (K n : Nat) : Prop where
  low : ∀ x ∈ D, 0 ≤ x
  far : ∀ j (h : j < D.length), j < K + n → D[j] ≤ 255
  top : ∀ x ∈ D, x ≤ 510
theorem Adds.step {D : List Int} {K n : Nat} (h : Adds D K (n + 1)) (hl : K + n < D.length) (a : Int) : Adds (D.set (K + n) (D.getD (K + n) 0 + a % 256)) K n := by
  rw [getD_get _ _ hl]
  have h0 := h.low _ (List.getElem_mem hl)
  have h1 := h.far (K + n) hl (by omega)
  refine ⟨fun x hx => ?_, fun j hj hjn => ?_, fun x hx => ?_⟩
  · rcases List.mem_or_eq_of_mem_set hx with hx | hx
    · exact h.low x hx
    · omega
  · simp at hj
    rw [List.getElem_set_ne (by omega)]
    exact h.far j hj (by omega)
  · rcases List.mem_or_eq_of_mem_set hx with hx | hx
    · exact h.top x hx
    · omega
theorem addF_ok (n : Nat) (hn : n ≤ 4) : ∀ (D : List Int) (K : Nat) (a : Int), D.length = K + 4 → Adds D K n → Adds (addF n D K a) K 0 := by
  induction n with
  | zero => intro D K a hl h; exact h
  | succ n ih =>
    intro D K a hl h
    unfold addF
    exact ih (by omega) _ _ _ (by simpa using hl) (h.step (by omega) a)
theorem Adds.mid {D : List Int} {K : Nat} (h : Adds D K 0) (hl : D.length = K + 4) : Mid D K (K + 3) :=
  ⟨h.low, fun j hj hij => by omega, fun hj => by have := h.top _ (List.getElem_mem hj); omega, fun j hj _ => h.top _ (List.getElem_mem hj), fun j hj _ hK => h.far j hj (by omega)⟩
end Go.Proofs.Ytlbjoflmfboeeaa.Dig

/-
  The document's encoder: what it holds, and the walks of New, power, Put; no condition but those told.
-/
set_option linter.unusedVariables false
set_option linter.unusedSimpArgs false
namespace Go.Proofs.Ytlbjoflmfboeeaa.Enc
open Go.RowKit Go.Proofs.Ytlbjoflmfboeeaa Go.Proofs.YtlbjoflmfboeeaaW.PrintWords Go.Proofs.Ytlbjoflmfboeeaa.Dig

structure RSt where
  D : List Int
  S : Int
  K : Nat
def rstep (R : RSt) : RSt := ⟨R.D ++ [0], R.S * 256, R.K + 1⟩
def rnorm : Nat → RSt → RSt
  | 0, R => R
  | n + 1, R => if R.S < 16777216 then rnorm n (rstep R) else R
def rputS (R : RSt) (lo ow al : Int) : RSt := rnorm 2 ⟨carF (R.K + 3) (addF 4 R.D R.K (R.S / al * lo)) R.K, R.S / al * ow, R.K⟩
structure RGood (R : RSt) : Prop where
  len : R.D.length = R.K + 4
  dig : ∀ x ∈ R.D, 0 ≤ x ∧ x ≤ 255
  s0 : 16777216 ≤ R.S
  s1 : R.S < 4294967296
  val : vl R.D + R.S ≤ 256 ^ (R.K + 4)
theorem rnorm_good (n : Nat) (hn : n ≤ 2) : ∀ (R : RSt), R.D.length = R.K + 4 → (∀ x ∈ R.D, 0 ≤ x ∧ x ≤ 255) → lw n ≤ R.S → R.S < 4294967296 → vl R.D + R.S ≤ 256 ^ (R.K + 4) → RGood (rnorm n R) ∧ R.K ≤ (rnorm n R).K ∧ (rnorm n R).K ≤ R.K + n := by
  induction n with
  | zero => intro R h1 h2 h3 h4 h5; exact ⟨⟨h1, h2, h3, h4, h5⟩, Nat.le_refl _, Nat.le_refl _⟩
  | succ n ih =>
    intro R h1 h2 h3 h4 h5
    unfold rnorm
    by_cases hc : R.S < 16777216
    · rw [if_pos hc]
      have hlw2 : lw n ≤ R.S * 256 := by
        rcases (show n = 0 ∨ n = 1 by omega) with h | h
        · subst h; have : (65536 : Int) ≤ R.S := h3; show (16777216 : Int) ≤ _; omega
        · subst h; have : (256 : Int) ≤ R.S := h3; show (65536 : Int) ≤ _; omega
      obtain ⟨r1, r2, r3⟩ := ih (by omega) (rstep R) (by simp [rstep, h1]) (fun x hx => by
        rcases List.mem_append.1 hx with hx | hx
        · exact h2 x hx
        · simp at hx; omega) hlw2 (by show R.S * 256 < 4294967296; omega) (by
        show vl (R.D ++ [0]) + R.S * 256 ≤ 256 ^ (R.K + 1 + 4)
        rw [vl_snoc, show R.K + 1 + 4 = R.K + 4 + 1 from by omega, Int.pow_succ]
        omega)
      have hk : (rstep R).K = R.K + 1 := rfl
      exact ⟨r1, by omega, by omega⟩
    · rw [if_neg hc]
      exact ⟨⟨h1, h2, by omega, h4, h5⟩, Nat.le_refl _, by omega⟩
theorem adds_of {D : List Int} (h : ∀ x ∈ D, 0 ≤ x ∧ x ≤ 255) (K n : Nat) : Adds D K n :=
  ⟨fun x hx => (h x hx).1, fun j hj _ => (h _ (List.getElem_mem hj)).2, fun x hx => by have := (h x hx).2; omega⟩
theorem mid_of {R : RSt} (g : RGood R) (a : Int) : Mid (addF 4 R.D R.K a) R.K (R.K + 3) := by
  have h := addF_ok 4 (by omega) R.D R.K a g.len (adds_of g.dig _ _)
  exact h.mid (by rw [addF_len]; exact g.len)
theorem rput_good {R : RSt} (g : RGood R) {lo ow al : Int} (may : May lo ow al) : RGood (rputS R lo ow al) ∧ R.K ≤ (rputS R lo ow al).K ∧ (rputS R lo ow al).K ≤ R.K + 2 := by
  obtain ⟨p0, p1, p2, p3⟩ := may
  obtain ⟨each, hE⟩ : ∃ each, each = R.S / al := ⟨_, rfl⟩
  have s0 := g.s0
  have s1 := g.s1
  have b3 := each_lo al R.S (by omega) p3 s0
  have b1 := mul_bd each lo al R.S hE (by omega) p0 (by omega) (by omega)
  have b2 := mul_bd each ow al R.S hE (by omega) (by omega) (by omega) (by omega)
  have b6 := mul_bd each (lo + ow) al R.S hE (by omega) (by omega) (by omega) (by omega)
  rw [Int.mul_add] at b6
  have b4 : each * 1 ≤ each * ow := Int.mul_le_mul_of_nonneg_left p1 (by omega)
  rw [Int.mul_one] at b4
  have hv : vl (addF 4 R.D R.K (each * lo)) = vl R.D + each * lo := by
    have := addF_vl 4 (by omega) R.D R.K (each * lo) g.len b1.1 (by show each * lo < 4294967296; omega)
    simpa using this
  have hl : (addF 4 R.D R.K (each * lo)).length = R.K + 4 := by rw [addF_len]; exact g.len
  have hgv := g.val
  have hlt : vl (addF 4 R.D R.K (each * lo)) < 256 ^ (addF 4 R.D R.K (each * lo)).length := by
    rw [hv, hl]; omega
  have hok := carF_ok (R.K + 3) _ R.K (mid_of g (each * lo)) (by omega) hlt
  have hcv := carF_vl (R.K + 3) (addF 4 R.D R.K (each * lo)) R.K (by omega)
  unfold rputS
  rw [← hE] at b3 ⊢
  exact rnorm_good 2 (by omega) ⟨carF (R.K + 3) (addF 4 R.D R.K (each * lo)) R.K, each * ow, R.K⟩ (by simp only; rw [carF_len]; exact hl) hok (by show (256 : Int) ≤ each * ow; omega) (by simp only; omega) (by simp only; rw [hcv, hv]; omega)
/-- The document's encoder: block m, its digits in block g. -/
structure RIs (w : World) (m : Nat) (R : RSt) (g cap : Nat) : Prop where
  blk : Blk w m 56 #[.slice (some ⟨g, 0, none⟩) R.D.length cap, .int .i64 R.S, .int .i64 R.K]
  row : RowI w 3 .i64 g cap R.D
  ne : m ≠ g
structure RStep (m g g' : Nat) (w w' : World) : Prop where
  only : Only (fun k => k = m ∨ k = g) w w'
  own : g' = g ∨ w.heap.size ≤ g'
theorem RStep.refl (m g : Nat) (w : World) : RStep m g g w w := ⟨Only.refl _ _, .inl rfl⟩
theorem RStep.trans {m g g' g'' : Nat} {w w' w'' : World} (a : RStep m g g' w w') (b : RStep m g' g'' w' w'') : RStep m g g'' w w'' := by
  refine ⟨a.only.then b.only fun i hi => ?_, ?_⟩
  · rcases hi with hi | hi
    · exact .inl (.inl hi)
    · rcases a.own with h | h
      · exact .inl (.inr (hi.trans h))
      · exact .inr (by omega)
  · rcases b.own with h | h
    · rw [h]; exact a.own
    · exact .inr (Nat.le_trans a.only.size h)
theorem RStep.drew {m g g' : Nat} {w w' : World} (a : RStep m g g' w w') : RStep m g g' w w'.drew := ⟨a.only.drew, a.own⟩
theorem RStep.setm {m g g' : Nat} {w w' : World} (a : RStep m g g' w w') (i : Nat) (u : Value) : RStep m g g' w (w'.setCell ⟨m, i, none⟩ u) := ⟨a.only.set (p := ⟨m, i, none⟩) (.inl (.inl rfl)) u, a.own⟩
theorem RStep.setg {m g g' : Nat} {w w' : World} (a : RStep m g g' w w') (i : Nat) (u : Value) : RStep m g g' w (w'.setCell ⟨g', i, none⟩ u) :=
  ⟨a.only.set (p := ⟨g', i, none⟩) (a.own.imp (fun h => .inr h) id) u, a.own⟩
theorem RIs.only {S : Nat → Prop} {w w' : World} {m g cap : Nat} {R : RSt} (a : RIs w m R g cap) (o : Only S w w') (h1 : ¬ S m) (h2 : ¬ S g) : RIs w' m R g cap :=
  ⟨a.blk.of_same (o.block m a.blk.lt h1), a.row.of_same (o.block g a.row.lt h2), a.ne⟩
def rfresh : RSt := ⟨[0, 0, 0, 0], 4294967295, 0⟩
theorem rfresh_good : RGood rfresh := ⟨rfl, by decide, by decide, by decide, by decide⟩
theorem RNew_calls (w : World) : Calls Try.prog 26 #[] w fun e w' => e = .returned (.pointer (some ⟨w.heap.size + 1, 0, none⟩)) ∧ RIs w' (w.heap.size + 1) rfresh w.heap.size 4 ∧ Below w.heap.size w w' := by
  go_enter Try.func26, Try.ntmps26
  go_wp2
  go_ret
  refine ⟨rfl, ⟨Blk.new_at _ _ (by simp), ⟨_, (Blk.new w _ _).alloc _, by decide, by decide, rfl, fun i h => ?_⟩, by omega⟩, (((Below.refl _ _).alloc (Nat.le_refl _) _).alloc (by simp) _ : Below _ _ _)⟩
  have : i < 4 := h
  match i, this with
  | 0, _ => rfl
  | 1, _ => rfl
  | 2, _ => rfl
  | 3, _ => rfl
theorem power_calls (k : Nat) (hk : k ≤ 60) (w : World) : Calls Try.prog 65 #[.int .i64 k] w fun e w' => e = .returned (.int .i64 (2 ^ k)) ∧ w' = w := by
  go_enter Try.func65, Try.ntmps65
  go_wp2
  go_loop [3, 4] (fun v i => ∃ j : Nat, j ≤ k ∧ i = .int .i64 (j : Int) ∧ v = .int .i64 (2 ^ j)) (fun _ i => k - (intOf i).toNat)
  case atStart => exact ⟨0, by omega, rfl, rfl⟩
  case round =>
    obtain ⟨j, hj, rfl, rfl⟩ := hrel
    by_cases hlt : j < k
    · have h4 := Nat.pow_le_pow_right (show 0 < 2 by decide) (show j ≤ 60 by omega)
      have h5 : (2 : Int) ^ j ≤ 2 ^ 60 := by exact_mod_cast h4
      have e60 : (2 : Int) ^ 60 = 1152921504606846976 := by decide
      have h6 : (0 : Int) < 2 ^ j := Int.pow_pos (by omega)
      have HP := Lib.hid (Int.pow_succ (2 : Int) j)
      rw [e60] at h5
      clear h4 e60
      generalize (2 : Int) ^ j = p at *
      go_wp2
      go_round
      case rel => exact ⟨j + 1, by omega, by push_cast; rfl, by rw [HP.out]⟩
      case measure => simp [intOf]; omega
    · obtain rfl : j = k := by omega
      go_wp2
      go_ret
      exact ⟨rfl, rfl⟩
end Go.Proofs.Ytlbjoflmfboeeaa.Enc
