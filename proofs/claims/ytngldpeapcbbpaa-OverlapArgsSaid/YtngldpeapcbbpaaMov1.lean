/- Texts of this session, merged. -/
import Derived.Tactics
import Derived.Tactics2
import Derived.WalkKit
import Derived.WalkSpells
import Derived.WalkLawsBesides
import Derived.Below
import Derived.Deep.LoopGhost
import Derived.Deep.QuietTactic
import Derived.BigQuiet
import Derived.StillTailTactics
import Derived.Deep.DeepCutAuto
import Derived.Deep.CutBlock
import Derived.Deep.RegionHeld3
import Derived.RegionTactic
import Derived.BigRegion
import Derived.Outline
import Derived.Lib.Hide
import Derived.Deep.Draws
import Derived.Laws.Rows
import Derived.Laws.OwnMore
import Derived.Laws.MakeOwn
import Derived.KernelRfl
import Derived.Test.YtngldpeapcbbpaaWMore
import Derived.Test.YtngldpeapcbbpaaWInvWords
import Derived.StillTail
import Derived.Test.YtngldpeapcbbpaaPRootx1
import Derived.Test.YtngldpeapcbbpaaChecked
import Derived.Deep.AppendLies
import Derived.Maps.AppendAt
import Derived.Laws.BytesArg
import Derived.OrdersHeld
import Derived.Test.YtngldpeapcbbpaaPQuarterx1
import Derived.Test.YtngldpeapcbbpaaWWords
/-
  Words for memory, for all walks of this seat: a block known whole, what only some blocks turn, and lists of objects that share no block. Plain theorems; no condition.
-/
set_option linter.unusedVariables false
namespace Go.Proofs.Ytngldpeapcbbpaa
open Go.RowKit

/-- Block g is just these cells, none of them frozen. -/
def Blk (w : World) (g : Nat) (t : TypeId) (cs : Array Value) : Prop := w.heap[g]? = some (.cells cs t (0, 0))
section
variable {w w' : World} {g k i : Nat} {t : TypeId} {cs : Array Value} {v : Value}
theorem Blk.lt (h : Blk w g t cs) : g < w.heap.size := by
  rcases Nat.lt_or_ge g w.heap.size with hlt | hge
  · exact hlt
  · unfold Blk at h; rw [Array.getElem?_eq_none hge] at h; cases h
theorem Blk.cell (h : Blk w g t cs) (hi : cs[i]? = some v) : w.cell? ⟨g, i, none⟩ = some v := by
  unfold Blk at h; simp [World.cell?, h, hi]
theorem Blk.free (h : Blk w g t cs) (i : Nat) : w.frozen? ⟨g, i, none⟩ = false := by
  unfold Blk at h; simp [World.frozen?, h]
theorem Blk.of_same (h : Blk w g t cs) (e : w'.heap[g]? = w.heap[g]?) : Blk w' g t cs := by unfold Blk at *; rw [e, h]
theorem Blk.drew (h : Blk w g t cs) : Blk w.drew g t cs := h
theorem Blk.drewN (h : Blk w g t cs) (n : Nat) : Blk (w.drewN n) g t cs := h
theorem Blk.alloc (h : Blk w g t cs) (o : Obj) : Blk (w.alloc o) g t cs := h.of_same (Below.heap_alloc w o g h.lt)
theorem Blk.new (w : World) (t : TypeId) (cs : Array Value) : Blk (w.alloc (.cells cs t)) w.heap.size t cs := by
  show (w.heap.push _)[w.heap.size]? = _
  rw [Array.getElem?_push, if_pos rfl]
theorem Blk.new_at {w : World} {g : Nat} (t : TypeId) (cs : Array Value) (hg : g = w.heap.size) : Blk (w.alloc (.cells cs t)) g t cs := by subst hg; exact Blk.new w t cs
theorem Blk.row (h : Blk w g t cs) (cs' : Array Value) : Blk (w.setRow g cs') g t cs' := setRow_heap w g cs cs' t (0, 0) h
theorem Blk.row_other (h : Blk w g t cs) {k : Nat} (hne : g ≠ k) (cs' : Array Value) : Blk (w.setRow k cs') g t cs := h.of_same (setRow_other w k g cs' hne)
theorem Blk.other (h : Blk w g t cs) {a : Addr} (hne : g ≠ a.block) (u : Value) : Blk (w.setCell a u) g t cs := h.of_same (Below.heap_setCell w a u g hne)
theorem Blk.set (h : Blk w g t cs) (i : Nat) (u : Value) : Blk (w.setCell ⟨g, i, none⟩ u) g t (cs.setIfInBounds i u) := by
  unfold Blk at *
  simp [World.setCell, Array.getElem?_modify, h]
theorem Blk.below {B : Nat} (h : Blk w g t cs) (hb : Below B w w') (hg : g < B) : Blk w' g t cs := h.of_same (hb.block g hg)
theorem Blk.inj {t' : TypeId} {cs' : Array Value} (h : Blk w g t cs) (h' : Blk w g t' cs') : t = t' ∧ cs = cs' := by
  unfold Blk at *; rw [h] at h'; simp at h'; exact ⟨h'.2, h'.1⟩
end

/-- Block g begins with these numbers, and has cap cells. -/
def RowI (w : World) (e : TypeId) (k : IntKind) (g cap : Nat) (xs : List Int) : Prop :=
  ∃ cs, Blk w g e cs ∧ xs.length ≤ cap ∧ cap ≤ maxLen ∧ cs.size = cap ∧ ∀ i (h : i < xs.length), cs[i]? = some (.int k xs[i])
section
variable {w w' : World} {e : TypeId} {k : IntKind} {g cap : Nat} {xs : List Int}
theorem RowI.lt (h : RowI w e k g cap xs) : g < w.heap.size := by obtain ⟨cs, hb, _⟩ := h; exact hb.lt
theorem RowI.free (h : RowI w e k g cap xs) (i : Nat) : w.frozen? ⟨g, i, none⟩ = false := by obtain ⟨cs, hb, _⟩ := h; exact hb.free i
theorem RowI.cell (h : RowI w e k g cap xs) {i : Nat} (hi : i < xs.length) : w.cell? ⟨g, i, none⟩ = some (.int k xs[i]) := by obtain ⟨cs, hb, _, _, _, hc⟩ := h; exact hb.cell (hc i hi)
theorem RowI.len (h : RowI w e k g cap xs) : xs.length ≤ cap ∧ cap ≤ maxLen := by obtain ⟨cs, _, h1, h2, _⟩ := h; exact ⟨h1, h2⟩
theorem RowI.of_same (h : RowI w e k g cap xs) (hs : w'.heap[g]? = w.heap[g]?) : RowI w' e k g cap xs := by obtain ⟨cs, hb, h1⟩ := h; exact ⟨cs, hb.of_same hs, h1⟩
theorem RowI.drewN (h : RowI w e k g cap xs) (n : Nat) : RowI (w.drewN n) e k g cap xs := h
theorem RowI.drew (h : RowI w e k g cap xs) : RowI w.drew e k g cap xs := h
theorem RowI.alloc (h : RowI w e k g cap xs) (o : Obj) : RowI (w.alloc o) e k g cap xs := h.of_same (Below.heap_alloc w o g h.lt)
theorem RowI.other (h : RowI w e k g cap xs) {a : Addr} (hne : g ≠ a.block) (u : Value) : RowI (w.setCell a u) e k g cap xs := h.of_same (Below.heap_setCell w a u g hne)
theorem RowI.below {B : Nat} (h : RowI w e k g cap xs) (hb : Below B w w') (hg : g < B) : RowI w' e k g cap xs := h.of_same (hb.block g hg)
theorem RowI.set (h : RowI w e k g cap xs) (i : Nat) (v : Int) : RowI (w.setCell ⟨g, i, none⟩ (.int k v)) e k g cap (xs.set i v) := by
  obtain ⟨cs, hb, h1, h2, h3, hc⟩ := h
  refine ⟨_, hb.set i _, by simpa using h1, h2, by simpa using h3, fun j hj => ?_⟩
  rw [List.length_set] at hj
  rw [List.getElem_set, Array.getElem?_setIfInBounds]
  by_cases hij : i = j
  · subst hij
    rw [if_pos rfl, if_pos rfl, if_pos (by omega)]
  · rw [if_neg hij, if_neg hij]; exact hc j hj
theorem RowI.new (w : World) (e : TypeId) (k : IntKind) (n : Nat) (v : Int) (hn : n ≤ maxLen) : RowI (w.alloc (.cells (madeCells #[.int k v] n) e)) e k w.heap.size n (List.replicate n v) := by
  refine ⟨_, Blk.new _ _ _, by simp, hn, by simp [madeCells], fun i hi => ?_⟩
  simp at hi
  simp [madeCells, hi, Nat.mod_one]
end

/-- Of what was there, only blocks of S may have turned. -/
structure Only (S : Nat → Prop) (w w' : World) : Prop where
  os : w'.os = w.os
  tape : w'.tape = w.tape
  output : w'.output = w.output
  size : w.heap.size ≤ w'.heap.size
  block : ∀ k, k < w.heap.size → ¬ S k → w'.heap[k]? = w.heap[k]?
section
variable {S S' : Nat → Prop} {a b c w w' : World}
theorem Only.refl (S : Nat → Prop) (w : World) : Only S w w := ⟨rfl, rfl, rfl, Nat.le_refl _, fun _ _ _ => rfl⟩
theorem Only.trans (h : Only S a b) (k : Only S b c) : Only S a c :=
  ⟨k.os.trans h.os, k.tape.trans h.tape, k.output.trans h.output, Nat.le_trans h.size k.size, fun i hi hs => (k.block i (Nat.lt_of_lt_of_le hi h.size) hs).trans (h.block i hi hs)⟩
/-- Behind a step that may turn what lies from the first world's end on, too. -/
theorem Only.then (h : Only S a b) (k : Only S' b c) (hs : ∀ i, S' i → S i ∨ a.heap.size ≤ i) : Only S a c :=
  ⟨k.os.trans h.os, k.tape.trans h.tape, k.output.trans h.output, Nat.le_trans h.size k.size, fun i hi hn => (k.block i (Nat.lt_of_lt_of_le hi h.size) (fun e => by rcases hs i e with h1 | h1; exact hn h1; omega)).trans (h.block i hi hn)⟩
theorem Only.mono (h : Only S a b) (hs : ∀ i, S i → S' i) : Only S' a b := ⟨h.os, h.tape, h.output, h.size, fun i hi hn => h.block i hi (fun e => hn (hs i e))⟩
theorem Only.drew (h : Only S a w) : Only S a w.drew := ⟨h.os, h.tape, h.output, h.size, h.block⟩
theorem Only.drewN (h : Only S a w) (n : Nat) : Only S a (w.drewN n) := ⟨h.os, h.tape, h.output, h.size, h.block⟩
theorem Only.alloc (h : Only S a w) (o : Obj) : Only S a (w.alloc o) :=
  ⟨h.os, h.tape, h.output, Nat.le_trans h.size (by simp), fun i hi hn => (Below.heap_alloc w o i (Nat.lt_of_lt_of_le hi h.size)).trans (h.block i hi hn)⟩
theorem Only.set (h : Only S a w) {p : Addr} (hp : S p.block ∨ a.heap.size ≤ p.block) (u : Value) : Only S a (w.setCell p u) :=
  ⟨h.os, h.tape, h.output, by simpa [World.setCell] using h.size, fun i hi hn => (Below.heap_setCell w p u i (by
    rintro rfl
    rcases hp with hp | hp
    · exact hn hp
    · omega)).trans (h.block i hi hn)⟩
theorem Only.row (h : Only S a w) {g : Nat} (hp : S g ∨ a.heap.size ≤ g) (cs : Array Value) : Only S a (w.setRow g cs) :=
  ⟨h.os, h.tape, h.output, by simpa using h.size, fun i hi hn => (setRow_other w g i cs (by
    rintro rfl
    rcases hp with hp | hp
    · exact hn hp
    · omega)).trans (h.block i hi hn)⟩
theorem Only.of_below (h : Below a.heap.size a b) : Only S a b := ⟨h.os, h.tape, h.output, h.size, fun i hi _ => h.block i hi⟩
theorem Only.below {B : Nat} (h : Only S a b) (hB : B ≤ a.heap.size) (hs : ∀ i, S i → B ≤ i) : Below B a b :=
  ⟨h.os, h.tape, h.output, h.size, fun i hi => h.block i (by omega) (fun e => by have := hs i e; omega)⟩
theorem Only.grown (h : Only S a w) {row : Option Nat} (hg : w.grownBy w' row) (hr : ∀ g, row = some g → S g ∨ a.heap.size ≤ g) : Only S a w' :=
  ⟨hg.os.trans h.os, hg.tape.trans h.tape, hg.output.trans h.output, Nat.le_trans h.size hg.size, fun i hi hn => (hg.block i (Nat.lt_of_lt_of_le hi h.size) (fun e => by
    rcases hr i e.symm with h1 | h1
    · exact hn h1
    · omega)).trans (h.block i hi hn)⟩
end

theorem below_row {B : Nat} {a w : World} (h : Below B a w) {g : Nat} (hp : B ≤ g) (cs : Array Value) : Below B a (w.setRow g cs) :=
  h.trans ⟨rfl, rfl, rfl, by simp, fun k hk => setRow_other w g k cs (by omega)⟩
/-- What is told of a world, on some blocks alone. -/
structure Ast where
  holds : World → (Nat → Prop) → Prop
  lt : ∀ {w F k}, holds w F → F k → k < w.heap.size
  move : ∀ {w w' F}, holds w F → (∀ k, F k → w'.heap[k]? = w.heap[k]?) → holds w' F
/-- Objects, each on blocks of its own from B on, none of U. -/
def Sep (w : World) (B : Nat) : (Nat → Prop) → List Ast → Prop
  | _, [] => True
  | U, A :: l => ∃ F, A.holds w F ∧ (∀ k, F k → B ≤ k ∧ ¬ U k) ∧ Sep w B (fun k => U k ∨ F k) l
def Em : Nat → Prop := fun _ => False
theorem Sep.weak {w : World} {B : Nat} : ∀ {l : List Ast} {U U' : Nat → Prop}, (∀ k, U' k → U k) → Sep w B U l → Sep w B U' l
  | [], _, _, _, _ => trivial
  | A :: l, U, U', hu, ⟨F, h1, h2, h3⟩ => ⟨F, h1, fun k hk => ⟨(h2 k hk).1, fun e => (h2 k hk).2 (hu k e)⟩, Sep.weak (fun k hk => hk.imp (hu k) id) h3⟩
/-- What turns no block of theirs. -/
theorem Sep.only {w w' : World} {B : Nat} {S : Nat → Prop} (ho : Only S w w') : ∀ {l : List Ast} {U : Nat → Prop}, (∀ k, S k → U k) → Sep w B U l → Sep w' B U l
  | [], _, _, _ => trivial
  | A :: l, U, hs, ⟨F, h1, h2, h3⟩ => ⟨F, A.move h1 fun k hk => ho.block k (A.lt h1 hk) (fun e => (h2 k hk).2 (hs k e)), h2, Sep.only ho (fun k hk => .inl (hs k hk)) h3⟩
theorem Sep.swap {w : World} {B : Nat} {U : Nat → Prop} {A A' : Ast} {l : List Ast} (h : Sep w B U (A :: A' :: l)) : Sep w B U (A' :: A :: l) := by
  obtain ⟨F, h1, h2, F', h3, h4, h5⟩ := h
  exact ⟨F', h3, fun k hk => ⟨(h4 k hk).1, fun e => (h4 k hk).2 (.inl e)⟩, F, h1, fun k hk => ⟨(h2 k hk).1, fun e => e.elim (h2 k hk).2 fun e' => (h4 k e').2 (.inr hk)⟩, Sep.weak (fun k hk => by rcases hk with (hk | hk) | hk; exact .inl (.inl hk); exact .inr hk; exact .inl (.inr hk)) h5⟩
theorem Sep.tail {w : World} {B : Nat} {U : Nat → Prop} {A : Ast} {l : List Ast} (h : Sep w B U (A :: l)) : Sep w B U l := by
  obtain ⟨F, _, _, h3⟩ := h
  exact Sep.weak (fun k hk => .inl hk) h3
theorem Sep.cons {w : World} {B : Nat} {U : Nat → Prop} {A : Ast} : ∀ {l l' : List Ast}, (∀ U, Sep w B U l → Sep w B U l') → Sep w B U (A :: l) → Sep w B U (A :: l') :=
  fun hl ⟨F, h1, h2, h3⟩ => ⟨F, h1, h2, hl _ h3⟩
/-- The third, the fourth .. one to the front, and back. -/
theorem Sep.up2 {w : World} {B : Nat} {U : Nat → Prop} {A1 A2 A3 : Ast} {l : List Ast} (h : Sep w B U (A1 :: A2 :: A3 :: l)) : Sep w B U (A3 :: A1 :: A2 :: l) := (Sep.cons (fun _ => Sep.swap) h).swap
theorem Sep.up3 {w : World} {B : Nat} {U : Nat → Prop} {A1 A2 A3 A4 : Ast} {l : List Ast} (h : Sep w B U (A1 :: A2 :: A3 :: A4 :: l)) : Sep w B U (A4 :: A1 :: A2 :: A3 :: l) := (Sep.cons (fun _ => Sep.up2) h).swap
theorem Sep.up4 {w : World} {B : Nat} {U : Nat → Prop} {A1 A2 A3 A4 A5 : Ast} {l : List Ast} (h : Sep w B U (A1 :: A2 :: A3 :: A4 :: A5 :: l)) : Sep w B U (A5 :: A1 :: A2 :: A3 :: A4 :: l) := (Sep.cons (fun _ => Sep.up3) h).swap
theorem Sep.up5 {w : World} {B : Nat} {U : Nat → Prop} {A1 A2 A3 A4 A5 A6 : Ast} {l : List Ast} (h : Sep w B U (A1 :: A2 :: A3 :: A4 :: A5 :: A6 :: l)) : Sep w B U (A6 :: A1 :: A2 :: A3 :: A4 :: A5 :: l) := (Sep.cons (fun _ => Sep.up4) h).swap
theorem Sep.down2 {w : World} {B : Nat} {U : Nat → Prop} {A1 A2 A3 : Ast} {l : List Ast} (h : Sep w B U (A3 :: A1 :: A2 :: l)) : Sep w B U (A1 :: A2 :: A3 :: l) := Sep.cons (fun _ => Sep.swap) h.swap
theorem Sep.down3 {w : World} {B : Nat} {U : Nat → Prop} {A1 A2 A3 A4 : Ast} {l : List Ast} (h : Sep w B U (A4 :: A1 :: A2 :: A3 :: l)) : Sep w B U (A1 :: A2 :: A3 :: A4 :: l) := Sep.cons (fun _ => Sep.down2) h.swap
theorem Sep.down4 {w : World} {B : Nat} {U : Nat → Prop} {A1 A2 A3 A4 A5 : Ast} {l : List Ast} (h : Sep w B U (A5 :: A1 :: A2 :: A3 :: A4 :: l)) : Sep w B U (A1 :: A2 :: A3 :: A4 :: A5 :: l) := Sep.cons (fun _ => Sep.down3) h.swap
theorem Sep.down5 {w : World} {B : Nat} {U : Nat → Prop} {A1 A2 A3 A4 A5 A6 : Ast} {l : List Ast} (h : Sep w B U (A6 :: A1 :: A2 :: A3 :: A4 :: A5 :: l)) : Sep w B U (A1 :: A2 :: A3 :: A4 :: A5 :: A6 :: l) := Sep.cons (fun _ => Sep.down4) h.swap
/-- An object is turned, or replaced, and blocks are made. -/
theorem Sep.turn {w w' : World} {B : Nat} {U F F' : Nat → Prop} {A' : Ast} {l : List Ast} (hF : ∀ k, F k → B ≤ k ∧ ¬ U k) (hl : Sep w B (fun k => U k ∨ F k) l) (hU : ∀ k, U k → k < w.heap.size) (hB : B ≤ w.heap.size)
    (ho : Only F w w') (h' : A'.holds w' F') (hsub : ∀ k, F' k → F k ∨ w.heap.size ≤ k) : Sep w' B U (A' :: l) := by
  refine ⟨F', h', fun k hk => ?_, ?_⟩
  · rcases hsub k hk with h | h
    · exact hF k h
    · exact ⟨by omega, fun e => by have := hU k e; omega⟩
  · have h1 := Sep.only ho (fun k hk => .inr hk) hl
    have go : ∀ {l : List Ast} {V : Nat → Prop}, (∀ k, F k → V k) → Sep w B V l → Sep w' B V l → Sep w' B (fun k => V k ∨ F' k) l := by
      intro l
      induction l with
      | nil => intro V hV _ _; trivial
      | cons A l ih =>
        intro V hV ⟨G, g1, g2, g3⟩ _
        have g1' := A.move g1 fun k hk => ho.block k (A.lt g1 hk) (fun e => (g2 k hk).2 (hV k e))
        refine ⟨G, g1', fun k hk => ⟨(g2 k hk).1, fun e => ?_⟩, ?_⟩
        · rcases e with e | e
          · exact (g2 k hk).2 e
          · rcases hsub k e with h | h
            · exact (g2 k hk).2 (hV k h)
            · have := A.lt g1 hk; omega
        · have := ih (V := fun k => V k ∨ G k) (fun k hk => .inl (hV k hk)) g3 (Sep.only ho (fun k hk => .inl (hV k hk)) g3)
          exact Sep.weak (fun k hk => by rcases hk with (hk | hk) | hk; exact .inl (.inl hk); exact .inr hk; exact .inl (.inr hk)) this
    exact Sep.weak (fun k hk => hk.imp (fun e => .inl e) id) (go (V := fun k => U k ∨ F k) (fun k hk => .inr hk) hl h1)
/-- A new object. -/
theorem Sep.new {w w' : World} {B : Nat} {F' : Nat → Prop} {A' : Ast} {l : List Ast} (hl : Sep w B Em l) (hB : B ≤ w.heap.size)
    (ho : Below w.heap.size w w') (h' : A'.holds w' F') (hnew : ∀ k, F' k → w.heap.size ≤ k) : Sep w' B Em (A' :: l) :=
  Sep.turn (F := Em) (fun _ h => h.elim) (Sep.weak (fun k hk => hk.elim id id) hl) (fun _ h => h.elim) hB (Only.of_below ho) h' (fun k hk => .inr (hnew k hk))
theorem Sep.below {w w' : World} {B : Nat} {l : List Ast} (hl : Sep w B Em l) (ho : Below w.heap.size w w') : Sep w' B Em l := Sep.only (Only.of_below ho) (fun _ h => h) hl
end Go.Proofs.Ytngldpeapcbbpaa

/-
  A row of whole numbers as the printed walks tell it, and as these walks do. Plain theorems; no condition.
-/
set_option linter.unusedVariables false
namespace Go.Proofs.Ytngldpeapcbbpaa
open Go.RowKit Go.Proofs.YtngldpeapcbbpaaW.PrintWords

theorem rowI_of_R {k : IntKind} {e : Nat} {w : World} {base : Nat} {ok : Nat → Prop} {v : Value} {xs : List Int} (h : Kd.R (Kd.int k) e w base ok v xs) (hp : 0 < xs.length) :
    ∃ g cap, v = .slice (some ⟨g, 0, none⟩) xs.length cap ∧ base ≤ g ∧ RowI w e k g cap xs := by
  have ho := Kd.own_of_R (enc := Value.int k) h
  obtain ⟨hl, hc⟩ := ho
  rcases hc with ⟨_, h0⟩ | ⟨g, cap, cur, rfl, hg, hh, h1, h2, h3, h4⟩
  · omega
  · refine ⟨g, cap, rfl, hg, cur, hh, h1, h2, by omega, fun i hi => ?_⟩
    have e1 : (cur.toList.take (xs.length * 1))[i]? = some (.int k xs[i]) := by rw [h4]; simp [encs, hi]
    rw [List.getElem?_take, if_pos (by omega)] at e1
    simpa using e1
theorem R_of_rowI {k : IntKind} {e : Nat} {w : World} {base g cap : Nat} {xs : List Int} (h : RowI w e k g cap xs) (hb : base ≤ g) : Kd.R (Kd.int k) e w base (fun _ => True) (.slice (some ⟨g, 0, none⟩) xs.length cap) xs := by
  obtain ⟨cs, hh, h1, h2, h3, hc⟩ := h
  refine Kd.R_of_own (enc := Value.int k) (h1 := fun _ => rfl) ⟨by simp [encs], .inr ⟨g, cap, cs, rfl, hb, hh, h1, h2, by omega, ?_⟩⟩ (fun _ _ => trivial)
  apply List.ext_getElem?
  intro i
  rw [List.getElem?_take]
  by_cases hi : i < xs.length
  · rw [if_pos (by omega)]
    have := hc i hi
    rw [Array.getElem?_toList, this]
    simp [encs, hi]
  · rw [if_neg (by omega), List.getElem?_eq_none (by rw [encs_length]; omega)]
/-- A cell of a row that came in. -/
theorem cell_C {k : IntKind} {w : World} {A : Option Addr} {n : Nat} {xs : List Int} (h : (Kd.int k).C w A n xs) {i : Nat} (hi : i < xs.length) : ∃ ad, A = some ad ∧ w.cell? (ad.add i) = some (.int k xs[i]) := by
  have hl : xs.length = n := h.1
  obtain ⟨ad, e, hc⟩ := Kd.at_int h (i : Int) (by omega) (by omega)
  refine ⟨ad, e, ?_⟩
  rw [Int.toNat_natCast] at hc
  rw [hc]
  unfold rd
  rw [Int.toNat_natCast, List.getD_eq_getElem?_getD, List.getElem?_eq_getElem hi]; rfl
theorem C_of_rowI {k : IntKind} {e : Nat} {w : World} {g cap : Nat} {xs : List Int} (h : RowI w e k g cap xs) : (Kd.int k).C w (some ⟨g, 0, none⟩) xs.length xs := (Kd.R_reads' (R_of_rowI h (Nat.zero_le g))).2.2
end Go.Proofs.Ytngldpeapcbbpaa

/-
  Words: rows filled place by place, arrays of whole numbers, numbers that keep their size. Plain theorems; no condition.
-/
set_option linter.unusedVariables false
namespace Go.Proofs.Ytngldpeapcbbpaa
open Go.RowKit Go.Proofs.YtngldpeapcbbpaaW.PrintWords

theorem wrapI64 {x : Int} (h0 : -9223372036854775808 ≤ x) (h1 : x < 9223372036854775808) : IntKind.i64.wrap x = x := by
  unfold IntKind.wrap
  simp only [IntKind.bits, IntKind.signed]
  simp
  split <;> omega
/-- The first j of n places filled. -/
def fillTo (f : Nat → Int) (n j : Nat) : List Int := (List.range n).map (fun i => if i < j then f i else 0)
theorem fillTo_len (f : Nat → Int) (n j : Nat) : (fillTo f n j).length = n := by simp [fillTo]
theorem fillTo_zero (f : Nat → Int) (n : Nat) : fillTo f n 0 = List.replicate n 0 := by
  apply List.ext_getElem <;> simp [fillTo]
theorem fillTo_set (f : Nat → Int) (n j : Nat) : (fillTo f n j).set j (f j) = fillTo f n (j + 1) := by
  apply List.ext_getElem
  · simp [fillTo]
  · intro i h1 h2
    rw [List.getElem_set]
    simp [fillTo] at h1 h2 ⊢
    by_cases hij : j = i
    · subst hij; simp
    · rw [if_neg hij]
      by_cases h3 : i < j
      · rw [if_pos h3, if_pos (by omega)]
      · rw [if_neg h3, if_neg (by omega)]
theorem fillTo_skip (f : Nat → Int) (n j : Nat) (h : f j = 0) : fillTo f n j = fillTo f n (j + 1) := by
  rw [← fillTo_set, h]
  apply List.ext_getElem
  · simp [fillTo]
  · intro i h1 h2
    rw [List.getElem_set]
    by_cases hij : j = i
    · subst hij; simp [fillTo]
    · rw [if_neg hij]
theorem fillTo_at (f : Nat → Int) (n j : Nat) (h : j < (fillTo f n j).length) : (fillTo f n j)[j] = 0 := by simp [fillTo]
theorem fillTo_all (f : Nat → Int) (n : Nat) : fillTo f n n = (List.range n).map f := by
  apply List.ext_getElem
  · simp [fillTo]
  · intro i h1 h2
    simp [fillTo] at h1 ⊢
    intro h; omega
theorem fillTo_all' (f : Nat → Int) (n i : Nat) (h : i < n) {h' : i < (fillTo f n n).length} : (fillTo f n n)[i] = f i := by simp [fillTo, h]
theorem RowI.new2 (w : World) (o : Obj) (e : TypeId) (k : IntKind) (n : Nat) (v : Int) (hn : n ≤ maxLen) : RowI ((w.alloc o).alloc (.cells (madeCells #[.int k v] n) e)) e k (w.heap.size + 1) n (List.replicate n v) := by
  have := RowI.new (w.alloc o) e k n v hn
  have hs : (w.alloc o).heap.size = w.heap.size + 1 := by simp
  rwa [hs] at this
/-- An array's cells. -/
def vals (k : IntKind) (xs : List Int) : Array Value := (xs.map (Value.int k)).toArray
theorem vals_get {k : IntKind} {xs : List Int} {i : Nat} (h : i < xs.length) : (vals k xs)[i]? = some (.int k xs[i]) := by simp [vals, h]
theorem vals_set (k : IntKind) (xs : List Int) (i : Nat) (v : Int) : (vals k xs).setIfInBounds i (.int k v) = vals k (xs.set i v) := by
  simp [vals, List.setIfInBounds_toArray, List.map_set]
theorem vals_size (k : IntKind) (xs : List Int) : (vals k xs).size = xs.length := by simp [vals]
theorem Blk.seti {w : World} {g : Nat} {t : TypeId} {k : IntKind} {xs : List Int} (h : Blk w g t (vals k xs)) (i : Nat) (v : Int) : Blk (w.setCell ⟨g, i, none⟩ (.int k v)) g t (vals k (xs.set i v)) := by
  have := h.set i (.int k v)
  rwa [vals_set] at this
theorem add_block (a : Addr) (n : Nat) : (a.add n).block = a.block := by unfold Addr.add; split <;> rfl
theorem C_of_cells {k : IntKind} {w : World} {g : Nat} {xs : List Int} (hl : xs.length ≤ maxLen) (h : ∀ i (hi : i < xs.length), w.cell? ⟨g, i, none⟩ = some (.int k xs[i])) : (Kd.int k).C w (some ⟨g, 0, none⟩) xs.length xs := by
  refine Kd.C_of_reads (d := (0 : Int)) (h1 := fun _ => rfl) ⟨rfl, hl, fun _ => ⟨⟨g, 0, none⟩, rfl, fun j hj => ?_⟩⟩
  have := h j hj
  rw [show (Addr.add ⟨g, 0, none⟩ j) = ⟨g, j, none⟩ from by unfold Addr.add; split <;> simp_all, this]
  simp [hj]
theorem drawn_below {w w' : World} (h : Drawn0 w w') : Below w.heap.size w w' := by
  obtain ⟨⟨n, rfl⟩⟩ := h
  exact pw_below_drewN (Below.refl _ _) n
end Go.Proofs.Ytngldpeapcbbpaa

/-
  A region that draws its order, whose first operations read (or call what reads and draws), and whose last ones stand in one forced order: one walk in the text's order serves every order. A plain theorem over the library's; no condition.
-/
set_option linter.unusedVariables false
namespace Go.Proofs.Ytngldpeapcbbpaa
open Go

section
variable {P : Program} {ops : Array Oper} {md : Region.Mode} {C : World → Prop}
/-- Whatever order is picked, the first n operations come up, quietly, ahead of all others; then L. -/
def QHead (P : Program) (md : Region.Mode) (ops : Array Oper) (C : World → Prop) (n : Nat) (L : Array Bool → Act → Prop) : Nat → Array Bool → Act → Prop
  | 0, ls, a => L ls a
  | f + 1, ls, a => Region.ready md ops ls ≠ [] ∧ ∀ i ∈ Region.ready md ops ls, i < n ∧ qOp P ops C i (QHead P md ops C n L f (ls.setIfInBounds i true)) a
theorem QHead.any {n g : Nat} {L : Array Bool → Act → Prop} {Q : Exit → Act → World → Prop} (hL : ∀ ls a w, C w → L ls a → wpAny P md ops Q g ls a w) :
    ∀ (f : Nat) (ls : Array Bool) (a : Act) (w : World), C w → QHead P md ops C n L f ls a → wpAny P md ops Q (f + g) ls a w := by
  intro f
  induction f with
  | zero => intro ls a w hw h; rw [Nat.zero_add]; exact hL _ _ _ hw h
  | succ f ih =>
    intro ls a w hw h
    rw [show f + 1 + g = (f + g) + 1 from by omega]
    exact ⟨fun e => absurd e h.1, fun i hi => wpOp_of_qOp hw (fun a' w' hw' h' => ih _ a' w' hw' h') (h.2 i hi).2⟩
/-- The one of them that comes first in the text may be taken first. -/
theorem QHead.first {n i : Nat} {oi : Oper} {v : Value} {L : Array Bool → Act → Prop} (hi : ops[i]? = some oi) (hsel : ∀ (j : Nat) (o : Oper) cs b, ops[j]? = some o → o.op ≠ .select cs b)
    (hs : Region.sinkB md ops n = true) (hc : Region.chainB md ops n = true) (hn : n < ops.size) (hin : i < n) (hL : ∀ ls a, L ls a → ∀ j ∈ Region.ready md ops ls, n ≤ j) :
    ∀ (f : Nat) (ls : Array Bool) (a : Act), HeadInv md ops n ls →
      (∀ j oj, ops[j]? = some oj → j ≠ i → ls.getD j true = false → (∀ e ∈ oj.after, Region.binds md e = true → e.on ≠ i) → oi.apart ops oj = true) →
      i ∈ Region.ready md ops ls → YieldsIn P ops C oi v a → QHead P md ops C n L f (ls.setIfInBounds i true) (a.put oi.dst v) → QHead P md ops C n L (f + 1) ls a := by
  intro f
  induction f with
  | zero =>
    intro ls a inv _ hr hy H
    have hun := (mem_ready.1 hr).1
    refine ⟨fun e => (by rw [e] at hr; cases hr), fun j hj => ?_⟩
    have hjn : j < n := Nat.lt_of_not_le fun hle => tail_waits hs hc hn inv _ i rfl hin hun j hle hj
    refine ⟨hjn, ?_⟩
    by_cases hji : j = i
    · subst hji; exact hy.qOp hi H
    · have := hL _ _ H j (ready_mono hj hji)
      omega
  | succ f ih =>
    intro ls a inv hfree hr hy H
    have hun := (mem_ready.1 hr).1
    refine ⟨fun e => (by rw [e] at hr; cases hr), fun j hj => ?_⟩
    have hjn : j < n := Nat.lt_of_not_le fun hle => tail_waits hs hc hn inv _ i rfl hin hun j hle hj
    refine ⟨hjn, ?_⟩
    by_cases hji : j = i
    · subst hji; exact hy.qOp hi H
    · have h1 := (H.2 j (ready_mono hj hji)).2
      obtain ⟨hjun, oj, hoj, hall⟩ := mem_ready.1 hj
      have hnot : ∀ e ∈ oj.after, Region.binds md e = true → e.on ≠ i := by
        intro e he hb heq
        have h2 := hall e he hb
        rw [heq, getD_both hun] at h2
        cases h2
      have h2 := qOp_put hoj (hfree j oj hoj hji hjun hnot) (fun cs b => hsel i oi cs b hi) (fun cs b => hsel j oj cs b hoj) hy h1
      have hfree' : ∀ k ok, ops[k]? = some ok → k ≠ i → (ls.setIfInBounds j true).getD k true = false → (∀ e ∈ ok.after, Region.binds md e = true → e.on ≠ i) → oi.apart ops ok = true := by
        intro k ok hk hki hkun hno
        refine hfree k ok hk hki ?_ hno
        by_cases hjk : j = k
        · subst hjk; exact hjun
        · rwa [getD_set_ne true hjk] at hkun
      refine qOp_mono (fun a' h3 => ih _ a' (inv.set hj hjn) hfree' (ready_mono hr (Ne.symm hji)) h3.1 ?_) h2
      rw [Array.setIfInBounds_comm _ _ hji]
      exact h3.2
theorem QHead.lex {n g : Nat} {Lq : Act → Prop} (hsel : Region.noSelect ops = true) (hs : Region.sinkB md ops n = true) (hc : Region.chainB md ops n = true) (hn : n < ops.size) :
    ∀ (l : List Oper) (k : Nat) (ls : Array Bool) (a : Act), (∀ j, j < l.length → l[j]? = ops[k + j]?) → k + l.length = n → HeadInv md ops n ls → Region.lexHead md ops g l.length k ls = true →
      wpQuiet P ops C Lq l a → QHead P md ops C n (fun ls' a' => Region.seqB md ops g n ls' = true ∧ Lq a') l.length ls a := by
  intro l
  induction l with
  | nil =>
    intro k ls a _ hk _ hB h
    obtain rfl : k = n := by simpa using hk
    exact ⟨by simpa [Region.lexHead] using hB, h⟩
  | cons o l ih =>
    intro k ls a hl hk inv hB h
    have h0 : ops[k]? = some o := by simpa using (hl 0 (by simp)).symm
    simp only [List.length_cons, Region.lexHead, Bool.and_eq_true] at hB
    have hkn : k < n := by simp only [List.length_cons] at hk; omega
    have hr : k ∈ Region.ready md ops ls := by simpa using hB.1.1
    have hst : qOp P ops C k (wpQuiet P ops C Lq l) a := by unfold qOp; simp only [h0]; exact h
    obtain ⟨v, hy, hK⟩ := yieldsIn_of_qOp h0 hst
    refine QHead.first h0 (Region.noSelect_spec hsel) hs hc hn hkn (fun ls' a' hL => seqB_ready hL.1) l.length ls a inv (Region.free_spec h0 hB.1.2) hr hy ?_
    refine ih (k + 1) _ _ (fun j hj => ?_) (by simp only [List.length_cons] at hk; omega) (inv.set hr hkn) hB.2 hK
    have := hl (j + 1) (by simp; omega)
    simpa [Nat.add_assoc, Nat.add_comm 1 j] using this
theorem region_quiet_tail {id : Nat} {Q : Exit → Act → World → Prop} {a : Act} {w : World} {l : List Oper} (n : Nat) (hm : P.follows .mixedOrders = true) (hB : Region.lexTailB .any l.toArray n = true)
    (h : wpQuiet P l.toArray (fun w' => ∃ n, w' = w.drewN n) (fun a' => ∀ w', (∃ n, w' = w.drewN n) → wpList P l.toArray Q (l.drop n) a' w') (l.take n) a) : (Code.region id l.toArray true).wp P Q a w := by
  simp only [Region.lexTailB, Bool.and_eq_true, decide_eq_true_eq] at hB
  obtain ⟨⟨⟨⟨hsel, hn⟩, hs⟩, hc⟩, hlex⟩ := hB
  have hn' : n < l.length := by simpa using hn
  have htl : (l.take n).length = n := by simp; omega
  have hdl : (l.drop n).length = l.toArray.size - n := by simp
  have inv0 : HeadInv .any l.toArray n (Array.replicate l.toArray.size false) :=
    ⟨by simp, fun j oj _ hl => (by rw [getD_replicate_false] at hl; cases hl), fun t _ ht => getD_in (by simpa using ht) (getD_replicate_false _ _)⟩
  refine wp_region_any hm ?_
  have hh := QHead.lex (P := P) (C := fun w' => ∃ n, w' = w.drewN n) (g := (l.drop n).length) hsel hs hc hn (l.take n) 0 (Array.replicate l.toArray.size false) a
    (fun j hj => by rw [htl] at hj; simp [hj]) (by simpa using htl) inv0 (by rw [htl, hdl]; exact hlex) h
  have := QHead.any (Q := Q) (fun ls a w' hw' hL => wpAny_of_seq (l.drop n) n ls a w' (fun j => by simp) hL.1 (hL.2 w' hw')) (l.take n).length _ a _ ⟨1, rfl⟩ hh
  rw [htl, hdl] at this
  have hsz : n + (l.toArray.size - n) = l.toArray.size := by simp; omega
  rw [hsz] at this
  exact this
end
end Go.Proofs.Ytngldpeapcbbpaa

/-
  The table of a quarter of a circle, and what its numbers are to each other: plain laws; no condition.
-/
set_option linter.unusedVariables false
namespace Go.Proofs.Ytngldpeapcbbpaa.Bnd
open Go.RowKit Go.Proofs.Ytngldpeapcbbpaa
/-- The cosines of a quarter of a circle. -/
def QT : List Int := [16777216, 16777195, 16777136, 16777038, 16776899, 16776723, 16776505, 16776249, 16775952, 16775618, 16775243, 16774829, 16774374, 16773882, 16773348, 16772776, 16772162, 16771512, 16770821, 16770092, 16769321, 16768513, 16767664, 16766776, 16765847, 16764882, 16763875, 16762830, 16761743, 16760619, 16759454, 16758251, 16757006, 16755725, 16754403, 16753043, 16751641, 16750202, 16748722, 16747203, 16745643, 16744047, 16742409, 16740733, 16739016, 16737262, 16735466, 16733632, 16731757, 16729846, 16727893, 16725902, 16723870, 16721801, 16719691, 16717542, 16715352, 16713126, 16710859, 16708553, 16706206, 16703822, 16701397, 16698933, 16696428, 16693888, 16691306, 16688686, 16686025, 16683327, 16680588, 16677811, 16674992, 16672138, 16669242, 16666308, 16663333, 16660321, 16657268, 16654177, 16651044, 16647876, 16644667, 16641420, 16638131, 16634806, 16631439, 16628035, 16624589, 16621108, 16617585, 16614024, 16610422, 16606784, 16603104, 16599387, 16595628, 16591834, 16587999, 16584126, 16580212, 16576262, 16572270, 16568241, 16564170, 16560064, 16555917, 16551732, 16547506, 16543244, 16538940, 16534599, 16530217, 16525800, 16521341, 16516845, 16512307, 16507734, 16503119, 16498467, 16493774, 16489046, 16484276, 16479469, 16474621, 16469737, 16464812, 16459850, 16454846, 16449808, 16444729, 16439613, 16434455, 16429262, 16424027, 16418756, 16413443, 16408096, 16402707, 16397282, 16391815, 16386313, 16380769, 16375188, 16369567, 16363911, 16358214, 16352480, 16346705, 16340894, 16335043, 16329155, 16323226, 16317262, 16311257, 16305215, 16299133, 16293015, 16286857, 16280661, 16274425, 16268155, 16261844, 16255496, 16249107, 16242683, 16236218, 16229717, 16223175, 16216599, 16209982, 16203328, 16196634, 16189905, 16183135, 16176328, 16169481, 16162600, 16155678, 16148720, 16141721, 16134687, 16127613, 16120503, 16113352, 16106167, 16098941, 16091679, 16084377, 16077040, 16069663, 16062249, 16054795, 16047308, 16039780, 16032216, 16024612, 16016973, 16009294, 16001579, 15993823, 15986034, 15978205, 15970339, 15962434, 15954494, 15946514, 15938497, 15930441, 15922351, 15914222, 15906056, 15897851, 15889611, 15881331, 15873015, 15864660, 15856271, 15847843, 15839378, 15830874, 15822335, 15813757, 15805143, 15796489, 15787802, 15779076, 15770314, 15761513, 15752677, 15743802, 15734891, 15725941, 15716957, 15707934, 15698876, 15689778, 15680646, 15671475, 15662269, 15653023, 15643745, 15634427, 15625074, 15615681, 15606255, 15596789, 15587288, 15577748, 15568175, 15558564, 15548917, 15539231, 15529511, 15519753, 15509959, 15500126, 15490261, 15480358, 15470419, 15460442, 15450431, 15440381, 15430296, 15420173, 15410017, 15399822, 15389593, 15379325, 15369024, 15358684, 15348309, 15337896, 15327451, 15316967, 15306449, 15295892, 15285302, 15274674, 15264011, 15253310, 15242577, 15231805, 15220999, 15210155, 15199278, 15188362, 15177412, 15166425, 15155405, 15144348, 15133256, 15122127, 15110965, 15099765, 15088530, 15077258, 15065954, 15054612, 15043236, 15031823, 15020377, 15008893, 14997375, 14985819, 14974232, 14962607, 14950949, 14939253, 14927525, 14915759, 14903960, 14892123, 14880255, 14868349, 14856410, 14844434, 14832426, 14820380, 14808301, 14796184, 14784037, 14771852, 14759634, 14747380, 14735093, 14722770, 14710413, 14698019, 14685594, 14673132, 14660637, 14648106, 14635542, 14622942, 14610309, 14597639, 14584938, 14572201, 14559431, 14546625, 14533787, 14520912, 14508005, 14495061, 14482087, 14469076, 14456033, 14442953, 14429842, 14416695, 14403515, 14390299, 14377053, 14363771, 14350456, 14337106, 14323724, 14310307, 14296857, 14283372, 14269856, 14256304, 14242720, 14229101, 14215450, 14201764, 14188046, 14174292, 14160508, 14146689, 14132838, 14118952, 14105035, 14091082, 14077098, 14063078, 14049029, 14034944, 14020828, 14006676, 13992494, 13978277, 13964028, 13949745, 13935432, 13921085, 13906706, 13892292, 13877848, 13863369, 13848859, 13834314, 13819740, 13805131, 13790491, 13775816, 13761112, 13746373, 13731603, 13716798, 13701965, 13687097, 13672199, 13657266, 13642303, 13627306, 13612279, 13597217, 13582127, 13567002, 13551847, 13536658, 13521439, 13506187, 13490904, 13475587, 13460242, 13444863, 13429454, 13414011, 13398539, 13383034, 13367498, 13351929, 13336332, 13320701, 13305040, 13289346, 13273623, 13257866, 13242080, 13226260, 13210413, 13194532, 13178621, 13162678, 13146706, 13130701, 13114666, 13098599, 13082504, 13066376, 13050218, 13034028, 13017809, 13001558, 12985277, 12968964, 12952624, 12936251, 12919849, 12903415, 12886953, 12870458, 12853934, 12837378, 12820795, 12804180, 12787536, 12770859, 12754155, 12737419, 12720654, 12703858, 12687034, 12670179, 12653295, 12636380, 12619437, 12602463, 12585460, 12568425, 12551364, 12534271, 12517150, 12499998, 12482818, 12465607, 12448368, 12431098, 12413802, 12396475, 12379119, 12361733, 12344320, 12326876, 12309404, 12291901, 12274372, 12256812, 12239225, 12221607, 12203962, 12186287, 12168584, 12150851, 12133092, 12115303, 12097487, 12079640, 12061767, 12043863, 12025933, 12007972, 11989986, 11971970, 11953926, 11935853, 11917754, 11899625, 11881469, 11863283, 11845072, 11826832, 11808565, 11790269, 11771947, 11753596, 11735218, 11716810, 11698378, 11679916, 11661428, 11642911, 11624369, 11605797, 11587199, 11568572, 11549920, 11531240, 11512534, 11493799, 11475039, 11456250, 11437435, 11418592, 11399724, 11380828, 11361906, 11342956, 11323981, 11304977, 11285948, 11266891, 11247810, 11228701, 11209567, 11190404, 11171217, 11152003, 11132763, 11113495, 11094203, 11074884, 11055540, 11036168, 11016772, 10997348, 10977900, 10958424, 10938925, 10919399, 10899848, 10880269, 10860667, 10841038, 10821384, 10801703, 10781999, 10762268, 10742513, 10722731, 10702925, 10683093, 10663237, 10643354, 10623449, 10603517, 10583561, 10563579, 10543574, 10523542, 10503486, 10483404, 10463300, 10443170, 10423016, 10402836, 10382633, 10362405, 10342153, 10321875, 10301575, 10281250, 10260901, 10240526, 10220129, 10199707, 10179262, 10158791, 10138299, 10117781, 10097240, 10076674, 10056086, 10035473, 10014838, 9994177, 9973495, 9952788, 9932059, 9911305, 9890529, 9869729, 9848906, 9828059, 9807191, 9786298, 9765383, 9744444, 9723483, 9702498, 9681491, 9660460, 9639409, 9618333, 9597236, 9576114, 9554971, 9533805, 9512617, 9491406, 9470174, 9448919, 9427642, 9406342, 9385021, 9363677, 9342311, 9320922, 9299514, 9278082, 9256629, 9235153, 9213657, 9192138, 9170598, 9149036, 9127454, 9105849, 9084223, 9062575, 9040907, 9019217, 8997506, 8975772, 8954020, 8932245, 8910450, 8888632, 8866795, 8844936, 8823057, 8801156, 8779236, 8757295, 8735333, 8713350, 8691347, 8669323, 8647279, 8625214, 8603130, 8581025, 8558901, 8536755, 8514591, 8492405, 8470200, 8447974, 8425730, 8403465, 8381180, 8358875, 8336552, 8314208, 8291845, 8269461, 8247060, 8224638, 8202198, 8179737, 8157258, 8134759, 8112241, 8089703, 8067148, 8044573, 8021980, 7999366, 7976735, 7954084, 7931415, 7908726, 7886020, 7863295, 7840552, 7817790, 7795011, 7772212, 7749395, 7726559, 7703707, 7680835, 7657946, 7635038, 7612113, 7589169, 7566208, 7543228, 7520232, 7497217, 7474185, 7451135, 7428068, 7404983, 7381881, 7358761, 7335625, 7312470, 7289299, 7266110, 7242905, 7219682, 7196443, 7173185, 7149912, 7126622, 7103315, 7079991, 7056651, 7033294, 7009921, 6986530, 6963124, 6939701, 6916262, 6892806, 6869335, 6845847, 6822343, 6798822, 6775287, 6751735, 6728167, 6704583, 6680984, 6657369, 6633738, 6610091, 6586430, 6562752, 6539059, 6515350, 6491627, 6467887, 6444133, 6420363, 6396580, 6372780, 6348966, 6325136, 6301292, 6277433, 6253559, 6229670, 6205767, 6181849, 6157917, 6133970, 6110009, 6086033, 6062043, 6038038, 6014021, 5989988, 5965941, 5941880, 5917806, 5893717, 5869614, 5845497, 5821368, 5797224, 5773067, 5748895, 5724711, 5700512, 5676301, 5652075, 5627838, 5603586, 5579322, 5555044, 5530754, 5506450, 5482133, 5457803, 5433461, 5409106, 5384738, 5360357, 5335964, 5311558, 5287140, 5262708, 5238266, 5213810, 5189342, 5164862, 5140370, 5115866, 5091350, 5066821, 5042281, 5017729, 4993165, 4968589, 4944002, 4919403, 4894793, 4870170, 4845537, 4820892, 4796237, 4771569, 4746891, 4722201, 4697500, 4672787, 4648064, 4623330, 4598585, 4573829, 4549063, 4524286, 4499498, 4474699, 4449891, 4425071, 4400242, 4375401, 4350551, 4325690, 4300819, 4275938, 4251047, 4226146, 4201235, 4176314, 4151384, 4126443, 4101493, 4076532, 4051563, 4026584, 4001596, 3976598, 3951591, 3926574, 3901548, 3876513, 3851469, 3826416, 3801354, 3776283, 3751203, 3726114, 3701017, 3675910, 3650796, 3625672, 3600540, 3575399, 3550250, 3525093, 3499927, 3474753, 3449571, 3424381, 3399183, 3373977, 3348763, 3323541, 3298311, 3273073, 3247828, 3222575, 3197315, 3172046, 3146771, 3121488, 3096198, 3070900, 3045596, 3020284, 2994965, 2969639, 2944306, 2918966, 2893619, 2868265, 2842905, 2817538, 2792164, 2766784, 2741397, 2716004, 2690604, 2665198, 2639786, 2614367, 2588943, 2563512, 2538075, 2512632, 2487184, 2461729, 2436269, 2410803, 2385331, 2359854, 2334371, 2308883, 2283389, 2257890, 2232386, 2206876, 2181361, 2155841, 2130316, 2104786, 2079251, 2053711, 2028167, 2002617, 1977062, 1951503, 1925940, 1900372, 1874799, 1849222, 1823641, 1798056, 1772466, 1746872, 1721274, 1695672, 1670066, 1644455, 1618842, 1593224, 1567602, 1541977, 1516348, 1490716, 1465080, 1439440, 1413798, 1388152, 1362503, 1336850, 1311195, 1285536, 1259874, 1234209, 1208542, 1182871, 1157198, 1131522, 1105843, 1080162, 1054478, 1028792, 1003103, 977412, 951719, 926023, 900325, 874625, 848923, 823219, 797513, 771806, 746096, 720385, 694672, 668957, 643241, 617523, 591804, 566083, 540361, 514638, 488914, 463188, 437462, 411734, 386005, 360276, 334545, 308814, 283082, 257350, 231617, 205883, 180149, 154414, 128679, 102943, 77208, 51472, 25736, 0]
set_option maxRecDepth 100000
def qt (i : Nat) : Int := QT.getD i 0
/-- The table, as far as it is filled. -/
def sel (p : Nat → Bool) : List Int := (List.range 1025).map (fun i => if p i then qt i else 0)
theorem sel_len (p : Nat → Bool) : (sel p).length = 1025 := by simp [sel]
theorem sel_get (p : Nat → Bool) (i : Nat) (h : i < 1025) (hp : p i = true) {h' : i < (sel p).length} : (sel p)[i] = qt i := by simp [sel, hp]
theorem sel_set (p q : Nat → Bool) (i : Nat) (h : ∀ j, j < 1025 → q j = (p j || j == i)) : (sel p).set i (qt i) = sel q := by
  apply List.ext_getElem
  · simp [sel]
  · intro j h1 h2
    rw [List.getElem_set]
    simp [sel] at h1 h2 ⊢
    rw [h j h1]
    by_cases hij : i = j
    · subst hij; simp
    · rw [if_neg hij]
      have : (j == i) = false := by rw [beq_eq_false_iff_ne]; omega
      simp [this]
theorem sel_eq (p q : Nat → Bool) (h : ∀ j, j < 1025 → p j = q j) : sel p = sel q := by
  apply List.ext_getElem
  · simp [sel]
  · intro j h1 h2
    simp [sel] at h1 h2 ⊢
    rw [h j h1]
theorem sel_all : sel (fun _ => true) = QT := by decide +kernel
/-- Every number lies within 0 and One. -/
theorem qt_bd : ∀ i : Fin 1025, 0 ≤ qt i.val ∧ qt i.val ≤ 16777216 := by decide +kernel
/-- The number between two. -/
theorem qt_mid : ∀ e : Fin 10, ∀ k : Fin 512, (k.val + 1) * 2 ^ (e.val + 1) < 1024 → (2 * ((qt ((k.val + 1) * 2 ^ (e.val + 1)) + qt ((k.val + 2) * 2 ^ (e.val + 1))) * 8388608) + qt (2 ^ e.val)) / (2 * qt (2 ^ e.val)) = qt ((k.val + 1) * 2 ^ (e.val + 1) + 2 ^ e.val) := by decide +kernel
end Go.Proofs.Ytngldpeapcbbpaa.Bnd

/-
  The walk of bands.near, and plain laws on the places that a round fills; no condition but those told.
-/
set_option linter.unusedVariables false
set_option linter.unusedSimpArgs false
namespace Go.Proofs.Ytngldpeapcbbpaa.Bnd
open Go.RowKit Go.Proofs.Ytngldpeapcbbpaa Go.Proofs.YtngldpeapcbbpaaW.PrintWords Go.Proofs.YtngldpeapcbbpaaW.PrintLast Go.Proofs.YtngldpeapcbbpaaW.PrintMore Go.Proofs.Ytngldpeapcbbpaa.PRoot

attribute [local irreducible] qt QT sel arith_Root.f
theorem near_calls (x y : Int) (hx : 0 ≤ x ∧ x < 1125899906842624) (hy : 0 < y ∧ y < 1073741824) (w : World) : Calls Try.prog 63 #[.int .i64 x, .int .i64 y] w fun e w' => e = .returned (.int .i64 ((2 * x + y) / (2 * y))) ∧ w' = w := by
  have e1 : IntKind.i64.wrap (2 * x) = 2 * x := wrapI64 (by omega) (by omega)
  have e2 : IntKind.i64.wrap (2 * x + y) = 2 * x + y := wrapI64 (by omega) (by omega)
  have e3 : IntKind.i64.wrap (2 * y) = 2 * y := wrapI64 (by omega) (by omega)
  have z1 : 2 * y ≠ 0 := by omega
  have e4 : Int.tdiv (2 * x + y) (2 * y) = (2 * x + y) / (2 * y) := Int.tdiv_eq_ediv_of_nonneg (by omega)
  go_enter Try.func63, Try.ntmps63
  go_wp2
  go_ret
  have q0 : 0 ≤ (2 * x + y) / (2 * y) := Int.ediv_nonneg (by omega) (by omega)
  have q1 : (2 * x + y) / (2 * y) ≤ 2 * x + y := Int.ediv_le_self _ (by omega)
  have e5 : wrap64 ((2 * x + y) / (2 * y)) = (2 * x + y) / (2 * y) := by unfold wrap64; omega
  exact ⟨congrArg (fun z => Ending.returned (Value.int .i64 z)) e5, rfl⟩
/-- The places filled ahead of a round with h. -/
def pw (h i : Nat) : Bool := i % h == 0
theorem vals_one (k : IntKind) (xs : List Int) : (vals k xs).all (·.oneCell') = true := by
  rw [Array.all_eq_true_iff_forall_mem]
  intro x hx
  simp [vals] at hx
  obtain ⟨y, _, rfl⟩ := hx
  rfl
theorem cells0 : Try.zeroCells78 = vals .i64 (sel (fun _ => false)) := by kernel_rfl
theorem cells1 : Try.zeroCells78.setIfInBounds 0 (.int .i64 16777216) = vals .i64 (sel (pw 1024)) := by kernel_rfl
theorem root_e : ∀ e : Fin 10, arith_Root.f 60 ((16777216 + qt (2 ^ (e.val + 1))) * 8388608) = some (qt (2 ^ e.val)) := by decide +kernel
theorem root_pos : ∀ e : Fin 10, 0 < qt (2 ^ e.val) := by decide +kernel
theorem pow_e : ∀ e : Fin 10, 1 < 2 ^ (e.val + 1) ∧ 2 ^ (e.val + 1) ≤ 1024 ∧ 2 ^ (e.val + 1) = 2 * 2 ^ e.val ∧ 1024 % 2 ^ (e.val + 1) = 0 ∧ 0 < 2 ^ e.val := by decide
/-- .. and in it, ahead of place a. -/
def pin (h a i : Nat) : Bool := i % h == 0 || (decide (h ≤ i ∧ i < a) && i % (h / 2) == 0)
theorem pin_first (h j : Nat) (hh : 0 < h) : pw h j = pin h ((0 + 1) * h) j := by
  have : decide (h ≤ j ∧ j < (0 + 1) * h) = false := by rw [decide_eq_false_iff_not]; omega
  unfold pw pin
  rw [this]; simp
theorem pin_at (h a k : Nat) : pin h a (k * h) = true := by simp [pin]
/-- A place in the midst. -/
theorem mid_mod {g k j : Nat} (hg : 0 < g) (h1 : k * (2 * g) ≤ j) (h2 : j < (k + 1) * (2 * g)) (h3 : j % g = 0) : j = k * (2 * g) ∨ j = k * (2 * g) + g := by
  obtain ⟨q, rfl⟩ : ∃ q, j = q * g := ⟨j / g, (Nat.div_mul_cancel (Nat.dvd_of_mod_eq_zero h3)).symm⟩
  have e1 : k * (2 * g) = (2 * k) * g := by rw [Nat.mul_comm 2 k, Nat.mul_assoc]
  have e2 : (k + 1) * (2 * g) = (2 * k + 2) * g := by rw [show 2 * k + 2 = (k + 1) * 2 from by omega, Nat.mul_assoc]
  rw [e1] at h1 ⊢
  rw [e2] at h2
  have a1 : 2 * k ≤ q := Nat.le_of_mul_le_mul_right h1 hg
  have a2 : q < 2 * k + 2 := Nat.lt_of_mul_lt_mul_right h2
  rcases (by omega : q = 2 * k ∨ q = 2 * k + 1) with rfl | rfl
  · exact .inl rfl
  · right; rw [Nat.add_mul, Nat.one_mul]
theorem pin_step (g k j : Nat) (hg : 0 < g) : pin (2 * g) ((k + 1 + 1) * (2 * g)) j = (pin (2 * g) ((k + 1) * (2 * g)) j || j == (k + 1) * (2 * g) + g) := by
  have e0 : 2 * g / 2 = g := by omega
  unfold pin
  rw [e0]
  by_cases h1 : j % (2 * g) = 0
  · simp [h1]
  by_cases h2 : j % g = 0
  · by_cases h3 : j < (k + 1) * (2 * g)
    · have h4 : j < (k + 1 + 1) * (2 * g) := by rw [Nat.add_mul]; omega
      have h5 : (j == (k + 1) * (2 * g) + g) = false := by rw [beq_eq_false_iff_ne]; omega
      simp [h3, h4, h5]
    · by_cases h4 : j < (k + 1 + 1) * (2 * g)
      · rcases mid_mod hg (by omega) h4 h2 with rfl | rfl
        · exact absurd (Nat.mul_mod_left _ _) h1
        · have h6 : 2 * g ≤ (k + 1) * (2 * g) + g := by rw [Nat.add_mul]; omega
          simp [h6, h2, h4]
      · have h5 : (j == (k + 1) * (2 * g) + g) = false := by rw [beq_eq_false_iff_ne]; rw [Nat.add_mul] at h4; omega
        simp [h3, h4, h5]
  · have h5 : (j == (k + 1) * (2 * g) + g) = false := by
      rw [beq_eq_false_iff_ne]
      rintro rfl
      apply h2
      rw [show (k + 1) * (2 * g) + g = (2 * (k + 1) + 1) * g from by rw [Nat.add_mul (2 * (k + 1)), Nat.mul_comm 2 (k + 1), Nat.mul_assoc, Nat.one_mul]]
      exact Nat.mul_mod_left _ _
    have h6 : (j % (2 * g) == 0) = false := by rw [beq_eq_false_iff_ne]; exact h1
    have h7 : (j % g == 0) = false := by rw [beq_eq_false_iff_ne]; exact h2
    rw [h5, h6, h7]
    simp
theorem pin_last (g j : Nat) (hg : 0 < g) (hj : j < 1025) (hd : 1024 % (2 * g) = 0) : pw g j = (pin (2 * g) 1024 j || j == g) := by
  have e0 : 2 * g / 2 = g := by omega
  unfold pin pw
  rw [e0]
  by_cases h2 : j % g = 0
  · by_cases h1 : j % (2 * g) = 0
    · simp [h1, h2]
    · by_cases h3 : 2 * g ≤ j
      · have h4 : j < 1024 := by
          rcases Nat.lt_or_ge j 1024 with h | h
          · exact h
          · obtain rfl : j = 1024 := by omega
            exact absurd hd h1
        simp [h2, h3, h4]
      · rcases mid_mod (k := 0) hg (by omega) (by omega) h2 with h | h
        · rw [h] at h1; simp at h1
        · have : j = g := by omega
          subst this; simp
  · have h5 : (j == g) = false := by
      rw [beq_eq_false_iff_ne]
      rintro rfl
      exact h2 (Nat.mod_self _)
    have h1 : (j % (2 * g) == 0) = false := by
      rw [beq_eq_false_iff_ne]
      intro h
      exact h2 (Nat.mod_eq_zero_of_dvd (Nat.dvd_trans (Nat.dvd_mul_left g 2) (Nat.dvd_of_mod_eq_zero h)))
    have h7 : (j % g == 0) = false := by rw [beq_eq_false_iff_ne]; exact h2
    rw [h5, h1, h7]
    simp
end Go.Proofs.Ytngldpeapcbbpaa.Bnd

/-
  The walk of bands.quarter; no condition.
-/
set_option linter.unusedVariables false
set_option linter.unusedSimpArgs false
namespace Go.Proofs.Ytngldpeapcbbpaa.Bnd
open Go.RowKit Go.Proofs.Ytngldpeapcbbpaa Go.Proofs.YtngldpeapcbbpaaW.PrintWords Go.Proofs.YtngldpeapcbbpaaW.PrintLast Go.Proofs.YtngldpeapcbbpaaW.PrintMore Go.Proofs.Ytngldpeapcbbpaa.PRoot
attribute [local irreducible] qt QT sel arith_Root.f
set_option maxHeartbeats 4000000 in
set_option maxRecDepth 100000 in
theorem quarter_calls (w : World) : Calls Try.prog 42 #[] w fun e w' => e = .returned (.agg (vals .i64 QT)) ∧ Below w.heap.size w w' := by
  go_enter Try.func42, Try.ntmps42
  go_wp2_with fail
  rw [cells1, cells0]
  go_loopw [2] (fun v wr => ∃ e : Nat, e ≤ 10 ∧ v = .int .i64 ((2 ^ e : Nat) : Int) ∧ Hid (Blk wr w.heap.size 78 (vals .i64 (sel (fun _ => false)))) ∧ Hid (Blk wr (w.heap.size + 1) 78 (vals .i64 (sel (pw (2 ^ e))))) ∧ Hid (Below w.heap.size w wr)) (fun v _ => (intOf v).toNat)
  case atStart => exact ⟨10, by omega, rfl, (Blk.new w _ _).alloc _, Blk.new_at _ _ (by simp), (((Below.refl _ _).alloc (Nat.le_refl _) _).alloc (by simp) _ : Below _ _ _)⟩
  case round =>
    obtain ⟨e, he, rfl, h0, h1, hb⟩ := hrel
    cases e with
    | zero =>
      rw [show (2 : Nat) ^ 0 = 1 from rfl] at h1 ⊢
      rw [sel_eq _ (fun _ => true) (fun j _ => by simp [pw, Nat.mod_one]), sel_all] at h1
      obtain ⟨cs, hcs⟩ : ∃ cs, cs = vals .i64 QT := ⟨_, rfl⟩
      obtain ⟨zs, hzs⟩ : ∃ zs, zs = vals .i64 (sel (fun _ => false)) := ⟨_, rfl⟩
      have s1 : cs.size = 1025 := by rw [hcs, vals_size, ← sel_all, sel_len]
      have s2 : cs.all (·.oneCell') = true := by rw [hcs]; exact vals_one _ _
      have s3 : zs.size = cs.size := by rw [s1, hzs, vals_size, sel_len]
      rw [← hcs] at h1
      rw [← hzs] at h0
      clear hzs
      go_wp2_with (first
        | (refine wpList_load_row rfl 78 _ rfl (w.heap.size + 1) rfl 78 _ (0, 0) _ (h1.out : Blk wr (w.heap.size + 1) 78 cs) Try.underlying78 rfl (by rw [s1]; kernel_rfl) ?_)
        | (refine wpList_store_row rfl 78 _ _ rfl w.heap.size cs rfl rfl 78 _ (h0.out : Blk wr w.heap.size 78 zs) (by rw [s1]; kernel_rfl) s3 s2 ?_))
      have hb2 := Blk.row h0.out cs
      refine bodyPost_ret (results_cell_row rfl _ _ w.heap.size 78 _ (0, 0) _ rfl hb2 Try.underlying78 rfl (by rw [s1]; kernel_rfl)) rfl ⟨by rw [hcs], below_row hb.out (Nat.le_refl _) _⟩
    | succ e =>
      obtain ⟨b1, b2, b3, b4, b5⟩ := pow_e ⟨e, by omega⟩
      simp only at b1 b2 b3 b4 b5
      have r1 := root_e ⟨e, by omega⟩
      have p1 := root_pos ⟨e, by omega⟩
      have q1 := qt_bd ⟨2 ^ (e + 1), by omega⟩
      have q2 := qt_bd ⟨2 ^ e, by omega⟩
      have c1 := h1.out.cell (i := 2 ^ (e + 1)) (v := .int .i64 (qt (2 ^ (e + 1)))) (by rw [vals_get (by rw [sel_len]; omega), sel_get _ _ (by omega) (by simp [pw])])
      have M0 := fun k hk => qt_mid ⟨e, by omega⟩ ⟨k, hk⟩
      simp only at r1 q1 q2 p1 M0
      have HE := Lib.hid b3
      have HD := Lib.hid b4
      clear b3 b4
      generalize hh : 2 ^ (e + 1) = h at *
      generalize hx : qt h = x at *
      generalize hg : 2 ^ e = g at *
      generalize hy : qt g = y at *
      have HM := Lib.hid M0
      clear M0
      have e8 : (16777216 + x) * 16777216 / 2 = (16777216 + x) * 8388608 := by omega
      go_wp2_with (first
        | (go_at_call 62; refine (arith_Root.calls 60 _ _ _ r1).mono ?_; rintro z w2 ⟨rfl, ⟨m, rfl⟩⟩))
      go_loopw [4] (fun v wq => ∃ k : Nat, (k + 1) * h ≤ 1024 ∧ v = .int .i64 (((k + 1) * h : Nat) : Int) ∧ Hid (Blk wq w.heap.size 78 (vals .i64 (sel (fun _ => false)))) ∧ Hid (Blk wq (w.heap.size + 1) 78 (vals .i64 (sel (pin h ((k + 1) * h))))) ∧ Hid (Below w.heap.size w wq)) (fun v _ => 1024 - (intOf v).toNat)
      case atStart => exact ⟨0, by omega, by rw [Nat.zero_add, Nat.one_mul], h0.out.drewN m, by rw [sel_eq _ (pw h) (fun j _ => (pin_first h j (by omega)).symm)]; exact h1.out.drewN m, (pw_below_drewN hb.out m : Below _ _ _)⟩
      case round =>
        obtain ⟨k, hk, rfl, g0, g1, gb⟩ := hrel
        clear h0 h1 hb c1 e8 r1 hx
        by_cases hlt : (k + 1) * h < 1024
        · have hk2 : (k + 2) * h ≤ 1024 := by
            have hD : 1024 / h * h = 1024 := Nat.div_mul_cancel (Nat.dvd_of_mod_eq_zero HD.out)
            rw [← hD] at hlt ⊢
            have := Nat.lt_of_mul_lt_mul_right hlt
            exact Nat.mul_le_mul_right _ (by omega)
          have hk512 : k < 512 := by
            rcases Nat.lt_or_ge k 512 with hq | hq
            · exact hq
            · have : (512 + 1) * 2 ≤ (k + 1) * h := Nat.mul_le_mul (by omega) (by omega)
              omega
          have M := HM.out k hk512 hlt
          have hn : (k + 2) * h = (k + 1) * h + h := by rw [show k + 2 = (k + 1) + 1 from rfl, Nat.add_mul, Nat.one_mul]
          have ca := g1.out.cell (i := (k + 1) * h) (v := .int .i64 (qt ((k + 1) * h))) (by rw [vals_get (by rw [sel_len]; omega), sel_get _ _ (by omega) (pin_at _ _ _)])
          have cb := g1.out.cell (i := (k + 1) * h + h) (v := .int .i64 (qt ((k + 2) * h))) (by rw [← hn, vals_get (by rw [sel_len]; omega), sel_get _ _ (by omega) (pin_at _ _ _)])
          have qa := qt_bd ⟨(k + 1) * h, by omega⟩
          have qb := qt_bd ⟨(k + 2) * h, by omega⟩
          simp only at qa qb
          have HK := Lib.hid hn
          have HKB := Lib.hid hk2
          have HK2 := Lib.hid (pin_step g k)
          have eh : (h : Int) / 2 = (g : Int) := by have := HE.out; omega
          have gle : (k + 1) * h + g < 1024 := by have := HE.out; omega
          have ff := g1.out.free ((k + 1) * h + g)
          have cc := g1.out.cell (vals_get (i := (k + 1) * h + g) (by rw [sel_len]; omega))
          generalize (sel (pin h ((k + 1) * h)))[(k + 1) * h + g]'(by rw [sel_len]; omega) = zc at cc
          have HS := Lib.hid (fun j => pin_step g k j b5)
          generalize ha : (k + 1) * h = a at *
          generalize hqa : qt a = xa at *
          generalize hqb : qt ((k + 2) * h) = xb at *
          clear hn hk2
          go_wp2_with fail
          have ia : (a : Int) < 1025 := by omega
          have HB := HK.out
          have HB2 := HKB.out
          rw [HB] at HB2
          clear HB
          generalize hbq : a + h = b at *
          generalize hcq : a + g = c at *
          have w1 : IntKind.i64.wrap (g : Int) = (g : Int) := wrapI64 (by omega) (by omega)
          have w2 : IntKind.i64.wrap ((a : Int) + (g : Int)) = (c : Int) := by rw [wrapI64 (by omega) (by omega)]; omega
          have w3 : IntKind.i64.wrap ((a : Int) + (h : Int)) = (b : Int) := by rw [wrapI64 (by omega) (by omega)]; omega
          have w4 : IntKind.i64.wrap (xa + xb) = xa + xb := wrapI64 (by omega) (by omega)
          have w5 : IntKind.i64.wrap ((xa + xb) * 8388608) = (xa + xb) * 8388608 := wrapI64 (by omega) (by omega)
          have ib : (b : Int) < 1025 := by omega
          have ic : (c : Int) < 1025 := by omega
          refine region_quiet_tail 16 (by kernel_rfl) (by kernel_rfl) ?_
          simp only [List.take_succ_cons, List.take_zero, List.drop_succ_cons, List.drop_zero]
          repeat (quiet_step ((go_at_call 63; exact Calls.quiet_of_same (near_calls _ _ (by omega) (by omega) _))))
          refine wpQuiet_nil ?_
          rintro _ ⟨nq, rfl⟩
          rw [M]
          go_wp2_with fail
          refine ⟨⟨k + 1, ?_, ?_, (g0.out.drewN nq).other (a := ⟨w.heap.size + 1, c, none⟩) (by simp) _, ?_, (pw_below_drewN gb.out nq).setCell (p := ⟨w.heap.size + 1, c, none⟩) (by simp) _⟩, ?_⟩
          · exact HKB.out
          · rw [show (k + 1 + 1) * h = b from HK.out]
          · have HS' : ∀ j, j < 1025 → pin h ((k + 1 + 1) * h) j = (pin h a j || j == c) := by
              intro j _
              have hs := HS.out j
              rw [← HE.out, ha, hcq] at hs
              exact hs
            rw [← sel_set _ _ c HS']
            exact (g1.out.drewN nq).seti c (qt c)
          · simp [intOf]; omega
        · have hf : (k + 1) * h = 1024 := by omega
          rw [hf] at g1 hlt hk ⊢
          have eh : (h : Int) / 2 = (g : Int) := by have := HE.out; omega
          have ff := g1.out.free g
          have gl : g < 1025 := by have := HE.out; omega
          have cc := g1.out.cell (vals_get (i := g) (by rw [sel_len]; omega))
          generalize (sel (pin h 1024))[g]'(by rw [sel_len]; omega) = zc at cc
          have HL := Lib.hid (fun j hj => pin_last g j b5 hj (by rw [← HE.out]; exact HD.out))
          have HG := Lib.hid hg
          clear hg hh
          go_wp2_with fail
          refine ⟨⟨e, by omega, by rw [HG.out], g0.out.other (a := ⟨w.heap.size + 1, g, none⟩) (by simp) _, ?_, gb.out.setCell (p := ⟨w.heap.size + 1, g, none⟩) (by simp) _⟩, ?_⟩
          · rw [HG.out, ← sel_set _ _ g (fun j hj => by have hs := HL.out j hj; rw [← HE.out] at hs; exact hs), ← hy]
            exact g1.out.seti g (qt g)
          · simp [intOf]; omega
end Go.Proofs.Ytngldpeapcbbpaa.Bnd

/-
  The walk of bands.New; no condition.
-/
set_option linter.unusedVariables false
set_option linter.unusedSimpArgs false
namespace Go.Proofs.Ytngldpeapcbbpaa.Bnd
open Go.RowKit Go.Proofs.Ytngldpeapcbbpaa Go.Proofs.YtngldpeapcbbpaaW.PrintWords Go.Proofs.YtngldpeapcbbpaaW.PrintLast Go.Proofs.YtngldpeapcbbpaaW.PrintMore
/-- The cosine of up to half a circle's units, and of up to a circle's. -/
def cb (i : Nat) : Int := if i ≤ 1024 then qt i else -(qt (2048 - i))
def cv (i : Nat) : Int := if i ≤ 2048 then cb i else cb (4096 - i)
theorem wrapI32 {x : Int} (h0 : -2147483648 ≤ x) (h1 : x < 2147483648) : IntKind.i32.wrap x = x := by
  unfold IntKind.wrap
  simp only [IntKind.bits, IntKind.signed]
  simp
  split <;> omega
theorem cv_flip (n m : Nat) (h : 2048 < n) (hm : m + n = 4096) : cv m = cv n := by
  unfold cv
  rw [if_pos (by omega), if_neg (by omega), show 4096 - n = m from by omega]
theorem cv_back (n m : Nat) (h : n ≤ 2048) (h2 : 1024 < n) (hm : m + n = 2048) : cv n = -(qt m) := by
  unfold cv cb
  rw [if_pos h, if_neg (by omega), show 2048 - n = m from by omega]
theorem cv_half : cv 2048 = -16777216 := by decide +kernel
theorem cv_first (n : Nat) (h : n ≤ 1024) : cv n = qt n := by
  unfold cv cb
  rw [if_pos (by omega), if_pos h]
theorem fillTo_lt (f : Nat → Int) (n j i : Nat) (h : i < n) (hj : i < j) {h' : i < (fillTo f n j).length} : (fillTo f n j)[i] = f i := by simp [fillTo, hj]
theorem QT_get (i : Nat) (h : i < 1025) : (vals .i64 QT)[i]? = some (.int .i64 (qt i)) := by
  rw [← sel_all, vals_get (by rw [sel_len]; exact h), sel_get _ _ h rfl]
attribute [local irreducible] qt QT sel cv cb
theorem cells_new : Try.zeroCells77 = vals .i32 (fillTo cv 4096 0) := by kernel_rfl
set_option maxHeartbeats 4000000 in
set_option maxRecDepth 100000 in
theorem New_calls (w : World) : Calls Try.prog 16 #[] w fun e w' => ∃ g, w.heap.size ≤ g ∧ e = .returned (.pointer (some ⟨g, 0, none⟩)) ∧ Blk w' g 77 (vals .i32 (fillTo cv 4096 4096)) ∧ Below w.heap.size w w' := by
  obtain ⟨cs, hcs⟩ : ∃ cs, cs = vals .i64 QT := ⟨_, rfl⟩
  have s1 : cs.size = 1025 := by rw [hcs, vals_size, ← sel_all, sel_len]
  have s2 : cs.all (·.oneCell') = true := by rw [hcs]; exact vals_one _ _
  have q : ∀ w, Calls Try.prog 42 #[] w fun e w' => e = .returned (.agg cs) ∧ Below w.heap.size w w' := by rw [hcs]; exact quarter_calls
  have HC := Lib.hid hcs
  clear hcs
  go_enter Try.func16, Try.ntmps16
  go_wp2_with (first
    | (go_at_call 42; refine (q _).mono ?_; rintro e w1 ⟨rfl, hb1⟩)
    | (refine wpList_store_row rfl 78 _ _ rfl w1.heap.size cs rfl rfl 78 _ (Blk.new w1 _ _) (by rw [s1]; kernel_rfl) (by rw [s1]; kernel_rfl) s2 ?_))
  go_loopw [8] (fun v wr => ∃ n : Nat, n ≤ 4096 ∧ v = .int .i64 (n : Int) ∧ Hid (Blk wr w.heap.size 77 (vals .i32 (fillTo cv 4096 n))) ∧ Hid (Blk wr w1.heap.size 78 cs) ∧ Hid (Below w.heap.size w wr)) (fun v _ => 4096 - (intOf v).toNat)
  case atStart =>
    have hs1 := hb1.size
    simp at hs1
    have hB : Below w.heap.size w w1 := (((Below.refl _ _).alloc (Nat.le_refl _) _ : Below w.heap.size w (w.alloc (Obj.cells Try.zeroCells77 77)))).trans (hb1.mono (by simp))
    have h0 : Blk w1 w.heap.size 77 (vals .i32 (fillTo cv 4096 0)) := by
      rw [← cells_new]
      exact (Blk.new w _ _).below hb1 (by simp)
    refine ⟨0, by omega, rfl, (h0.alloc _).row_other (k := w1.heap.size) (by omega) cs, Blk.row (Blk.new w1 _ _) cs, below_row (hB.alloc (by omega) _) (by omega) cs⟩
  case round =>
    have hs1 := hb1.size
    simp at hs1
    clear hb1
    obtain ⟨n, hn, rfl, h0, h1, hb⟩ := hrel
    have hne : w1.heap.size ≠ w.heap.size := by omega
    by_cases hlt : n < 4096
    · obtain ⟨k, hk⟩ : ∃ k, k = n % 2048 := ⟨_, rfl⟩
      have i0 : (n : Int) < 4096 := by omega
      have ff := h0.out.free n
      have cc := h0.out.cell (vals_get (i := n) (by rw [fillTo_len]; omega))
      generalize (fillTo cv 4096 n)[n]'(by rw [fillTo_len]; omega) = zc at cc
      have e3 : IntKind.i64.wrap ((n : Int) + 1) = ((n + 1 : Nat) : Int) := by rw [wrapI64 (by omega) (by omega)]; rfl
      have hk2 : (n : Int) % 2048 = (k : Int) := by omega
      have hm : Int.tmod (n : Int) 2048 = (k : Int) := by rw [Int.tmod_eq_emod_of_nonneg (by omega)]; omega
      have HK := Lib.hid hk
      have hkb : n < 2048 → k = n := by omega
      clear hk
      by_cases c1 : 2048 < n
      · have c1' : (2048 : Int) < n := by omega
        obtain ⟨m, hmn⟩ : ∃ m, m + n = 4096 := ⟨4096 - n, by omega⟩
        have w1 : IntKind.i64.wrap (4096 - (n : Int)) = (m : Int) := by rw [wrapI64 (by omega) (by omega)]; omega
        have cm := h0.out.cell (v := .int .i32 (cv m)) (i := m) (by rw [vals_get (by rw [fillTo_len]; omega), fillTo_lt _ _ _ _ (by omega) (by omega)])
        have im : (m : Int) < 4096 := by omega
        go_wp2_with fail
        go_still_tail 12, (by kernel_rfl)
        go_wp2_with fail
        refine ⟨⟨n + 1, by omega, by push_cast; rfl, ?_, (h1.out.other (a := ⟨w.heap.size, n, none⟩) hne _).drew, (hb.out.setCell (p := ⟨w.heap.size, n, none⟩) (by simp) _).drew⟩, by simp [intOf]; omega⟩
        rw [show cv m = cv n from cv_flip n m c1 hmn, ← fillTo_set]
        exact (h0.out.seti n (cv n)).drew
      · have c1' : ¬ (2048 : Int) < n := by omega
        have hk := HK.out
        by_cases c2 : 1024 < k
        · have c2' : (1024 : Int) < k := by omega
          obtain ⟨m, hmn⟩ : ∃ m, m + k = 2048 := ⟨2048 - k, by omega⟩
          have w1 : IntKind.i64.wrap (2048 - (k : Int)) = (m : Int) := by rw [wrapI64 (by omega) (by omega)]; omega
          have cm := h1.out.cell (v := .int .i64 (qt m)) (i := m) (by rw [HC.out, QT_get m (by omega)])
          have qm := qt_bd ⟨m, by omega⟩
          simp only at qm
          have im : (m : Int) < 1025 := by omega
          have w2 : IntKind.i32.wrap (qt m) = qt m := wrapI32 (by omega) (by omega)
          have w3 : IntKind.i32.wrap (-(qt m)) = -(qt m) := wrapI32 (by omega) (by omega)
          have HKN := Lib.hid (show k = n by omega)
          clear hk
          go_wp2_with fail
          go_still_tail 11, (by kernel_rfl)
          go_wp2_with fail
          refine ⟨⟨n + 1, by omega, by push_cast; rfl, ?_, (h1.out.other (a := ⟨w.heap.size, n, none⟩) hne _).drew, (hb.out.setCell (p := ⟨w.heap.size, n, none⟩) (by simp) _).drew⟩, by simp [intOf]; omega⟩
          rw [show -(qt m) = cv n from (cv_back n m (by omega) (by have := HKN.out; omega) (by have := HKN.out; omega)).symm, ← fillTo_set]
          exact (h0.out.seti n (cv n)).drew
        · have c2' : ¬ (1024 : Int) < k := by omega
          by_cases c3 : n = 2048
          · subst c3
            go_wp2_with fail
            refine ⟨⟨2049, by omega, rfl, ?_, h1.out.other (a := ⟨w.heap.size, 2048, none⟩) hne _, hb.out.setCell (p := ⟨w.heap.size, 2048, none⟩) (by simp) _⟩, by simp [intOf]⟩
            have h2 := h0.out.seti 2048 (-16777216)
            rw [← cv_half, fillTo_set] at h2
            rw [← cv_half]
            exact h2
          · have c3' : ¬ (n : Int) = 2048 := by omega
            have cm := h1.out.cell (v := .int .i64 (qt k)) (i := k) (by rw [HC.out, QT_get k (by omega)])
            have qm := qt_bd ⟨k, by omega⟩
            simp only at qm
            have im : (k : Int) < 1025 := by omega
            have w2 : IntKind.i32.wrap (qt k) = qt k := wrapI32 (by omega) (by omega)
            have HKN := Lib.hid (show k = n by omega)
            clear hk
            go_wp2_with fail
            go_still_tail 9, (by kernel_rfl)
            go_wp2_with fail
            refine ⟨⟨n + 1, by omega, by push_cast; rfl, ?_, (h1.out.other (a := ⟨w.heap.size, n, none⟩) hne _).drew, (hb.out.setCell (p := ⟨w.heap.size, n, none⟩) (by simp) _).drew⟩, by simp [intOf]; omega⟩
            rw [show qt k = cv n from by rw [HKN.out]; exact (cv_first n (by have := HKN.out; omega)).symm, ← fillTo_set]
            exact (h0.out.seti n (cv n)).drew
    · obtain rfl : n = 4096 := by omega
      go_wp2_with fail
      go_ret
      exact ⟨w.heap.size, Nat.le_refl _, rfl, h0.out, hb.out⟩
end Go.Proofs.Ytngldpeapcbbpaa.Bnd

/-
  The walks of Circle.Cos and Circle.Rise; no condition but those told.
-/
set_option linter.unusedVariables false
set_option linter.unusedSimpArgs false
namespace Go.Proofs.Ytngldpeapcbbpaa.Bnd
open Go.RowKit Go.Proofs.Ytngldpeapcbbpaa Go.Proofs.YtngldpeapcbbpaaW.PrintWords Go.Proofs.YtngldpeapcbbpaaW.PrintLast Go.Proofs.YtngldpeapcbbpaaW.PrintMore
theorem and_4095 (n : Int) : Go.bits .and .i64 n 4095 = n % 4096 := by
  have hc : (BitVec.ofInt 64 4095).toNat = 2 ^ 12 - 1 := by decide
  have key : (BitVec.ofInt 64 n &&& BitVec.ofInt 64 4095).toNat = (n % ((2 ^ 64 : Nat) : Int)).toNat % 2 ^ 12 := by
    rw [BitVec.toNat_and, BitVec.toNat_ofInt, hc, Nat.and_two_pow_sub_one_eq_mod]
  show IntKind.i64.wrap ((BitVec.ofInt 64 n &&& BitVec.ofInt 64 4095).toNat : Nat) = n % 4096
  rw [key, IntKind.wrap_i64]
  omega
/-- A table of cosines. -/
def Circ (w : World) (g : Nat) : Prop := Blk w g 77 (vals .i32 (fillTo cv 4096 4096))
def cosv (u : Int) : Int := cv (u % 4096).toNat
attribute [local irreducible] qt QT sel cv cb
theorem Cos_none (x : Int) (w : World) : Calls Try.prog 64 #[.pointer none, .int .i64 x] w fun e w' => e = .returned (.int .i32 0) ∧ w' = w := by
  go_enter Try.func64, Try.ntmps64
  go_wp2_with fail
  go_ret
  exact ⟨rfl, rfl⟩
theorem Cos_some {w : World} {g : Nat} (h : Circ w g) (x : Int) : Calls Try.prog 64 #[.pointer (some ⟨g, 0, none⟩), .int .i64 x] w fun e w' => e = .returned (.int .i32 (cosv x)) ∧ w' = w := by
  obtain ⟨m, hm⟩ : ∃ m : Nat, (m : Int) = x % 4096 := ⟨(x % 4096).toNat, by omega⟩
  have hb : Go.bits .and .i64 x 4095 = (m : Int) := by rw [and_4095, hm]
  have hv : cosv x = cv m := by unfold cosv; rw [← hm]; rfl
  have im : (m : Int) < 4096 := by omega
  have c := Blk.cell (v := .int .i32 (cv m)) (i := m) h (by rw [vals_get (by rw [fillTo_len]; omega), fillTo_lt _ _ _ _ (by omega) (by omega)])
  rw [hv]
  clear hv hm
  go_enter Try.func64, Try.ntmps64
  go_wp2_with fail
  go_ret
  exact ⟨rfl, rfl⟩
theorem Rise_none (x : Int) (w : World) : Calls Try.prog 68 #[.pointer none, .int .i64 x] w fun e w' => e = .returned (.int .i32 0) ∧ w' = w := by
  go_enter Try.func68, Try.ntmps68
  go_wp2_with fail
  go_ret
  exact ⟨rfl, rfl⟩
def risev (x : Int) : Int := if x < 0 then 0 else if 128 ≤ x then 16777216 else cosv (1024 - 4 * (2 * x + 1))
theorem Rise_some {w : World} {g : Nat} (h : Circ w g) (x : Int) : Calls Try.prog 68 #[.pointer (some ⟨g, 0, none⟩), .int .i64 x] w fun e w' => e = .returned (.int .i32 (risev x)) ∧ w' = w := by
  unfold risev
  by_cases h0 : x < 0
  · rw [if_pos h0]
    go_enter Try.func68, Try.ntmps68
    go_wp2_with fail
    go_ret
    exact ⟨rfl, rfl⟩
  · rw [if_neg h0]
    by_cases h1 : 128 ≤ x
    · rw [if_pos h1]
      go_enter Try.func68, Try.ntmps68
      go_wp2_with fail
      go_ret
      exact ⟨rfl, rfl⟩
    · rw [if_neg h1]
      have e1 : IntKind.i64.wrap (2 * x) = 2 * x := wrapI64 (by omega) (by omega)
      have e2 : IntKind.i64.wrap (2 * x + 1) = 2 * x + 1 := wrapI64 (by omega) (by omega)
      have e3 : IntKind.i64.wrap (4 * (2 * x + 1)) = 4 * (2 * x + 1) := wrapI64 (by omega) (by omega)
      have e4 : IntKind.i64.wrap (1024 - 4 * (2 * x + 1)) = 1024 - 4 * (2 * x + 1) := wrapI64 (by omega) (by omega)
      go_enter Try.func68, Try.ntmps68
      go_wp2_with (first
        | (go_at_call 64; refine (Cos_some h _).mono ?_; rintro e w1 ⟨rfl, rfl⟩))
      go_ret
      exact ⟨rfl, rfl⟩
end Go.Proofs.Ytngldpeapcbbpaa.Bnd

/-
  The rules of the cosines: plain laws; no condition.
-/
set_option linter.unusedVariables false
set_option linter.unusedSimpArgs false
namespace Go.Proofs.Ytngldpeapcbbpaa.Bnd
open Go.RowKit Go.Proofs.Ytngldpeapcbbpaa Go.Proofs.YtngldpeapcbbpaaW.PrintWords Go.Proofs.YtngldpeapcbbpaaW.PrintLast Go.Proofs.YtngldpeapcbbpaaW.PrintMore
theorem cos_512 : cosv 512 = 11863283 := by decide +kernel
theorem qt_end : qt 1024 = 0 := by decide +kernel
/-- The squares of both legs. -/
theorem leg : ∀ a : Fin 1025, qt a.val * qt a.val ≤ 281474976710656 ∧ -4294967296 < qt a.val * qt a.val + qt (1024 - a.val) * qt (1024 - a.val) - 281474976710656 ∧ qt a.val * qt a.val + qt (1024 - a.val) * qt (1024 - a.val) - 281474976710656 < 4294967296 := by decide +kernel
theorem falls : ∀ a : Fin 1024, qt (a.val + 1) < qt a.val := by decide +kernel
theorem cos_a (u : Int) (a : Nat) (ha : a ≤ 1024) (h : u % 4096 = a) : cosv u = qt a := by
  unfold cosv
  rw [h, Int.toNat_natCast, cv_first a ha]
theorem cos_b (u : Int) (a : Nat) (ha : a ≤ 1024) (h : u % 4096 = 2048 - a) : cosv u = -(qt a) := by
  unfold cosv
  rw [h, show (2048 - (a : Int)).toNat = 2048 - a from by omega]
  by_cases h1 : a = 1024
  · subst h1; rw [cv_first _ (by omega), show 2048 - 1024 = 1024 from rfl, qt_end]; rfl
  · exact cv_back _ a (by omega) (by omega) (by omega)
theorem cos_c (u : Int) (a : Nat) (ha : a ≤ 1024) (h : u % 4096 = 2048 + a) : cosv u = -(qt a) := by
  by_cases h0 : a = 0
  · subst h0; exact cos_b u 0 (by omega) (by omega)
  · unfold cosv
    rw [h, show (2048 + (a : Int)).toNat = 2048 + a from by omega, ← cv_flip (2048 + a) (2048 - a) (by omega) (by omega)]
    by_cases h1 : a = 1024
    · subst h1; rw [cv_first _ (by omega), show 2048 - 1024 = 1024 from rfl, qt_end]; rfl
    · exact cv_back _ a (by omega) (by omega) (by omega)
theorem cos_d (u : Int) (a : Nat) (ha : a ≤ 1024) (h : u % 4096 = (4096 - a) % 4096) : cosv u = qt a := by
  by_cases h0 : a = 0
  · subst h0; exact cos_a u 0 (by omega) (by omega)
  · unfold cosv
    rw [h, show ((4096 - (a : Int)) % 4096).toNat = 4096 - a from by omega, ← cv_flip (4096 - a) a (by omega) (by omega), cv_first _ ha]
theorem cos_cases (u : Int) : ∃ a : Nat, a ≤ 1024 ∧ ((u % 4096 = a ∧ cosv u = qt a) ∨ (u % 4096 = 2048 - a ∧ cosv u = -(qt a)) ∨ (u % 4096 = 2048 + a ∧ cosv u = -(qt a)) ∨ (u % 4096 = (4096 - a) % 4096 ∧ cosv u = qt a)) := by
  by_cases h1 : u % 4096 ≤ 1024
  · exact ⟨(u % 4096).toNat, by omega, .inl ⟨by omega, cos_a u _ (by omega) (by omega)⟩⟩
  · by_cases h2 : u % 4096 ≤ 2048
    · exact ⟨(2048 - u % 4096).toNat, by omega, .inr (.inl ⟨by omega, cos_b u _ (by omega) (by omega)⟩)⟩
    · by_cases h3 : u % 4096 ≤ 3072
      · exact ⟨(u % 4096 - 2048).toNat, by omega, .inr (.inr (.inl ⟨by omega, cos_c u _ (by omega) (by omega)⟩))⟩
      · exact ⟨(4096 - u % 4096).toNat, by omega, .inr (.inr (.inr ⟨by omega, cos_d u _ (by omega) (by omega)⟩))⟩
/-- What the rules say of any units. -/
theorem rules (u : Int) : cosv (-u) = cosv u ∧ cosv (u + 2048) = -(cosv u) ∧ cosv (u + 4096) = cosv u ∧ (-16777216 ≤ cosv u ∧ cosv u ≤ 16777216)
    ∧ (0 ≤ cosv u * cosv u ∧ cosv u * cosv u ≤ 281474976710656) ∧ (0 ≤ cosv (u - 1024) * cosv (u - 1024) ∧ cosv (u - 1024) * cosv (u - 1024) ≤ 281474976710656)
    ∧ -4294967296 < cosv u * cosv u + cosv (u - 1024) * cosv (u - 1024) - 281474976710656 ∧ cosv u * cosv u + cosv (u - 1024) * cosv (u - 1024) - 281474976710656 < 4294967296 := by
  obtain ⟨a, ha, h⟩ := cos_cases u
  obtain ⟨l0, l1, l2⟩ := leg ⟨a, by omega⟩
  obtain ⟨m0, _⟩ := leg ⟨1024 - a, by omega⟩
  have b := qt_bd ⟨a, by omega⟩
  have b2 := qt_bd ⟨1024 - a, by omega⟩
  simp only at l0 l1 l2 m0 b b2
  have n0 := Int.mul_nonneg b.1 b.1
  have n1 := Int.mul_nonneg b2.1 b2.1
  rcases h with ⟨h, e⟩ | ⟨h, e⟩ | ⟨h, e⟩ | ⟨h, e⟩
  · rw [cos_d (-u) a ha (by omega), cos_c (u + 2048) a ha (by omega), cos_a (u + 4096) a ha (by omega), cos_d (u - 1024) (1024 - a) (by omega) (by omega), e]
    refine ⟨rfl, rfl, rfl, by omega, by omega, by omega, by omega, by omega⟩
  · rw [cos_c (-u) a ha (by omega), cos_d (u + 2048) a ha (by omega), cos_b (u + 4096) a ha (by omega), cos_a (u - 1024) (1024 - a) (by omega) (by omega), e]
    simp only [Int.neg_mul_neg, Int.neg_neg]
    refine ⟨trivial, trivial, trivial, by omega, by omega, by omega, by omega, by omega⟩
  · rw [cos_b (-u) a ha (by omega), cos_a (u + 2048) a ha (by omega), cos_c (u + 4096) a ha (by omega), cos_b (u - 1024) (1024 - a) (by omega) (by omega), e]
    simp only [Int.neg_mul_neg, Int.neg_neg]
    refine ⟨trivial, trivial, trivial, by omega, by omega, by omega, by omega, by omega⟩
  · rw [cos_a (-u) a ha (by omega), cos_b (u + 2048) a ha (by omega), cos_d (u + 4096) a ha (by omega), cos_c (u - 1024) (1024 - a) (by omega) (by omega), e]
    simp only [Int.neg_mul_neg, Int.neg_neg]
    refine ⟨trivial, trivial, trivial, by omega, by omega, by omega, by omega, by omega⟩
end Go.Proofs.Ytngldpeapcbbpaa.Bnd

/-
  Words: numbers held to some bits, and rounded, as the program and the document have them; their walks. No condition but those told.
-/
set_option linter.unusedVariables false
set_option linter.unusedSimpArgs false
namespace Go.Proofs.Ytngldpeapcbbpaa.Art
open Go.RowKit Go.Proofs.Ytngldpeapcbbpaa

/-- A number, held between two. -/
def clampv (a b n : Int) : Int := if n < a then a else if b < n then b else n
theorem clamp_bd {a b : Int} (h : a ≤ b) (n : Int) : a ≤ clampv a b n ∧ clampv a b n ≤ b := by unfold clampv; split; omega; split <;> omega
theorem clamp_in {a b n : Int} (h0 : a ≤ n) (h1 : n ≤ b) : clampv a b n = n := by unfold clampv; rw [if_neg (by omega), if_neg (by omega)]
/-- A number, divided, to the nearest one. -/
def rdv (d n : Int) : Int := (n + d / 2) / d
theorem and_one (x : Int) : Go.bits .and .i64 x 1 = x % 2 := by
  have hc : (BitVec.ofInt 64 1).toNat = 2 ^ 1 - 1 := by decide
  have key : (BitVec.ofInt 64 x &&& BitVec.ofInt 64 1).toNat = (x % ((2 ^ 64 : Nat) : Int)).toNat % 2 ^ 1 := by
    rw [BitVec.toNat_and, BitVec.toNat_ofInt, hc, Nat.and_two_pow_sub_one_eq_mod]
  show IntKind.i64.wrap ((BitVec.ofInt 64 x &&& BitVec.ofInt 64 1).toNat : Nat) = x % 2
  rw [key, IntKind.wrap_i64]
  omega
set_option maxHeartbeats 1000000
theorem Sat16 (n : Int) (h0 : -9223372036854775808 ≤ n) (h1 : n < 9223372036854775808) (w : World) : Calls Try.prog 48 #[.int .i64 n, .int .i64 16] w fun e w' => e = .returned (.int .i64 (clampv (-32768) 32767 n)) ∧ w' = w := by
  unfold clampv
  by_cases c0 : n < -32768
  · rw [if_pos c0]
    go_enter Try.func48, Try.ntmps48
    go_wp2
    go_ret
    exact ⟨rfl, rfl⟩
  rw [if_neg c0]
  by_cases c1 : 32767 < n
  · rw [if_pos c1]
    go_enter Try.func48, Try.ntmps48
    go_wp2
    go_ret
    exact ⟨rfl, rfl⟩
  rw [if_neg c1]
  go_enter Try.func48, Try.ntmps48
  go_wp2
  go_ret
  exact ⟨rfl, rfl⟩
theorem Sat21 (n : Int) (h0 : -9223372036854775808 ≤ n) (h1 : n < 9223372036854775808) (w : World) : Calls Try.prog 48 #[.int .i64 n, .int .i64 21] w fun e w' => e = .returned (.int .i64 (clampv (-1048576) 1048575 n)) ∧ w' = w := by
  unfold clampv
  by_cases c0 : n < -1048576
  · rw [if_pos c0]
    go_enter Try.func48, Try.ntmps48
    go_wp2
    go_ret
    exact ⟨rfl, rfl⟩
  rw [if_neg c0]
  by_cases c1 : 1048575 < n
  · rw [if_pos c1]
    go_enter Try.func48, Try.ntmps48
    go_wp2
    go_ret
    exact ⟨rfl, rfl⟩
  rw [if_neg c1]
  go_enter Try.func48, Try.ntmps48
  go_wp2
  go_ret
  exact ⟨rfl, rfl⟩
theorem Sat26 (n : Int) (h0 : -9223372036854775808 ≤ n) (h1 : n < 9223372036854775808) (w : World) : Calls Try.prog 48 #[.int .i64 n, .int .i64 26] w fun e w' => e = .returned (.int .i64 (clampv (-33554432) 33554431 n)) ∧ w' = w := by
  unfold clampv
  by_cases c0 : n < -33554432
  · rw [if_pos c0]
    go_enter Try.func48, Try.ntmps48
    go_wp2
    go_ret
    exact ⟨rfl, rfl⟩
  rw [if_neg c0]
  by_cases c1 : 33554431 < n
  · rw [if_pos c1]
    go_enter Try.func48, Try.ntmps48
    go_wp2
    go_ret
    exact ⟨rfl, rfl⟩
  rw [if_neg c1]
  go_enter Try.func48, Try.ntmps48
  go_wp2
  go_ret
  exact ⟨rfl, rfl⟩
theorem Round4 (n : Int) (h0 : -1152921504606846976 ≤ n) (h1 : n ≤ 1152921504606846976) (w : World) : Calls Try.prog 54 #[.int .i64 n, .int .i64 4] w fun e w' => e = .returned (.int .i64 (rdv 16 n)) ∧ ∃ q, w' = w.drewN q := by
  have eq : n / 16 + n / 8 % 2 = rdv 16 n := by unfold rdv; omega
  have EQ := Lib.hid eq
  clear eq
  have an := and_one (n / 8)
  go_enter Try.func54, Try.ntmps54
  go_wp2
  go_quiet (fail)
  go_wp2
  go_ret
  exact ⟨congrArg (fun x => Ending.returned (.int .i64 x)) EQ.out, _, rfl⟩
theorem Round24 (n : Int) (h0 : -1152921504606846976 ≤ n) (h1 : n ≤ 1152921504606846976) (w : World) : Calls Try.prog 54 #[.int .i64 n, .int .i64 24] w fun e w' => e = .returned (.int .i64 (rdv 16777216 n)) ∧ ∃ q, w' = w.drewN q := by
  have eq : n / 16777216 + n / 8388608 % 2 = rdv 16777216 n := by unfold rdv; omega
  have EQ := Lib.hid eq
  clear eq
  have an := and_one (n / 8388608)
  go_enter Try.func54, Try.ntmps54
  go_wp2
  go_quiet (fail)
  go_wp2
  go_ret
  exact ⟨congrArg (fun x => Ending.returned (.int .i64 x)) EQ.out, _, rfl⟩
theorem Round27 (n : Int) (h0 : -1152921504606846976 ≤ n) (h1 : n ≤ 1152921504606846976) (w : World) : Calls Try.prog 54 #[.int .i64 n, .int .i64 27] w fun e w' => e = .returned (.int .i64 (rdv 134217728 n)) ∧ ∃ q, w' = w.drewN q := by
  have eq : n / 134217728 + n / 67108864 % 2 = rdv 134217728 n := by unfold rdv; omega
  have EQ := Lib.hid eq
  clear eq
  have an := and_one (n / 67108864)
  go_enter Try.func54, Try.ntmps54
  go_wp2
  go_quiet (fail)
  go_wp2
  go_ret
  exact ⟨congrArg (fun x => Ending.returned (.int .i64 x)) EQ.out, _, rfl⟩
theorem Round28 (n : Int) (h0 : -1152921504606846976 ≤ n) (h1 : n ≤ 1152921504606846976) (w : World) : Calls Try.prog 54 #[.int .i64 n, .int .i64 28] w fun e w' => e = .returned (.int .i64 (rdv 268435456 n)) ∧ ∃ q, w' = w.drewN q := by
  have eq : n / 268435456 + n / 134217728 % 2 = rdv 268435456 n := by unfold rdv; omega
  have EQ := Lib.hid eq
  clear eq
  have an := and_one (n / 134217728)
  go_enter Try.func54, Try.ntmps54
  go_wp2
  go_quiet (fail)
  go_wp2
  go_ret
  exact ⟨congrArg (fun x => Ending.returned (.int .i64 x)) EQ.out, _, rfl⟩
end Go.Proofs.Ytngldpeapcbbpaa.Art

/-
  Turning numbers by the table of cosines, twice: the numbers come back, but for a little. Plain theorems; no condition but those told.
-/
set_option linter.unusedVariables false
set_option linter.unusedSimpArgs false
namespace Go.Proofs.Ytngldpeapcbbpaa.Lap
open Go.Proofs.Ytngldpeapcbbpaa.Bnd Go.Proofs.Ytngldpeapcbbpaa.Art

/-! ### Sums -/
def sumTo (f : Nat → Int) : Nat → Int
  | 0 => 0
  | n + 1 => sumTo f n + f n
theorem sum_succ (f : Nat → Int) (n : Nat) : sumTo f (n + 1) = sumTo f n + f n := rfl
theorem sum_nil (f : Nat → Int) : sumTo f 0 = 0 := rfl
theorem sum_congr {f g : Nat → Int} : ∀ {n : Nat}, (∀ i, i < n → f i = g i) → sumTo f n = sumTo g n
  | 0, _ => rfl
  | n + 1, h => by rw [sum_succ, sum_succ, sum_congr (fun i hi => h i (by omega)), h n (by omega)]
theorem sum_add (f g : Nat → Int) : ∀ n, sumTo (fun i => f i + g i) n = sumTo f n + sumTo g n
  | 0 => rfl
  | n + 1 => by rw [sum_succ, sum_succ, sum_succ, sum_add f g n]; omega
theorem sum_mul (c : Int) (f : Nat → Int) : ∀ n, sumTo (fun i => c * f i) n = c * sumTo f n
  | 0 => by simp [sumTo]
  | n + 1 => by rw [sum_succ, sum_succ, sum_mul c f n, Int.mul_add]
theorem sum_neg (f : Nat → Int) : ∀ n, sumTo (fun i => -f i) n = -sumTo f n
  | 0 => rfl
  | n + 1 => by rw [sum_succ, sum_succ, sum_neg f n]; omega
theorem sum_zero : ∀ n, sumTo (fun _ => 0) n = 0
  | 0 => rfl
  | n + 1 => by rw [sum_succ, sum_zero n]; rfl
theorem sum_const (c : Int) : ∀ n : Nat, sumTo (fun _ => c) n = n * c
  | 0 => by simp [sumTo]
  | n + 1 => by rw [sum_succ, sum_const c n]; push_cast; rw [Int.add_mul, Int.one_mul]
theorem sum_front (f : Nat → Int) : ∀ n, sumTo f (n + 1) = f 0 + sumTo (fun i => f (i + 1)) n
  | 0 => by simp [sumTo]
  | n + 1 => by
    rw [sum_succ, sum_front f n, sum_succ]
    omega
theorem sum_append (f : Nat → Int) (a : Nat) : ∀ b, sumTo f (a + b) = sumTo f a + sumTo (fun i => f (a + i)) b
  | 0 => by simp [sumTo]
  | b + 1 => by
    have := sum_append f a b
    rw [← Nat.add_assoc, sum_succ, sum_succ, this]
    omega
theorem sum_rev (f : Nat → Int) : ∀ n, sumTo (fun i => f (n - 1 - i)) n = sumTo f n
  | 0 => rfl
  | n + 1 => by
    rw [sum_front]
    have h : sumTo (fun i => f (n + 1 - 1 - (i + 1))) n = sumTo (fun i => f (n - 1 - i)) n := sum_congr fun i hi => by congr 1; omega
    rw [h, sum_rev f n, sum_succ, Nat.add_sub_cancel, Nat.sub_zero]
    omega
theorem sum_swap (f : Nat → Nat → Int) (m : Nat) : ∀ n, sumTo (fun i => sumTo (fun j => f i j) m) n = sumTo (fun j => sumTo (fun i => f i j) n) m
  | 0 => by simp only [sumTo]; rw [sum_zero]
  | n + 1 => by
    rw [sum_succ, sum_swap f m n, ← sum_add]
    rfl
theorem sum_bd {f : Nat → Int} {B : Int} : ∀ {n : Nat}, (∀ i, i < n → -B ≤ f i ∧ f i ≤ B) → -(n * B) ≤ sumTo f n ∧ sumTo f n ≤ n * B
  | 0, _ => by simp [sumTo]
  | n + 1, h => by
    have h1 := sum_bd (f := f) (B := B) (n := n) (fun i hi => h i (by omega))
    have h2 := h n (by omega)
    rw [sum_succ]
    push_cast
    rw [Int.add_mul, Int.one_mul]
    omega
theorem sum_one (f : Nat → Int) (k : Nat) : ∀ n, sumTo (fun j => if j = k then f j else 0) n = if k < n then f k else 0
  | 0 => by simp [sumTo]
  | n + 1 => by
    rw [sum_succ, sum_one f k n]
    by_cases h1 : k < n
    · rw [if_pos h1, if_neg (show ¬ n = k by omega), if_pos (show k < n + 1 by omega)]; omega
    · by_cases h2 : n = k
      · subst h2; rw [if_neg h1, if_pos rfl, if_pos (show n < n + 1 by omega)]; omega
      · rw [if_neg h1, if_neg h2, if_neg (show ¬ k < n + 1 by omega)]; rfl
/-! ### What vanishes -/
theorem sum_blocks (h : Nat) : ∀ (q : Nat) (f : Nat → Int), (∀ i, f (i + h) = -f i) → sumTo f (q * (2 * h)) = 0
  | 0, f, _ => by rw [Nat.zero_mul]; rfl
  | q + 1, f, hf => by
    rw [Nat.add_mul, Nat.one_mul, sum_append, sum_blocks h q f hf, show 2 * h = h + h by omega, sum_append]
    have : sumTo (fun i => f (q * (h + h) + (h + i))) h = sumTo (fun i => -f (q * (h + h) + i)) h := sum_congr fun i hi => by
      rw [← hf]; congr 1; omega
    rw [this, sum_neg]
    omega
theorem cos_neg (u : Int) : cosv (-u) = cosv u := (rules u).1
theorem cos_half (u : Int) : cosv (u + 2048) = -(cosv u) := (rules u).2.1
theorem cos_bd (u : Int) : -16777216 ≤ cosv u ∧ cosv u ≤ 16777216 := (rules u).2.2.2.1
theorem cos_odd (u o : Int) : cosv (u + 2048 * (2 * o + 1)) = -(cosv u) := by
  rw [← cos_half]
  unfold cosv
  congr 2
  omega
theorem cos_turn (u o : Int) : cosv (u + 4096 * o) = cosv u := by
  unfold cosv
  congr 2
  omega
theorem cos_zero : cosv 0 = 16777216 := by decide +kernel
theorem split_two : ∀ (p m : Nat), 0 < m → m < 2 ^ p → ∃ s o, s < p ∧ m = 2 ^ s * (2 * o + 1)
  | 0, m, h0, h1 => by simp at h1; omega
  | p + 1, m, h0, h1 => by
    by_cases hm : m % 2 = 1
    · exact ⟨0, m / 2, by omega, by simp; omega⟩
    · obtain ⟨s, o, h2, h3⟩ := split_two p (m / 2) (by omega) (by rw [Nat.pow_succ] at h1; omega)
      exact ⟨s + 1, o, by omega, by rw [Nat.pow_succ, Nat.mul_comm (2 ^ s) 2, Nat.mul_assoc, ← h3]; omega⟩
/-- Over all places, the cosines of an even step vanish. -/
theorem vanish (p un : Nat) (hu : 2 ^ p * un = 512) (m : Nat) (h0 : 0 < m) (h1 : m < 2 ^ (p + 1)) : sumTo (fun i => cosv ((2 * (i : Int) + 1) * (2 * m * un))) (2 ^ p) = 0 := by
  obtain ⟨s, o, hs, hm⟩ := split_two (p + 1) m h0 h1
  have hu' : (2 : Int) ^ p * un = 512 := by
    have := congrArg (fun x : Nat => (x : Int)) hu
    simp only [Int.natCast_mul, Int.natCast_pow] at this
    exact this
  have hm' : (m : Int) = 2 ^ s * (2 * o + 1) := by
    have := congrArg (fun x : Nat => (x : Int)) hm
    simp only [Int.natCast_mul, Int.natCast_pow, Int.natCast_add] at this
    exact this
  cases s with
  | zero =>
    rw [Int.pow_zero, Int.one_mul] at hm'
    have key : sumTo (fun i => cosv ((2 * ((2 ^ p - 1 - i : Nat) : Int) + 1) * (2 * m * un))) (2 ^ p) = sumTo (fun i => -cosv ((2 * (i : Int) + 1) * (2 * m * un))) (2 ^ p) := sum_congr fun i hi => by
      rw [← cos_odd _ (o - (2 * o + 1) : Int), ← cos_neg]
      congr 1
      have e : ((2 ^ p - 1 - i : Nat) : Int) = 2 ^ p - 1 - i := by
        have : ((2 ^ p : Nat) : Int) = 2 ^ p := by push_cast; rfl
        omega
      rw [e, hm']
      grind
    have r := sum_rev (fun i => cosv ((2 * (i : Int) + 1) * (2 * m * un))) (2 ^ p)
    rw [key, sum_neg] at r
    omega
  | succ s =>
    have e1 : (2 : Nat) ^ p = 2 ^ s * (2 * 2 ^ (p - (s + 1))) := by
      rw [show 2 * 2 ^ (p - (s + 1)) = 2 ^ (p - (s + 1) + 1) by rw [Nat.pow_succ, Nat.mul_comm], ← Nat.pow_add]
      congr 1
      omega
    rw [e1]
    refine sum_blocks _ _ _ fun i => ?_
    rw [← cos_odd _ (o : Int)]
    congr 1
    have e2 : ((2 : Int) ^ (p - (s + 1))) * 2 ^ (s + 1) = 2 ^ p := by rw [← Int.pow_add]; congr 1; omega
    rw [hm']
    push_cast
    generalize (2 : Int) ^ (p - (s + 1)) = x at *
    generalize (2 : Int) ^ (s + 1) = y at *
    generalize (2 : Int) ^ p = z at *
    subst e2
    grind
end Go.Proofs.Ytngldpeapcbbpaa.Lap

/-
  The products of the table's cosines, checked one by one; turning twice gives the numbers back, but for a little. Plain theorems; no condition but those told.
-/
set_option linter.unusedVariables false
set_option linter.unusedSimpArgs false
namespace Go.Proofs.Ytngldpeapcbbpaa.Lap
open Go.Proofs.Ytngldpeapcbbpaa.Bnd Go.Proofs.Ytngldpeapcbbpaa.Art

def nearN (p b s d : Nat) : Bool := Nat.ble (Nat.add (Nat.mul (Nat.mul 2 p) b) 281474976710656) (Nat.add (Nat.mul 16777216 (Nat.add s d)) 536870912) && Nat.ble (Nat.mul 16777216 (Nat.add s d)) (Nat.add (Nat.mul (Nat.mul 2 p) b) 281475513581568)
theorem nearN_bd {p b s d : Nat} (h : nearN p b s d = true) : -536870912 ≤ 2 * ((p : Int) * b) - 16777216 * (((s : Int) - 16777216) + d) ∧ 2 * ((p : Int) * b) - 16777216 * (((s : Int) - 16777216) + d) ≤ 536870912 := by
  unfold nearN at h
  rw [Bool.and_eq_true, Nat.ble_eq, Nat.ble_eq] at h
  obtain ⟨h1, h2⟩ := h
  change 2 * p * b + 281474976710656 ≤ 16777216 * (s + d) + 536870912 at h1
  change 16777216 * (s + d) ≤ 2 * p * b + 281475513581568 at h2
  rw [Nat.mul_assoc] at h1 h2
  rw [← Int.natCast_mul]
  generalize p * b = q at *
  omega
def goN (p : Nat) : List Nat → List Nat → List Nat → Bool
  | b :: bs, s :: ss, d :: ds => cond (nearN p b s d) (goN p bs ss ds) false
  | _, _, _ => true
attribute [local irreducible] nearN
theorem goN_cons (p b s d : Nat) (bs ss ds : List Nat) : goN p (b :: bs) (s :: ss) (d :: ds) = cond (nearN p b s d) (goN p bs ss ds) false := rfl
def outN (Q : List Nat) : List Nat → List Nat → List Nat → Bool
  | p :: ps, s :: ss, ds => cond (goN p Q (s :: ss) (p :: ds)) (outN Q ps ss (p :: ds)) false
  | _, _, _ => true
set_option maxRecDepth 1000000
def QN : List Nat := [16777216, 16777195, 16777136, 16777038, 16776899, 16776723, 16776505, 16776249, 16775952, 16775618, 16775243, 16774829, 16774374, 16773882, 16773348, 16772776, 16772162, 16771512, 16770821, 16770092, 16769321, 16768513, 16767664, 16766776, 16765847, 16764882, 16763875, 16762830, 16761743, 16760619, 16759454, 16758251, 16757006, 16755725, 16754403, 16753043, 16751641, 16750202, 16748722, 16747203, 16745643, 16744047, 16742409, 16740733, 16739016, 16737262, 16735466, 16733632, 16731757, 16729846, 16727893, 16725902, 16723870, 16721801, 16719691, 16717542, 16715352, 16713126, 16710859, 16708553, 16706206, 16703822, 16701397, 16698933, 16696428, 16693888, 16691306, 16688686, 16686025, 16683327, 16680588, 16677811, 16674992, 16672138, 16669242, 16666308, 16663333, 16660321, 16657268, 16654177, 16651044, 16647876, 16644667, 16641420, 16638131, 16634806, 16631439, 16628035, 16624589, 16621108, 16617585, 16614024, 16610422, 16606784, 16603104, 16599387, 16595628, 16591834, 16587999, 16584126, 16580212, 16576262, 16572270, 16568241, 16564170, 16560064, 16555917, 16551732, 16547506, 16543244, 16538940, 16534599, 16530217, 16525800, 16521341, 16516845, 16512307, 16507734, 16503119, 16498467, 16493774, 16489046, 16484276, 16479469, 16474621, 16469737, 16464812, 16459850, 16454846, 16449808, 16444729, 16439613, 16434455, 16429262, 16424027, 16418756, 16413443, 16408096, 16402707, 16397282, 16391815, 16386313, 16380769, 16375188, 16369567, 16363911, 16358214, 16352480, 16346705, 16340894, 16335043, 16329155, 16323226, 16317262, 16311257, 16305215, 16299133, 16293015, 16286857, 16280661, 16274425, 16268155, 16261844, 16255496, 16249107, 16242683, 16236218, 16229717, 16223175, 16216599, 16209982, 16203328, 16196634, 16189905, 16183135, 16176328, 16169481, 16162600, 16155678, 16148720, 16141721, 16134687, 16127613, 16120503, 16113352, 16106167, 16098941, 16091679, 16084377, 16077040, 16069663, 16062249, 16054795, 16047308, 16039780, 16032216, 16024612, 16016973, 16009294, 16001579, 15993823, 15986034, 15978205, 15970339, 15962434, 15954494, 15946514, 15938497, 15930441, 15922351, 15914222, 15906056, 15897851, 15889611, 15881331, 15873015, 15864660, 15856271, 15847843, 15839378, 15830874, 15822335, 15813757, 15805143, 15796489, 15787802, 15779076, 15770314, 15761513, 15752677, 15743802, 15734891, 15725941, 15716957, 15707934, 15698876, 15689778, 15680646, 15671475, 15662269, 15653023, 15643745, 15634427, 15625074, 15615681, 15606255, 15596789, 15587288, 15577748, 15568175, 15558564, 15548917, 15539231, 15529511, 15519753, 15509959, 15500126, 15490261, 15480358, 15470419, 15460442, 15450431, 15440381, 15430296, 15420173, 15410017, 15399822, 15389593, 15379325, 15369024, 15358684, 15348309, 15337896, 15327451, 15316967, 15306449, 15295892, 15285302, 15274674, 15264011, 15253310, 15242577, 15231805, 15220999, 15210155, 15199278, 15188362, 15177412, 15166425, 15155405, 15144348, 15133256, 15122127, 15110965, 15099765, 15088530, 15077258, 15065954, 15054612, 15043236, 15031823, 15020377, 15008893, 14997375, 14985819, 14974232, 14962607, 14950949, 14939253, 14927525, 14915759, 14903960, 14892123, 14880255, 14868349, 14856410, 14844434, 14832426, 14820380, 14808301, 14796184, 14784037, 14771852, 14759634, 14747380, 14735093, 14722770, 14710413, 14698019, 14685594, 14673132, 14660637, 14648106, 14635542, 14622942, 14610309, 14597639, 14584938, 14572201, 14559431, 14546625, 14533787, 14520912, 14508005, 14495061, 14482087, 14469076, 14456033, 14442953, 14429842, 14416695, 14403515, 14390299, 14377053, 14363771, 14350456, 14337106, 14323724, 14310307, 14296857, 14283372, 14269856, 14256304, 14242720, 14229101, 14215450, 14201764, 14188046, 14174292, 14160508, 14146689, 14132838, 14118952, 14105035, 14091082, 14077098, 14063078, 14049029, 14034944, 14020828, 14006676, 13992494, 13978277, 13964028, 13949745, 13935432, 13921085, 13906706, 13892292, 13877848, 13863369, 13848859, 13834314, 13819740, 13805131, 13790491, 13775816, 13761112, 13746373, 13731603, 13716798, 13701965, 13687097, 13672199, 13657266, 13642303, 13627306, 13612279, 13597217, 13582127, 13567002, 13551847, 13536658, 13521439, 13506187, 13490904, 13475587, 13460242, 13444863, 13429454, 13414011, 13398539, 13383034, 13367498, 13351929, 13336332, 13320701, 13305040, 13289346, 13273623, 13257866, 13242080, 13226260, 13210413, 13194532, 13178621, 13162678, 13146706, 13130701, 13114666, 13098599, 13082504, 13066376, 13050218, 13034028, 13017809, 13001558, 12985277, 12968964, 12952624, 12936251, 12919849, 12903415, 12886953, 12870458, 12853934, 12837378, 12820795, 12804180, 12787536, 12770859, 12754155, 12737419, 12720654, 12703858, 12687034, 12670179, 12653295, 12636380, 12619437, 12602463, 12585460, 12568425, 12551364, 12534271, 12517150, 12499998, 12482818, 12465607, 12448368, 12431098, 12413802, 12396475, 12379119, 12361733, 12344320, 12326876, 12309404, 12291901, 12274372, 12256812, 12239225, 12221607, 12203962, 12186287, 12168584, 12150851, 12133092, 12115303, 12097487, 12079640, 12061767, 12043863, 12025933, 12007972, 11989986, 11971970, 11953926, 11935853, 11917754, 11899625, 11881469, 11863283, 11845072, 11826832, 11808565, 11790269, 11771947, 11753596, 11735218, 11716810, 11698378, 11679916, 11661428, 11642911, 11624369, 11605797, 11587199, 11568572, 11549920, 11531240, 11512534, 11493799, 11475039, 11456250, 11437435, 11418592, 11399724, 11380828, 11361906, 11342956, 11323981, 11304977, 11285948, 11266891, 11247810, 11228701, 11209567, 11190404, 11171217, 11152003, 11132763, 11113495, 11094203, 11074884, 11055540, 11036168, 11016772, 10997348, 10977900, 10958424, 10938925, 10919399, 10899848, 10880269, 10860667, 10841038, 10821384, 10801703, 10781999, 10762268, 10742513, 10722731, 10702925, 10683093, 10663237, 10643354, 10623449, 10603517, 10583561, 10563579, 10543574, 10523542, 10503486, 10483404, 10463300, 10443170, 10423016, 10402836, 10382633, 10362405, 10342153, 10321875, 10301575, 10281250, 10260901, 10240526, 10220129, 10199707, 10179262, 10158791, 10138299, 10117781, 10097240, 10076674, 10056086, 10035473, 10014838, 9994177, 9973495, 9952788, 9932059, 9911305, 9890529, 9869729, 9848906, 9828059, 9807191, 9786298, 9765383, 9744444, 9723483, 9702498, 9681491, 9660460, 9639409, 9618333, 9597236, 9576114, 9554971, 9533805, 9512617, 9491406, 9470174, 9448919, 9427642, 9406342, 9385021, 9363677, 9342311, 9320922, 9299514, 9278082, 9256629, 9235153, 9213657, 9192138, 9170598, 9149036, 9127454, 9105849, 9084223, 9062575, 9040907, 9019217, 8997506, 8975772, 8954020, 8932245, 8910450, 8888632, 8866795, 8844936, 8823057, 8801156, 8779236, 8757295, 8735333, 8713350, 8691347, 8669323, 8647279, 8625214, 8603130, 8581025, 8558901, 8536755, 8514591, 8492405, 8470200, 8447974, 8425730, 8403465, 8381180, 8358875, 8336552, 8314208, 8291845, 8269461, 8247060, 8224638, 8202198, 8179737, 8157258, 8134759, 8112241, 8089703, 8067148, 8044573, 8021980, 7999366, 7976735, 7954084, 7931415, 7908726, 7886020, 7863295, 7840552, 7817790, 7795011, 7772212, 7749395, 7726559, 7703707, 7680835, 7657946, 7635038, 7612113, 7589169, 7566208, 7543228, 7520232, 7497217, 7474185, 7451135, 7428068, 7404983, 7381881, 7358761, 7335625, 7312470, 7289299, 7266110, 7242905, 7219682, 7196443, 7173185, 7149912, 7126622, 7103315, 7079991, 7056651, 7033294, 7009921, 6986530, 6963124, 6939701, 6916262, 6892806, 6869335, 6845847, 6822343, 6798822, 6775287, 6751735, 6728167, 6704583, 6680984, 6657369, 6633738, 6610091, 6586430, 6562752, 6539059, 6515350, 6491627, 6467887, 6444133, 6420363, 6396580, 6372780, 6348966, 6325136, 6301292, 6277433, 6253559, 6229670, 6205767, 6181849, 6157917, 6133970, 6110009, 6086033, 6062043, 6038038, 6014021, 5989988, 5965941, 5941880, 5917806, 5893717, 5869614, 5845497, 5821368, 5797224, 5773067, 5748895, 5724711, 5700512, 5676301, 5652075, 5627838, 5603586, 5579322, 5555044, 5530754, 5506450, 5482133, 5457803, 5433461, 5409106, 5384738, 5360357, 5335964, 5311558, 5287140, 5262708, 5238266, 5213810, 5189342, 5164862, 5140370, 5115866, 5091350, 5066821, 5042281, 5017729, 4993165, 4968589, 4944002, 4919403, 4894793, 4870170, 4845537, 4820892, 4796237, 4771569, 4746891, 4722201, 4697500, 4672787, 4648064, 4623330, 4598585, 4573829, 4549063, 4524286, 4499498, 4474699, 4449891, 4425071, 4400242, 4375401, 4350551, 4325690, 4300819, 4275938, 4251047, 4226146, 4201235, 4176314, 4151384, 4126443, 4101493, 4076532, 4051563, 4026584, 4001596, 3976598, 3951591, 3926574, 3901548, 3876513, 3851469, 3826416, 3801354, 3776283, 3751203, 3726114, 3701017, 3675910, 3650796, 3625672, 3600540, 3575399, 3550250, 3525093, 3499927, 3474753, 3449571, 3424381, 3399183, 3373977, 3348763, 3323541, 3298311, 3273073, 3247828, 3222575, 3197315, 3172046, 3146771, 3121488, 3096198, 3070900, 3045596, 3020284, 2994965, 2969639, 2944306, 2918966, 2893619, 2868265, 2842905, 2817538, 2792164, 2766784, 2741397, 2716004, 2690604, 2665198, 2639786, 2614367, 2588943, 2563512, 2538075, 2512632, 2487184, 2461729, 2436269, 2410803, 2385331, 2359854, 2334371, 2308883, 2283389, 2257890, 2232386, 2206876, 2181361, 2155841, 2130316, 2104786, 2079251, 2053711, 2028167, 2002617, 1977062, 1951503, 1925940, 1900372, 1874799, 1849222, 1823641, 1798056, 1772466, 1746872, 1721274, 1695672, 1670066, 1644455, 1618842, 1593224, 1567602, 1541977, 1516348, 1490716, 1465080, 1439440, 1413798, 1388152, 1362503, 1336850, 1311195, 1285536, 1259874, 1234209, 1208542, 1182871, 1157198, 1131522, 1105843, 1080162, 1054478, 1028792, 1003103, 977412, 951719, 926023, 900325, 874625, 848923, 823219, 797513, 771806, 746096, 720385, 694672, 668957, 643241, 617523, 591804, 566083, 540361, 514638, 488914, 463188, 437462, 411734, 386005, 360276, 334545, 308814, 283082, 257350, 231617, 205883, 180149, 154414, 128679, 102943, 77208, 51472, 25736, 0]
def HN : List Nat := [33554432, 33554411, 33554352, 33554254, 33554115, 33553939, 33553721, 33553465, 33553168, 33552834, 33552459, 33552045, 33551590, 33551098, 33550564, 33549992, 33549378, 33548728, 33548037, 33547308, 33546537, 33545729, 33544880, 33543992, 33543063, 33542098, 33541091, 33540046, 33538959, 33537835, 33536670, 33535467, 33534222, 33532941, 33531619, 33530259, 33528857, 33527418, 33525938, 33524419, 33522859, 33521263, 33519625, 33517949, 33516232, 33514478, 33512682, 33510848, 33508973, 33507062, 33505109, 33503118, 33501086, 33499017, 33496907, 33494758, 33492568, 33490342, 33488075, 33485769, 33483422, 33481038, 33478613, 33476149, 33473644, 33471104, 33468522, 33465902, 33463241, 33460543, 33457804, 33455027, 33452208, 33449354, 33446458, 33443524, 33440549, 33437537, 33434484, 33431393, 33428260, 33425092, 33421883, 33418636, 33415347, 33412022, 33408655, 33405251, 33401805, 33398324, 33394801, 33391240, 33387638, 33384000, 33380320, 33376603, 33372844, 33369050, 33365215, 33361342, 33357428, 33353478, 33349486, 33345457, 33341386, 33337280, 33333133, 33328948, 33324722, 33320460, 33316156, 33311815, 33307433, 33303016, 33298557, 33294061, 33289523, 33284950, 33280335, 33275683, 33270990, 33266262, 33261492, 33256685, 33251837, 33246953, 33242028, 33237066, 33232062, 33227024, 33221945, 33216829, 33211671, 33206478, 33201243, 33195972, 33190659, 33185312, 33179923, 33174498, 33169031, 33163529, 33157985, 33152404, 33146783, 33141127, 33135430, 33129696, 33123921, 33118110, 33112259, 33106371, 33100442, 33094478, 33088473, 33082431, 33076349, 33070231, 33064073, 33057877, 33051641, 33045371, 33039060, 33032712, 33026323, 33019899, 33013434, 33006933, 33000391, 32993815, 32987198, 32980544, 32973850, 32967121, 32960351, 32953544, 32946697, 32939816, 32932894, 32925936, 32918937, 32911903, 32904829, 32897719, 32890568, 32883383, 32876157, 32868895, 32861593, 32854256, 32846879, 32839465, 32832011, 32824524, 32816996, 32809432, 32801828, 32794189, 32786510, 32778795, 32771039, 32763250, 32755421, 32747555, 32739650, 32731710, 32723730, 32715713, 32707657, 32699567, 32691438, 32683272, 32675067, 32666827, 32658547, 32650231, 32641876, 32633487, 32625059, 32616594, 32608090, 32599551, 32590973, 32582359, 32573705, 32565018, 32556292, 32547530, 32538729, 32529893, 32521018, 32512107, 32503157, 32494173, 32485150, 32476092, 32466994, 32457862, 32448691, 32439485, 32430239, 32420961, 32411643, 32402290, 32392897, 32383471, 32374005, 32364504, 32354964, 32345391, 32335780, 32326133, 32316447, 32306727, 32296969, 32287175, 32277342, 32267477, 32257574, 32247635, 32237658, 32227647, 32217597, 32207512, 32197389, 32187233, 32177038, 32166809, 32156541, 32146240, 32135900, 32125525, 32115112, 32104667, 32094183, 32083665, 32073108, 32062518, 32051890, 32041227, 32030526, 32019793, 32009021, 31998215, 31987371, 31976494, 31965578, 31954628, 31943641, 31932621, 31921564, 31910472, 31899343, 31888181, 31876981, 31865746, 31854474, 31843170, 31831828, 31820452, 31809039, 31797593, 31786109, 31774591, 31763035, 31751448, 31739823, 31728165, 31716469, 31704741, 31692975, 31681176, 31669339, 31657471, 31645565, 31633626, 31621650, 31609642, 31597596, 31585517, 31573400, 31561253, 31549068, 31536850, 31524596, 31512309, 31499986, 31487629, 31475235, 31462810, 31450348, 31437853, 31425322, 31412758, 31400158, 31387525, 31374855, 31362154, 31349417, 31336647, 31323841, 31311003, 31298128, 31285221, 31272277, 31259303, 31246292, 31233249, 31220169, 31207058, 31193911, 31180731, 31167515, 31154269, 31140987, 31127672, 31114322, 31100940, 31087523, 31074073, 31060588, 31047072, 31033520, 31019936, 31006317, 30992666, 30978980, 30965262, 30951508, 30937724, 30923905, 30910054, 30896168, 30882251, 30868298, 30854314, 30840294, 30826245, 30812160, 30798044, 30783892, 30769710, 30755493, 30741244, 30726961, 30712648, 30698301, 30683922, 30669508, 30655064, 30640585, 30626075, 30611530, 30596956, 30582347, 30567707, 30553032, 30538328, 30523589, 30508819, 30494014, 30479181, 30464313, 30449415, 30434482, 30419519, 30404522, 30389495, 30374433, 30359343, 30344218, 30329063, 30313874, 30298655, 30283403, 30268120, 30252803, 30237458, 30222079, 30206670, 30191227, 30175755, 30160250, 30144714, 30129145, 30113548, 30097917, 30082256, 30066562, 30050839, 30035082, 30019296, 30003476, 29987629, 29971748, 29955837, 29939894, 29923922, 29907917, 29891882, 29875815, 29859720, 29843592, 29827434, 29811244, 29795025, 29778774, 29762493, 29746180, 29729840, 29713467, 29697065, 29680631, 29664169, 29647674, 29631150, 29614594, 29598011, 29581396, 29564752, 29548075, 29531371, 29514635, 29497870, 29481074, 29464250, 29447395, 29430511, 29413596, 29396653, 29379679, 29362676, 29345641, 29328580, 29311487, 29294366, 29277214, 29260034, 29242823, 29225584, 29208314, 29191018, 29173691, 29156335, 29138949, 29121536, 29104092, 29086620, 29069117, 29051588, 29034028, 29016441, 28998823, 28981178, 28963503, 28945800, 28928067, 28910308, 28892519, 28874703, 28856856, 28838983, 28821079, 28803149, 28785188, 28767202, 28749186, 28731142, 28713069, 28694970, 28676841, 28658685, 28640499, 28622288, 28604048, 28585781, 28567485, 28549163, 28530812, 28512434, 28494026, 28475594, 28457132, 28438644, 28420127, 28401585, 28383013, 28364415, 28345788, 28327136, 28308456, 28289750, 28271015, 28252255, 28233466, 28214651, 28195808, 28176940, 28158044, 28139122, 28120172, 28101197, 28082193, 28063164, 28044107, 28025026, 28005917, 27986783, 27967620, 27948433, 27929219, 27909979, 27890711, 27871419, 27852100, 27832756, 27813384, 27793988, 27774564, 27755116, 27735640, 27716141, 27696615, 27677064, 27657485, 27637883, 27618254, 27598600, 27578919, 27559215, 27539484, 27519729, 27499947, 27480141, 27460309, 27440453, 27420570, 27400665, 27380733, 27360777, 27340795, 27320790, 27300758, 27280702, 27260620, 27240516, 27220386, 27200232, 27180052, 27159849, 27139621, 27119369, 27099091, 27078791, 27058466, 27038117, 27017742, 26997345, 26976923, 26956478, 26936007, 26915515, 26894997, 26874456, 26853890, 26833302, 26812689, 26792054, 26771393, 26750711, 26730004, 26709275, 26688521, 26667745, 26646945, 26626122, 26605275, 26584407, 26563514, 26542599, 26521660, 26500699, 26479714, 26458707, 26437676, 26416625, 26395549, 26374452, 26353330, 26332187, 26311021, 26289833, 26268622, 26247390, 26226135, 26204858, 26183558, 26162237, 26140893, 26119527, 26098138, 26076730, 26055298, 26033845, 26012369, 25990873, 25969354, 25947814, 25926252, 25904670, 25883065, 25861439, 25839791, 25818123, 25796433, 25774722, 25752988, 25731236, 25709461, 25687666, 25665848, 25644011, 25622152, 25600273, 25578372, 25556452, 25534511, 25512549, 25490566, 25468563, 25446539, 25424495, 25402430, 25380346, 25358241, 25336117, 25313971, 25291807, 25269621, 25247416, 25225190, 25202946, 25180681, 25158396, 25136091, 25113768, 25091424, 25069061, 25046677, 25024276, 25001854, 24979414, 24956953, 24934474, 24911975, 24889457, 24866919, 24844364, 24821789, 24799196, 24776582, 24753951, 24731300, 24708631, 24685942, 24663236, 24640511, 24617768, 24595006, 24572227, 24549428, 24526611, 24503775, 24480923, 24458051, 24435162, 24412254, 24389329, 24366385, 24343424, 24320444, 24297448, 24274433, 24251401, 24228351, 24205284, 24182199, 24159097, 24135977, 24112841, 24089686, 24066515, 24043326, 24020121, 23996898, 23973659, 23950401, 23927128, 23903838, 23880531, 23857207, 23833867, 23810510, 23787137, 23763746, 23740340, 23716917, 23693478, 23670022, 23646551, 23623063, 23599559, 23576038, 23552503, 23528951, 23505383, 23481799, 23458200, 23434585, 23410954, 23387307, 23363646, 23339968, 23316275, 23292566, 23268843, 23245103, 23221349, 23197579, 23173796, 23149996, 23126182, 23102352, 23078508, 23054649, 23030775, 23006886, 22982983, 22959065, 22935133, 22911186, 22887225, 22863249, 22839259, 22815254, 22791237, 22767204, 22743157, 22719096, 22695022, 22670933, 22646830, 22622713, 22598584, 22574440, 22550283, 22526111, 22501927, 22477728, 22453517, 22429291, 22405054, 22380802, 22356538, 22332260, 22307970, 22283666, 22259349, 22235019, 22210677, 22186322, 22161954, 22137573, 22113180, 22088774, 22064356, 22039924, 22015482, 21991026, 21966558, 21942078, 21917586, 21893082, 21868566, 21844037, 21819497, 21794945, 21770381, 21745805, 21721218, 21696619, 21672009, 21647386, 21622753, 21598108, 21573453, 21548785, 21524107, 21499417, 21474716, 21450003, 21425280, 21400546, 21375801, 21351045, 21326279, 21301502, 21276714, 21251915, 21227107, 21202287, 21177458, 21152617, 21127767, 21102906, 21078035, 21053154, 21028263, 21003362, 20978451, 20953530, 20928600, 20903659, 20878709, 20853748, 20828779, 20803800, 20778812, 20753814, 20728807, 20703790, 20678764, 20653729, 20628685, 20603632, 20578570, 20553499, 20528419, 20503330, 20478233, 20453126, 20428012, 20402888, 20377756, 20352615, 20327466, 20302309, 20277143, 20251969, 20226787, 20201597, 20176399, 20151193, 20125979, 20100757, 20075527, 20050289, 20025044, 19999791, 19974531, 19949262, 19923987, 19898704, 19873414, 19848116, 19822812, 19797500, 19772181, 19746855, 19721522, 19696182, 19670835, 19645481, 19620121, 19594754, 19569380, 19544000, 19518613, 19493220, 19467820, 19442414, 19417002, 19391583, 19366159, 19340728, 19315291, 19289848, 19264400, 19238945, 19213485, 19188019, 19162547, 19137070, 19111587, 19086099, 19060605, 19035106, 19009602, 18984092, 18958577, 18933057, 18907532, 18882002, 18856467, 18830927, 18805383, 18779833, 18754278, 18728719, 18703156, 18677588, 18652015, 18626438, 18600857, 18575272, 18549682, 18524088, 18498490, 18472888, 18447282, 18421671, 18396058, 18370440, 18344818, 18319193, 18293564, 18267932, 18242296, 18216656, 18191014, 18165368, 18139719, 18114066, 18088411, 18062752, 18037090, 18011425, 17985758, 17960087, 17934414, 17908738, 17883059, 17857378, 17831694, 17806008, 17780319, 17754628, 17728935, 17703239, 17677541, 17651841, 17626139, 17600435, 17574729, 17549022, 17523312, 17497601, 17471888, 17446173, 17420457, 17394739, 17369020, 17343299, 17317577, 17291854, 17266130, 17240404, 17214678, 17188950, 17163221, 17137492, 17111761, 17086030, 17060298, 17034566, 17008833, 16983099, 16957365, 16931630, 16905895, 16880159, 16854424, 16828688, 16802952, 16777216, 16751480, 16725744, 16700008, 16674273, 16648537, 16622802, 16597067, 16571333, 16545599, 16519866, 16494134, 16468402, 16442671, 16416940, 16391211, 16365482, 16339754, 16314028, 16288302, 16262578, 16236855, 16211133, 16185412, 16159693, 16133975, 16108259, 16082544, 16056831, 16031120, 16005410, 15979703, 15953997, 15928293, 15902591, 15876891, 15851193, 15825497, 15799804, 15774113, 15748424, 15722738, 15697054, 15671373, 15645694, 15620018, 15594345, 15568674, 15543007, 15517342, 15491680, 15466021, 15440366, 15414713, 15389064, 15363418, 15337776, 15312136, 15286500, 15260868, 15235239, 15209614, 15183992, 15158374, 15132761, 15107150, 15081544, 15055942, 15030344, 15004750, 14979160, 14953575, 14927994, 14902417, 14876844, 14851276, 14825713, 14800154, 14774599, 14749049, 14723505, 14697965, 14672430, 14646900, 14621375, 14595855, 14570340, 14544830, 14519326, 14493827, 14468333, 14442845, 14417362, 14391885, 14366413, 14340947, 14315487, 14290032, 14264584, 14239141, 14213704, 14188273, 14162849, 14137430, 14112018, 14086612, 14061212, 14035819, 14010432, 13985052, 13959678, 13934311, 13908951, 13883597, 13858250, 13832910, 13807577, 13782251, 13756932, 13731620, 13706316, 13681018, 13655728, 13630445, 13605170, 13579901, 13554641, 13529388, 13504143, 13478905, 13453675, 13428453, 13403239, 13378033, 13352835, 13327645, 13302463, 13277289, 13252123, 13226966, 13201817, 13176676, 13151544, 13126420, 13101306, 13076199, 13051102, 13026013, 13000933, 12975862, 12950800, 12925747, 12900703, 12875668, 12850642, 12825625, 12800618, 12775620, 12750632, 12725653, 12700684, 12675723, 12650773, 12625832, 12600902, 12575981, 12551070, 12526169, 12501278, 12476397, 12451526, 12426665, 12401815, 12376974, 12352145, 12327325, 12302517, 12277718, 12252930, 12228153, 12203387, 12178631, 12153886, 12129152, 12104429, 12079716, 12055015, 12030325, 12005647, 11980979, 11956324, 11931679, 11907046, 11882423, 11857813, 11833214, 11808627, 11784051, 11759487, 11734935, 11710395, 11685866, 11661350, 11636846, 11612354, 11587874, 11563406, 11538950, 11514508, 11490076, 11465658, 11441252, 11416859, 11392478, 11368110, 11343755, 11319413, 11295083, 11270766, 11246462, 11222172, 11197894, 11173630, 11149378, 11125141, 11100915, 11076704, 11052505, 11028321, 11004149, 10979992, 10955848, 10931719, 10907602, 10883499, 10859410, 10835336, 10811275, 10787228, 10763195, 10739178, 10715173, 10691183, 10667207, 10643246, 10619299, 10595367, 10571449, 10547546, 10523657, 10499783, 10475924, 10452080, 10428250, 10404436, 10380636, 10356853, 10333083, 10309329, 10285589, 10261866, 10238157, 10214464, 10190786, 10167125, 10143478, 10119847, 10096232, 10072633, 10049049, 10025481, 10001929, 9978394, 9954873, 9931369, 9907881, 9884410, 9860954, 9837515, 9814092, 9790686, 9767295, 9743922, 9720565, 9697225, 9673901, 9650594, 9627304, 9604031, 9580773, 9557534, 9534311, 9511106, 9487917, 9464746, 9441591, 9418455, 9395335, 9372233, 9349148, 9326081, 9303031, 9279999, 9256984, 9233988, 9211008, 9188047, 9165103, 9142178, 9119270, 9096381, 9073509, 9050657, 9027821, 9005004, 8982205, 8959426, 8936664, 8913921, 8891196, 8868490, 8845801, 8823132, 8800481, 8777850, 8755236, 8732643, 8710068, 8687513, 8664975, 8642457, 8619958, 8597479, 8575018, 8552578, 8530156, 8507755, 8485371, 8463008, 8440664, 8418341, 8396036, 8373751, 8351486, 8329242, 8307016, 8284811, 8262625, 8240461, 8218315, 8196191, 8174086, 8152002, 8129937, 8107893, 8085869, 8063866, 8041883, 8019921, 7997980, 7976060, 7954159, 7932280, 7910421, 7888584, 7866766, 7844971, 7823196, 7801444, 7779710, 7757999, 7736309, 7714641, 7692993, 7671367, 7649762, 7628180, 7606618, 7585078, 7563559, 7542063, 7520587, 7499134, 7477702, 7456294, 7434905, 7413539, 7392195, 7370874, 7349574, 7328297, 7307042, 7285810, 7264599, 7243411, 7222245, 7201102, 7179980, 7158883, 7137807, 7116756, 7095725, 7074718, 7053733, 7032772, 7011833, 6990918, 6970025, 6949157, 6928310, 6907487, 6886687, 6865911, 6845157, 6824428, 6803721, 6783039, 6762378, 6741743, 6721130, 6700542, 6679976, 6659435, 6638917, 6618425, 6597954, 6577509, 6557087, 6536690, 6516315, 6495966, 6475641, 6455341, 6435063, 6414811, 6394583, 6374380, 6354200, 6334046, 6313916, 6293812, 6273730, 6253674, 6233642, 6213637, 6193655, 6173699, 6153767, 6133862, 6113979, 6094123, 6074291, 6054485, 6034703, 6014948, 5995217, 5975513, 5955832, 5936178, 5916549, 5896947, 5877368, 5857817, 5838291, 5818792, 5799316, 5779868, 5760444, 5741048, 5721676, 5702332, 5683013, 5663721, 5644453, 5625213, 5605999, 5586812, 5567649, 5548515, 5529406, 5510325, 5491268, 5472239, 5453235, 5434260, 5415310, 5396388, 5377492, 5358624, 5339781, 5320966, 5302177, 5283417, 5264682, 5245976, 5227296, 5208644, 5190017, 5171419, 5152847, 5134305, 5115788, 5097300, 5078838, 5060406, 5041998, 5023620, 5005269, 4986947, 4968651, 4950384, 4932144, 4913933, 4895747, 4877591, 4859462, 4841363, 4823290, 4805246, 4787230, 4769244, 4751283, 4733353, 4715449, 4697576, 4679729, 4661913, 4644124, 4626365, 4608632, 4590929, 4573254, 4555609, 4537991, 4520404, 4502844, 4485315, 4467812, 4450340, 4432896, 4415483, 4398097, 4380741, 4363414, 4346118, 4328848, 4311609, 4294398, 4277218, 4260066, 4242945, 4225852, 4208791, 4191756, 4174753, 4157779, 4140836, 4123921, 4107037, 4090182, 4073358, 4056562, 4039797, 4023061, 4006357, 3989680, 3973036, 3956421, 3939838, 3923282, 3906758, 3890263, 3873801, 3857367, 3840965, 3824592, 3808252, 3791939, 3775658, 3759407, 3743188, 3726998, 3710840, 3694712, 3678617, 3662550, 3646515, 3630510, 3614538, 3598595, 3582684, 3566803, 3550956, 3535136, 3519350, 3503593, 3487870, 3472176, 3456515, 3440884, 3425287, 3409718, 3394182, 3378677, 3363205, 3347762, 3332353, 3316974, 3301629, 3286312, 3271029, 3255777, 3240558, 3225369, 3210214, 3195089, 3179999, 3164937, 3149910, 3134913, 3119950, 3105017, 3090119, 3075251, 3060418, 3045613, 3030843, 3016104, 3001400, 2986725, 2972085, 2957476, 2942902, 2928357, 2913847, 2899368, 2884924, 2870510, 2856131, 2841784, 2827471, 2813188, 2798939, 2784722, 2770540, 2756388, 2742272, 2728187, 2714138, 2700118, 2686134, 2672181, 2658264, 2644378, 2630527, 2616708, 2602924, 2589170, 2575452, 2561766, 2548115, 2534496, 2520912, 2507360, 2493844, 2480359, 2466909, 2453492, 2440110, 2426760, 2413445, 2400163, 2386917, 2373701, 2360521, 2347374, 2334263, 2321183, 2308140, 2295129, 2282155, 2269211, 2256304, 2243429, 2230591, 2217785, 2205015, 2192278, 2179577, 2166907, 2154274, 2141674, 2129110, 2116579, 2104084, 2091622, 2079197, 2066803, 2054446, 2042123, 2029836, 2017582, 2005364, 1993179, 1981032, 1968915, 1956836, 1944790, 1932782, 1920806, 1908867, 1896961, 1885093, 1873256, 1861457, 1849691, 1837963, 1826267, 1814609, 1802984, 1791397, 1779841, 1768323, 1756839, 1745393, 1733980, 1722604, 1711262, 1699958, 1688686, 1677451, 1666251, 1655089, 1643960, 1632868, 1621811, 1610791, 1599804, 1588854, 1577938, 1567061, 1556217, 1545411, 1534639, 1523906, 1513205, 1502542, 1491914, 1481324, 1470767, 1460249, 1449765, 1439320, 1428907, 1418532, 1408192, 1397891, 1387623, 1377394, 1367199, 1357043, 1346920, 1336835, 1326785, 1316774, 1306797, 1296858, 1286955, 1277090, 1267257, 1257463, 1247705, 1237985, 1228299, 1218652, 1209041, 1199468, 1189928, 1180427, 1170961, 1161535, 1152142, 1142789, 1133471, 1124193, 1114947, 1105741, 1096570, 1087438, 1078340, 1069282, 1060259, 1051275, 1042325, 1033414, 1024539, 1015703, 1006902, 998140, 989414, 980727, 972073, 963459, 954881, 946342, 937838, 929373, 920945, 912556, 904201, 895885, 887605, 879365, 871160, 862994, 854865, 846775, 838719, 830702, 822722, 814782, 806877, 799011, 791182, 783393, 775637, 767922, 760243, 752604, 745000, 737436, 729908, 722421, 714967, 707553, 700176, 692839, 685537, 678275, 671049, 663864, 656713, 649603, 642529, 635495, 628496, 621538, 614616, 607735, 600888, 594081, 587311, 580582, 573888, 567234, 560617, 554041, 547499, 540998, 534533, 528109, 521720, 515372, 509061, 502791, 496555, 490359, 484201, 478083, 472001, 465959, 459954, 453990, 448061, 442173, 436322, 430511, 424736, 419002, 413305, 407649, 402028, 396447, 390903, 385401, 379934, 374509, 369120, 363773, 358460, 353189, 347954, 342761, 337603, 332487, 327408, 322370, 317366, 312404, 307479, 302595, 297747, 292940, 288170, 283442, 278749, 274097, 269482, 264909, 260371, 255875, 251416, 246999, 242617, 238276, 233972, 229710, 225484, 221299, 217152, 213046, 208975, 204946, 200954, 197004, 193090, 189217, 185382, 181588, 177829, 174112, 170432, 166794, 163192, 159631, 156108, 152627, 149181, 145777, 142410, 139085, 135796, 132549, 129340, 126172, 123039, 119948, 116895, 113883, 110908, 107974, 105078, 102224, 99405, 96628, 93889, 91191, 88530, 85910, 83328, 80788, 78283, 75819, 73394, 71010, 68663, 66357, 64090, 61864, 59674, 57525, 55415, 53346, 51314, 49323, 47370, 45459, 43584, 41750, 39954, 38200, 36483, 34807, 33169, 31573, 30013, 28494, 27014, 25575, 24173, 22813, 21491, 20210, 18965, 17762, 16597, 15473, 14386, 13341, 12334, 11369, 10440, 9552, 8703, 7895, 7124, 6395, 5704, 5054, 4440, 3868, 3334, 2842, 2387, 1973, 1598, 1264, 967, 711, 493, 317, 178, 80, 21, 0]
theorem QN_QT : QN.map (fun n : Nat => (n : Int)) = QT := by decide +kernel
theorem HN_HT : HN.map (fun n : Nat => (n : Int) - 16777216) = QT ++ (QT.reverse.drop 1).map (fun x => -x) := by decide +kernel
theorem chunk0 : outN QN ((QN.drop (128 * 0)).take 128) (HN.drop (128 * 0)) (QN.take (128 * 0)).reverse = true := by decide +kernel
theorem chunk1 : outN QN ((QN.drop (128 * 1)).take 128) (HN.drop (128 * 1)) (QN.take (128 * 1)).reverse = true := by decide +kernel
theorem chunk2 : outN QN ((QN.drop (128 * 2)).take 128) (HN.drop (128 * 2)) (QN.take (128 * 2)).reverse = true := by decide +kernel
theorem chunk3 : outN QN ((QN.drop (128 * 3)).take 128) (HN.drop (128 * 3)) (QN.take (128 * 3)).reverse = true := by decide +kernel
theorem chunk4 : outN QN ((QN.drop (128 * 4)).take 128) (HN.drop (128 * 4)) (QN.take (128 * 4)).reverse = true := by decide +kernel
theorem chunk5 : outN QN ((QN.drop (128 * 5)).take 128) (HN.drop (128 * 5)) (QN.take (128 * 5)).reverse = true := by decide +kernel
theorem chunk6 : outN QN ((QN.drop (128 * 6)).take 128) (HN.drop (128 * 6)) (QN.take (128 * 6)).reverse = true := by decide +kernel
theorem chunk7 : outN QN ((QN.drop (128 * 7)).take 128) (HN.drop (128 * 7)) (QN.take (128 * 7)).reverse = true := by decide +kernel
theorem chunk8 : outN QN ((QN.drop (128 * 8)).take 128) (HN.drop (128 * 8)) (QN.take (128 * 8)).reverse = true := by decide +kernel
end Go.Proofs.Ytngldpeapcbbpaa.Lap

/-
  The products of the table's cosines, checked one by one; turning twice gives the numbers back, but for a little. Plain theorems; no condition but those told.
-/
set_option linter.unusedVariables false
set_option linter.unusedSimpArgs false
set_option maxRecDepth 100000
namespace Go.Proofs.Ytngldpeapcbbpaa.Lap
open Go.Proofs.Ytngldpeapcbbpaa.Bnd Go.Proofs.Ytngldpeapcbbpaa.Art

attribute [local irreducible] nearN
theorem goN_at (p : Nat) : ∀ (bs ss ds : List Nat), goN p bs ss ds = true → ∀ i, i < bs.length → i < ss.length → i < ds.length → nearN p (bs.getD i 0) (ss.getD i 0) (ds.getD i 0) = true
  | b :: bs, s :: ss, d :: ds, h, i, h1, h2, h3 => by
    rw [goN_cons] at h
    cases hn : nearN p b s d with
    | false => rw [hn] at h; cases h
    | true =>
      rw [hn] at h
      cases i with
      | zero => exact hn
      | succ i => exact goN_at p bs ss ds h i (by simpa using h1) (by simpa using h2) (by simpa using h3)
  | [], _, _, _, i, h1, _, _ => by simp at h1
  | _ :: _, [], _, _, i, _, h2, _ => by simp at h2
  | _ :: _, _ :: _, [], _, i, _, _, h3 => by simp at h3
theorem outN_at (Q : List Nat) : ∀ (ps ss ds : List Nat), outN Q ps ss ds = true → ∀ a, a < ps.length → a < ss.length → goN (ps.getD a 0) Q (ss.drop a) ((ps.take (a + 1)).reverse ++ ds) = true
  | p :: ps, s :: ss, ds, h, a, h1, h2 => by
    unfold outN at h
    cases hn : goN p Q (s :: ss) (p :: ds) with
    | false => rw [hn] at h; cases h
    | true =>
      rw [hn] at h
      cases a with
      | zero => exact hn
      | succ a =>
        have := outN_at Q ps ss (p :: ds) h a (by simpa using h1) (by simpa using h2)
        simpa using this
  | [], _, _, _, a, h1, _ => by simp at h1
  | _ :: _, [], _, _, a, _, h2 => by simp at h2
theorem QT_length : QT.length = 1025 := by decide +kernel
theorem QN_length : QN.length = 1025 := by decide +kernel
theorem HN_length : HN.length = 2049 := by decide +kernel
theorem QN_at (i : Nat) (h : i ≤ 1024) : ((QN.getD i 0 : Nat) : Int) = qt i := by
  unfold qt
  rw [← QN_QT]
  simp only [List.getD, List.getElem?_map]
  rw [List.getElem?_eq_getElem (by rw [QN_length]; omega)]
  rfl
theorem HN_at (i : Nat) (h : i ≤ 2048) : ((HN.getD i 0 : Nat) : Int) - 16777216 = cb i := by
  have e : ((HN.getD i 0 : Nat) : Int) - 16777216 = (HN.map (fun n : Nat => (n : Int) - 16777216)).getD i 0 := by
    simp only [List.getD, List.getElem?_map]
    rw [List.getElem?_eq_getElem (by rw [HN_length]; omega)]
    rfl
  rw [e, HN_HT]
  unfold cb qt
  by_cases h1 : i ≤ 1024
  · rw [if_pos h1]
    simp only [List.getD]
    rw [List.getElem?_append_left (by rw [QT_length]; omega)]
  · rw [if_neg h1]
    simp only [List.getD]
    rw [List.getElem?_append_right (by rw [QT_length]; omega), List.getElem?_map, List.getElem?_drop, List.getElem?_reverse (by rw [QT_length]; omega), QT_length, show 1025 - 1 - (1 + (i - 1025)) = 2048 - i by omega, List.getElem?_eq_getElem (show 2048 - i < QT.length by rw [QT_length]; omega)]
    rfl
theorem chunk (c : Nat) (h : c < 9) : outN QN ((QN.drop (128 * c)).take 128) (HN.drop (128 * c)) (QN.take (128 * c)).reverse = true := by
  match c, h with
  | 0, _ => exact chunk0
  | 1, _ => exact chunk1
  | 2, _ => exact chunk2
  | 3, _ => exact chunk3
  | 4, _ => exact chunk4
  | 5, _ => exact chunk5
  | 6, _ => exact chunk6
  | 7, _ => exact chunk7
  | 8, _ => exact chunk8
theorem near_quarter (a b : Nat) (ha : a ≤ 1024) (hb : b ≤ a) : -536870912 ≤ 2 * (qt a * qt b) - 16777216 * (cb (a + b) + qt (a - b)) ∧ 2 * (qt a * qt b) - 16777216 * (cb (a + b) + qt (a - b)) ≤ 536870912 := by
  obtain ⟨c, r, hr, rfl⟩ : ∃ c r, r < 128 ∧ a = 128 * c + r := ⟨a / 128, a % 128, by omega, by omega⟩
  have h1 := outN_at _ _ _ _ (chunk c (by omega)) r (by rw [List.length_take, List.length_drop, QN_length]; omega) (by rw [List.length_drop, HN_length]; omega)
  have h2 := goN_at _ _ _ _ h1 b (by rw [QN_length]; omega) (by rw [List.length_drop, List.length_drop, HN_length]; omega) (by rw [List.length_append, List.length_reverse, List.length_reverse, List.length_take, List.length_take, List.length_take, List.length_drop, QN_length]; omega)
  have e0 : ((QN.drop (128 * c)).take 128).getD r 0 = QN.getD (128 * c + r) 0 := by
    simp only [List.getD]
    rw [List.getElem?_take, if_pos hr, List.getElem?_drop]
  have e1 : ((HN.drop (128 * c)).drop r).getD b 0 = HN.getD (128 * c + r + b) 0 := by
    simp only [List.getD]
    rw [List.getElem?_drop, List.getElem?_drop, Nat.add_assoc]
  have e2 : ((((QN.drop (128 * c)).take 128).take (r + 1)).reverse ++ (QN.take (128 * c)).reverse) = (QN.take (128 * c + r + 1)).reverse := by
    rw [← List.reverse_append, List.take_take, show min (r + 1) 128 = r + 1 by omega, Nat.add_assoc, ← List.take_add]
  have e3 : ((QN.take (128 * c + r + 1)).reverse).getD b 0 = QN.getD (128 * c + r - b) 0 := by
    simp only [List.getD]
    rw [List.getElem?_reverse (by rw [List.length_take, QN_length]; omega), List.getElem?_take, List.length_take, QN_length, if_pos (by omega)]
    congr 2
    omega
  rw [e0, e1, e2, e3] at h2
  have := nearN_bd h2
  rw [QN_at _ ha, QN_at _ (by omega), QN_at _ (by omega), HN_at _ (by omega)] at this
  exact this
attribute [local irreducible] qt QT QN HN cv cb
/-- A product is half of what stands at the sum and at the difference, but for a little. -/
def Pr (a b : Int) : Prop := -536870912 ≤ 2 * (cosv a * cosv b) - 16777216 * (cosv (a + b) + cosv (a - b)) ∧ 2 * (cosv a * cosv b) - 16777216 * (cosv (a + b) + cosv (a - b)) ≤ 536870912
theorem Pr.comm {a b : Int} (h : Pr a b) : Pr b a := by
  unfold Pr at *
  rw [Int.add_comm b a, show b - a = -(a - b) by omega, cos_neg, Int.mul_comm (cosv b)]
  exact h
theorem Pr.neg {a b : Int} (h : Pr a b) : Pr (-a) b := by
  unfold Pr at *
  rw [show -a + b = -(a - b) by omega, show -a - b = -(a + b) by omega, cos_neg, cos_neg, cos_neg, Int.add_comm (cosv (a - b))]
  exact h
theorem Pr.shift {a b : Int} (h : Pr a b) (k : Int) : Pr (a + 2048 * k) b := by
  unfold Pr at *
  rcases Int.emod_two_eq k with hk | hk
  · obtain ⟨o, rfl⟩ : ∃ o, k = 2 * o := ⟨k / 2, by omega⟩
    rw [show a + 2048 * (2 * o) = a + 4096 * o by omega, show a + 4096 * o + b = a + b + 4096 * o by omega, show a + 4096 * o - b = a - b + 4096 * o by omega, cos_turn, cos_turn, cos_turn]
    exact h
  · obtain ⟨o, rfl⟩ : ∃ o, k = 2 * o + 1 := ⟨k / 2, by omega⟩
    rw [show a + 2048 * (2 * o + 1) + b = a + b + 2048 * (2 * o + 1) by omega, show a + 2048 * (2 * o + 1) - b = a - b + 2048 * (2 * o + 1) by omega, cos_odd, cos_odd, cos_odd, Int.neg_mul]
    omega
theorem Pr.reduce {b : Int} (h : ∀ a : Nat, a ≤ 1024 → Pr a b) (a : Int) : Pr a b := by
  have e : a = (a - 2048 * ((a + 1024) / 2048)) + 2048 * ((a + 1024) / 2048) := by omega
  rw [e]
  refine Pr.shift ?_ _
  by_cases h0 : 0 ≤ a - 2048 * ((a + 1024) / 2048)
  · have := h (a - 2048 * ((a + 1024) / 2048)).toNat (by omega)
    rw [show (((a - 2048 * ((a + 1024) / 2048)).toNat : Nat) : Int) = a - 2048 * ((a + 1024) / 2048) by omega] at this
    exact this
  · have := (h (-(a - 2048 * ((a + 1024) / 2048))).toNat (by omega)).neg
    rw [show -(((-(a - 2048 * ((a + 1024) / 2048))).toNat : Nat) : Int) = a - 2048 * ((a + 1024) / 2048) by omega] at this
    exact this
theorem cos_nat (n : Nat) (h : n ≤ 2048) : cosv n = cb n := by
  unfold cosv
  rw [show ((n : Int) % 4096).toNat = n by omega]
  unfold cv
  rw [if_pos h]
theorem cb_qt (n : Nat) (h : n ≤ 1024) : cb n = qt n := by unfold cb; rw [if_pos h]
theorem pr_small (a b : Nat) (ha : a ≤ 1024) (hb : b ≤ a) : Pr a b := by
  unfold Pr
  rw [show (a : Int) + b = ((a + b : Nat) : Int) by omega, show (a : Int) - b = ((a - b : Nat) : Int) by omega, cos_nat a (by omega), cos_nat b (by omega), cos_nat (a + b) (by omega), cos_nat (a - b) (by omega), cb_qt a ha, cb_qt b (by omega), cb_qt (a - b) (by omega)]
  exact near_quarter a b ha hb
theorem pr_all (a b : Int) : Pr a b := by
  refine Pr.reduce (fun a ha => Pr.comm (Pr.reduce (fun b hb => ?_) b)) a
  rcases Nat.le_total b a with h | h
  · exact (pr_small a b ha h).comm
  · exact pr_small b a hb h
/-- What a number weighs. -/
def wgt (un : Nat) (k j : Nat) : Int := cosv ((2 * (j : Int) + 1) * (2 * k + 1) * un)
theorem wgt_comm (un k j : Nat) : wgt un k j = wgt un j k := by unfold wgt; rw [Int.mul_comm (2 * (j : Int) + 1)]
theorem wgt_bd (un k j : Nat) : -16777216 ≤ wgt un k j ∧ wgt un k j ≤ 16777216 := cos_bd _
theorem gram (p un : Nat) (hu : 2 ^ p * un = 512) (k j : Nat) (hk : k < 2 ^ p) (hj : j < 2 ^ p) :
    -(((2 ^ p : Nat) : Int) * 536870912) ≤ 2 * sumTo (fun i => wgt un k i * wgt un i j) (2 ^ p) - (if j = k then ((2 ^ p : Nat) : Int) * 281474976710656 else 0) ∧ 2 * sumTo (fun i => wgt un k i * wgt un i j) (2 ^ p) - (if j = k then ((2 ^ p : Nat) : Int) * 281474976710656 else 0) ≤ ((2 ^ p : Nat) : Int) * 536870912 := by
  have v1 : sumTo (fun i => cosv ((2 * (i : Int) + 1) * (2 * ((k + j + 1 : Nat) : Int) * un))) (2 ^ p) = 0 := vanish p un hu (k + j + 1) (by omega) (by rw [Nat.pow_succ]; omega)
  have v2 : sumTo (fun i => cosv ((2 * (i : Int) + 1) * (2 * ((k : Int) - j) * un))) (2 ^ p) = if j = k then ((2 ^ p : Nat) : Int) * 16777216 else 0 := by
    by_cases e : j = k
    · subst e
      rw [if_pos rfl]
      rw [← sum_const]
      refine sum_congr fun i hi => ?_
      rw [Int.sub_self, Int.mul_zero, Int.zero_mul, Int.mul_zero, cos_zero]
    · rw [if_neg e]
      rcases Nat.lt_or_ge k j with h | h
      · have := vanish p un hu (j - k) (by omega) (by rw [Nat.pow_succ]; omega)
        rw [← this]
        refine sum_congr fun i hi => ?_
        rw [← cos_neg]
        congr 1
        rw [show ((j - k : Nat) : Int) = j - k by omega]
        grind
      · have := vanish p un hu (k - j) (by omega) (by rw [Nat.pow_succ]; omega)
        rw [← this]
        refine sum_congr fun i hi => ?_
        rw [show ((k - j : Nat) : Int) = k - j by omega]
  have e : ∀ i, i < 2 ^ p → -536870912 ≤ 2 * (wgt un k i * wgt un i j) - 16777216 * (cosv ((2 * (i : Int) + 1) * (2 * ((k + j + 1 : Nat) : Int) * un)) + cosv ((2 * (i : Int) + 1) * (2 * ((k : Int) - j) * un))) ∧ 2 * (wgt un k i * wgt un i j) - 16777216 * (cosv ((2 * (i : Int) + 1) * (2 * ((k + j + 1 : Nat) : Int) * un)) + cosv ((2 * (i : Int) + 1) * (2 * ((k : Int) - j) * un))) ≤ 536870912 := by
    intro i hi
    have := pr_all ((2 * (i : Int) + 1) * (2 * k + 1) * un) ((2 * (j : Int) + 1) * (2 * i + 1) * un)
    unfold Pr at this
    rw [show (2 * (i : Int) + 1) * (2 * k + 1) * un + (2 * (j : Int) + 1) * (2 * i + 1) * un = (2 * (i : Int) + 1) * (2 * ((k + j + 1 : Nat) : Int) * un) by push_cast; grind, show (2 * (i : Int) + 1) * (2 * k + 1) * un - (2 * (j : Int) + 1) * (2 * i + 1) * un = (2 * (i : Int) + 1) * (2 * ((k : Int) - j) * un) by grind] at this
    exact this
  have s := sum_bd e
  have l : sumTo (fun i => 2 * (wgt un k i * wgt un i j) - 16777216 * (cosv ((2 * (i : Int) + 1) * (2 * ((k + j + 1 : Nat) : Int) * un)) + cosv ((2 * (i : Int) + 1) * (2 * ((k : Int) - j) * un)))) (2 ^ p) = 2 * sumTo (fun i => wgt un k i * wgt un i j) (2 ^ p) - 16777216 * (0 + if j = k then ((2 ^ p : Nat) : Int) * 16777216 else 0) := by
    have a1 := sum_add (fun i => 2 * (wgt un k i * wgt un i j)) (fun i => -16777216 * (cosv ((2 * (i : Int) + 1) * (2 * ((k + j + 1 : Nat) : Int) * un)) + cosv ((2 * (i : Int) + 1) * (2 * ((k : Int) - j) * un)))) (2 ^ p)
    have v3 : sumTo (fun i => cosv ((2 * (i : Int) + 1) * (2 * ((k + j + 1 : Nat) : Int) * un)) + cosv ((2 * (i : Int) + 1) * (2 * ((k : Int) - j) * un))) (2 ^ p) = 0 + if j = k then ((2 ^ p : Nat) : Int) * 16777216 else 0 := by rw [sum_add, v1, v2]
    rw [sum_mul, sum_mul, v3] at a1
    rw [show 2 * sumTo (fun i => wgt un k i * wgt un i j) (2 ^ p) - 16777216 * (0 + if j = k then ((2 ^ p : Nat) : Int) * 16777216 else 0) = 2 * sumTo (fun i => wgt un k i * wgt un i j) (2 ^ p) + -16777216 * (0 + if j = k then ((2 ^ p : Nat) : Int) * 16777216 else 0) by omega, ← a1]
    refine sum_congr fun i hi => ?_
    omega
  rw [l] at s
  generalize sumTo (fun i => wgt un k i * wgt un i j) (2 ^ p) = X at *
  by_cases e : j = k
  · rw [if_pos e] at s ⊢
    omega
  · rw [if_neg e] at s ⊢
    omega
/-- A number's sum over all others, in order. -/
def dot (un : Nat) (u : Nat → Int) (n k : Nat) : Int := sumTo (fun j => u j * wgt un k j) n
theorem mul_bd {x y B C : Int} (hB : 0 ≤ B) (hC : 0 ≤ C) (hx : -B ≤ x ∧ x ≤ B) (hy : -C ≤ y ∧ y ≤ C) : -(B * C) ≤ x * y ∧ x * y ≤ B * C := by
  have h : (x * y).natAbs ≤ (B * C).natAbs := by
    rw [Int.natAbs_mul, Int.natAbs_mul]
    exact Nat.mul_le_mul (by omega) (by omega)
  have := Int.mul_nonneg hB hC
  omega
/-- 512 numbers, turned twice. -/
theorem twice512 (u y z : Nat → Int) (hu : ∀ j, j < 512 → -1048576 ≤ u j ∧ u j ≤ 1048576) (hy : ∀ i, i < 512 → y i = rdv 268435456 (dot 1 u 512 i)) (hz : ∀ k, k < 512 → z k = rdv 268435456 (dot 1 y 512 k)) (k : Nat) (hk : k < 512) : -1100 ≤ z k - u k ∧ z k - u k ≤ 1100 := by
  obtain ⟨e, he⟩ : ∃ e : Nat → Int, ∀ i, i < 512 → -134217728 ≤ e i ∧ e i ≤ 134217728 ∧ 268435456 * y i = dot 1 u 512 i + e i := by
    refine ⟨fun i => 268435456 * y i - dot 1 u 512 i, fun i hi => ?_⟩
    dsimp only
    rw [hy i hi]
    unfold rdv
    exact ⟨by omega, by omega, by omega⟩
  have ez : -134217728 ≤ 268435456 * z k - dot 1 y 512 k ∧ 268435456 * z k - dot 1 y 512 k ≤ 134217728 := by
    rw [hz k hk]
    unfold rdv
    omega
  have g := gram 9 1 (by decide) k
  rw [show (2 : Nat) ^ 9 = 512 from rfl] at g
  have s1 : 268435456 * dot 1 y 512 k = sumTo (fun j => u j * sumTo (fun i => wgt 1 k i * wgt 1 i j) 512) 512 + sumTo (fun i => e i * wgt 1 k i) 512 := by
    have c1 : sumTo (fun j => u j * sumTo (fun i => wgt 1 k i * wgt 1 i j) 512) 512 = sumTo (fun i => dot 1 u 512 i * wgt 1 k i) 512 := by
      have c2 : sumTo (fun j => u j * sumTo (fun i => wgt 1 k i * wgt 1 i j) 512) 512 = sumTo (fun j => sumTo (fun i => u j * (wgt 1 k i * wgt 1 i j)) 512) 512 := sum_congr fun j hj => (sum_mul _ _ _).symm
      rw [c2, ← sum_swap]
      refine sum_congr fun i hi => ?_
      unfold dot
      rw [Int.mul_comm, ← sum_mul]
      refine sum_congr fun j hj => ?_
      rw [← Int.mul_assoc, Int.mul_comm (u j), Int.mul_assoc]
    rw [c1, ← sum_add]
    unfold dot
    rw [← sum_mul]
    refine sum_congr fun i hi => ?_
    rw [← Int.mul_assoc, (he i hi).2.2, Int.add_mul]
    rfl
  have s2 : -((512 : Nat) * (512 * 536870912 * 1048576)) ≤ sumTo (fun j => u j * (2 * sumTo (fun i => wgt 1 k i * wgt 1 i j) 512 - if j = k then ((512 : Nat) : Int) * 281474976710656 else 0)) 512 ∧ sumTo (fun j => u j * (2 * sumTo (fun i => wgt 1 k i * wgt 1 i j) 512 - if j = k then ((512 : Nat) : Int) * 281474976710656 else 0)) 512 ≤ (512 : Nat) * (512 * 536870912 * 1048576) := sum_bd fun j hj => by
    have := mul_bd (by decide) (by decide) (hu j hj) (g j hk hj)
    rw [show ((512 : Int) * 536870912 * 1048576) = 1048576 * ((512 : Nat) * 536870912) by omega]
    exact this
  have s3 : sumTo (fun j => u j * (2 * sumTo (fun i => wgt 1 k i * wgt 1 i j) 512 - if j = k then ((512 : Nat) : Int) * 281474976710656 else 0)) 512 = 2 * sumTo (fun j => u j * sumTo (fun i => wgt 1 k i * wgt 1 i j) 512) 512 - 512 * 281474976710656 * u k := by
    have c3 := sum_add (fun j => 2 * (u j * sumTo (fun i => wgt 1 k i * wgt 1 i j) 512)) (fun j => if j = k then -(512 * 281474976710656) * u j else 0) 512
    rw [sum_mul, sum_one, if_pos hk] at c3
    rw [show 2 * sumTo (fun j => u j * sumTo (fun i => wgt 1 k i * wgt 1 i j) 512) 512 - 512 * 281474976710656 * u k = 2 * sumTo (fun j => u j * sumTo (fun i => wgt 1 k i * wgt 1 i j) 512) 512 + -(512 * 281474976710656) * u k by omega, ← c3]
    refine sum_congr fun j hj => ?_
    by_cases hjk : j = k
    · rw [if_pos hjk, if_pos hjk, Int.mul_sub, ← Int.mul_assoc, Int.mul_comm (u j) 2, Int.mul_assoc]
      omega
    · rw [if_neg hjk, if_neg hjk, Int.sub_zero, ← Int.mul_assoc, Int.mul_comm (u j) 2, Int.mul_assoc]
      omega
  have s4 : -((512 : Nat) * (134217728 * 16777216)) ≤ sumTo (fun i => e i * wgt 1 k i) 512 ∧ sumTo (fun i => e i * wgt 1 k i) 512 ≤ (512 : Nat) * (134217728 * 16777216) := sum_bd fun i hi => mul_bd (by decide) (by decide) ⟨(he i hi).1, (he i hi).2.1⟩ (wgt_bd 1 k i)
  rw [s3] at s2
  generalize sumTo (fun j => u j * sumTo (fun i => wgt 1 k i * wgt 1 i j) 512) 512 = X at *
  generalize sumTo (fun i => e i * wgt 1 k i) 512 = Y at *
  generalize dot 1 y 512 k = A at *
  generalize z k = zk at *
  generalize u k = uk at *
  clear he g hu hy hz
  omega
/-- 128 numbers, turned twice. -/
theorem twice128 (u y z : Nat → Int) (hu : ∀ j, j < 128 → -1048576 ≤ u j ∧ u j ≤ 1048576) (hy : ∀ i, i < 128 → y i = rdv 134217728 (dot 4 u 128 i)) (hz : ∀ k, k < 128 → z k = rdv 134217728 (dot 4 y 128 k)) (k : Nat) (hk : k < 128) : -1100 ≤ z k - u k ∧ z k - u k ≤ 1100 := by
  obtain ⟨e, he⟩ : ∃ e : Nat → Int, ∀ i, i < 128 → -67108864 ≤ e i ∧ e i ≤ 67108864 ∧ 134217728 * y i = dot 4 u 128 i + e i := by
    refine ⟨fun i => 134217728 * y i - dot 4 u 128 i, fun i hi => ?_⟩
    dsimp only
    rw [hy i hi]
    unfold rdv
    exact ⟨by omega, by omega, by omega⟩
  have ez : -67108864 ≤ 134217728 * z k - dot 4 y 128 k ∧ 134217728 * z k - dot 4 y 128 k ≤ 67108864 := by
    rw [hz k hk]
    unfold rdv
    omega
  have g := gram 7 4 (by decide) k
  rw [show (2 : Nat) ^ 7 = 128 from rfl] at g
  have s1 : 134217728 * dot 4 y 128 k = sumTo (fun j => u j * sumTo (fun i => wgt 4 k i * wgt 4 i j) 128) 128 + sumTo (fun i => e i * wgt 4 k i) 128 := by
    have c1 : sumTo (fun j => u j * sumTo (fun i => wgt 4 k i * wgt 4 i j) 128) 128 = sumTo (fun i => dot 4 u 128 i * wgt 4 k i) 128 := by
      have c2 : sumTo (fun j => u j * sumTo (fun i => wgt 4 k i * wgt 4 i j) 128) 128 = sumTo (fun j => sumTo (fun i => u j * (wgt 4 k i * wgt 4 i j)) 128) 128 := sum_congr fun j hj => (sum_mul _ _ _).symm
      rw [c2, ← sum_swap]
      refine sum_congr fun i hi => ?_
      unfold dot
      rw [Int.mul_comm, ← sum_mul]
      refine sum_congr fun j hj => ?_
      rw [← Int.mul_assoc, Int.mul_comm (u j), Int.mul_assoc]
    rw [c1, ← sum_add]
    unfold dot
    rw [← sum_mul]
    refine sum_congr fun i hi => ?_
    rw [← Int.mul_assoc, (he i hi).2.2, Int.add_mul]
    rfl
  have s2 : -((128 : Nat) * (128 * 536870912 * 1048576)) ≤ sumTo (fun j => u j * (2 * sumTo (fun i => wgt 4 k i * wgt 4 i j) 128 - if j = k then ((128 : Nat) : Int) * 281474976710656 else 0)) 128 ∧ sumTo (fun j => u j * (2 * sumTo (fun i => wgt 4 k i * wgt 4 i j) 128 - if j = k then ((128 : Nat) : Int) * 281474976710656 else 0)) 128 ≤ (128 : Nat) * (128 * 536870912 * 1048576) := sum_bd fun j hj => by
    have := mul_bd (by decide) (by decide) (hu j hj) (g j hk hj)
    rw [show ((128 : Int) * 536870912 * 1048576) = 1048576 * ((128 : Nat) * 536870912) by omega]
    exact this
  have s3 : sumTo (fun j => u j * (2 * sumTo (fun i => wgt 4 k i * wgt 4 i j) 128 - if j = k then ((128 : Nat) : Int) * 281474976710656 else 0)) 128 = 2 * sumTo (fun j => u j * sumTo (fun i => wgt 4 k i * wgt 4 i j) 128) 128 - 128 * 281474976710656 * u k := by
    have c3 := sum_add (fun j => 2 * (u j * sumTo (fun i => wgt 4 k i * wgt 4 i j) 128)) (fun j => if j = k then -(128 * 281474976710656) * u j else 0) 128
    rw [sum_mul, sum_one, if_pos hk] at c3
    rw [show 2 * sumTo (fun j => u j * sumTo (fun i => wgt 4 k i * wgt 4 i j) 128) 128 - 128 * 281474976710656 * u k = 2 * sumTo (fun j => u j * sumTo (fun i => wgt 4 k i * wgt 4 i j) 128) 128 + -(128 * 281474976710656) * u k by omega, ← c3]
    refine sum_congr fun j hj => ?_
    by_cases hjk : j = k
    · rw [if_pos hjk, if_pos hjk, Int.mul_sub, ← Int.mul_assoc, Int.mul_comm (u j) 2, Int.mul_assoc]
      omega
    · rw [if_neg hjk, if_neg hjk, Int.sub_zero, ← Int.mul_assoc, Int.mul_comm (u j) 2, Int.mul_assoc]
      omega
  have s4 : -((128 : Nat) * (67108864 * 16777216)) ≤ sumTo (fun i => e i * wgt 4 k i) 128 ∧ sumTo (fun i => e i * wgt 4 k i) 128 ≤ (128 : Nat) * (67108864 * 16777216) := sum_bd fun i hi => mul_bd (by decide) (by decide) ⟨(he i hi).1, (he i hi).2.1⟩ (wgt_bd 4 k i)
  rw [s3] at s2
  generalize sumTo (fun j => u j * sumTo (fun i => wgt 4 k i * wgt 4 i j) 128) 128 = X at *
  generalize sumTo (fun i => e i * wgt 4 k i) 128 = Y at *
  generalize dot 4 y 128 k = A at *
  generalize z k = zk at *
  generalize u k = uk at *
  clear he g hu hy hz
  omega
end Go.Proofs.Ytngldpeapcbbpaa.Lap

/-
  Words: slices of whole numbers that own their block, and grow one by one. Plain theorems; no condition.
-/
set_option linter.unusedVariables false
namespace Go.Proofs.Ytngldpeapcbbpaa
open Go.RowKit

theorem add_nought (a : Addr) : a.add 0 = a := by
  unfold Addr.add
  split
  · rename_i h; cases a; simp_all
  · rename_i h; cases a; simp_all
/-- v is a slice of these numbers at the head of a block of its own, or nil. -/
def Sl (w : World) (e : TypeId) (k : IntKind) (v : Value) (xs : List Int) : Prop :=
  (v = .slice none 0 0 ∧ xs = []) ∨ ∃ g cap, v = .slice (some ⟨g, 0, none⟩) xs.length cap ∧ RowI w e k g cap xs
section
variable {w w' : World} {e : TypeId} {k : IntKind} {v : Value} {xs : List Int}
theorem Sl.nil (w : World) (e : TypeId) (k : IntKind) : Sl w e k (.slice none 0 0) [] := .inl ⟨rfl, rfl⟩
theorem Sl.row {g cap : Nat} (h : RowI w e k g cap xs) : Sl w e k (.slice (some ⟨g, 0, none⟩) xs.length cap) xs := .inr ⟨g, cap, rfl, h⟩
theorem Sl.lt (h : Sl w e k v xs) {g : Nat} (hg : v.ownBlock = some g) : g < w.heap.size := by
  rcases h with ⟨rfl, _⟩ | ⟨g', cap, rfl, h⟩
  · cases hg
  · injection hg with e; subst e; exact h.lt
theorem Sl.of_same (h : Sl w e k v xs) (hs : ∀ g, v.ownBlock = some g → w'.heap[g]? = w.heap[g]?) : Sl w' e k v xs := by
  rcases h with h | ⟨g, cap, rfl, h⟩
  · exact .inl h
  · exact .inr ⟨g, cap, rfl, h.of_same (hs g rfl)⟩
theorem Sl.drew (h : Sl w e k v xs) : Sl w.drew e k v xs := h
theorem Sl.drewN (h : Sl w e k v xs) (n : Nat) : Sl (w.drewN n) e k v xs := h
theorem Sl.alloc (h : Sl w e k v xs) (o : Obj) : Sl (w.alloc o) e k v xs := h.of_same fun g hg => Below.heap_alloc w o g (h.lt hg)
theorem Sl.other (h : Sl w e k v xs) {a : Addr} (hne : v.ownBlock ≠ some a.block) (u : Value) : Sl (w.setCell a u) e k v xs :=
  h.of_same fun g hg => Below.heap_setCell w a u g (by rintro rfl; exact hne hg)
theorem Sl.only {S : Nat → Prop} (h : Sl w e k v xs) (o : Only S w w') (hn : ∀ g, v.ownBlock = some g → ¬ S g) : Sl w' e k v xs := h.of_same fun g hg => o.block g (h.lt hg) (hn g hg)
theorem Sl.below {B : Nat} (h : Sl w e k v xs) (hb : Below B w w') (hg : ∀ g, v.ownBlock = some g → g < B) : Sl w' e k v xs := h.of_same fun g hb' => hb.block g (hg g hb')
theorem Sl.form (h : Sl w e k v xs) : ∃ A cap, v = .slice A xs.length cap ∧ xs.length ≤ cap := by
  rcases h with ⟨rfl, rfl⟩ | ⟨g, cap, rfl, h⟩
  · exact ⟨none, 0, rfl, Nat.le_refl _⟩
  · exact ⟨_, cap, rfl, h.len.1⟩
theorem Sl.owns (h : Sl w e k v xs) : w.ownsRow 0 e 1 v xs.length (xs.map (Value.int k)) := by
  refine ⟨by simp, ?_⟩
  rcases h with ⟨rfl, rfl⟩ | ⟨g, cap, rfl, cs, hb, h1, h2, h3, h4⟩
  · exact .inl ⟨rfl, rfl⟩
  · refine .inr ⟨g, cap, cs, rfl, Nat.zero_le _, hb, h1, h2, by omega, ?_⟩
    apply List.ext_getElem?
    intro i
    rw [List.getElem?_take]
    by_cases hi : i < xs.length
    · rw [if_pos (by omega), Array.getElem?_toList, h4 i hi, List.getElem?_map, List.getElem?_eq_getElem hi]; rfl
    · rw [if_neg (by omega), List.getElem?_eq_none (by simpa using hi)]
theorem RowI.of_owns {g cap : Nat} (h : w.ownsRow 0 e 1 (.slice (some ⟨g, 0, none⟩) xs.length cap) xs.length (xs.map (Value.int k))) : RowI w e k g cap xs := by
  rcases h.2 with ⟨h1, _⟩ | ⟨g', cap', cur, h1, _, hb, h2, h3, h4, h5⟩
  · cases h1
  · injection h1 with e1 _ e3
    injection e1 with e1
    injection e1 with e1
    subst e1 e3
    refine ⟨cur, hb, h2, h3, by omega, fun i hi => ?_⟩
    have e1 : (cur.toList.take (xs.length * 1))[i]? = some (.int k xs[i]) := by rw [h5]; simp [hi]
    rw [List.getElem?_take, if_pos (by omega)] at e1
    simpa using e1
/-- Where one more is appended. -/
structure Pushed (w w' : World) (e : TypeId) (k : IntKind) (v : Value) (g cap : Nat) (ys : List Int) (H : Nat) : Prop where
  row : RowI w' e k g cap ys
  grown : w.grownBy w' v.ownBlock
  at_ : v.ownBlock = some g ∨ g = H
theorem Pushed.lt {g cap H : Nat} {ys : List Int} (h : Pushed w w' e k v g cap ys H) : g < w'.heap.size := h.row.lt
theorem Pushed.size {g cap H : Nat} {ys : List Int} (h : Pushed w w' e k v g cap ys H) : w.heap.size ≤ w'.heap.size := h.grown.size
theorem Pushed.block {g cap H : Nat} {ys : List Int} (h : Pushed w w' e k v g cap ys H) {i : Nat} (hi : i < w.heap.size) (hn : v.ownBlock ≠ some i) : w'.heap[i]? = w.heap[i]? := h.grown.block i hi (fun e => hn e.symm)
theorem Pushed.only {g cap H : Nat} {ys : List Int} (h : Pushed w w' e k v g cap ys H) : Only (fun i => v.ownBlock = some i) w w' :=
  ⟨h.grown.os, h.grown.tape, h.grown.output, h.grown.size, fun i hi hn => h.grown.block i hi (fun e => hn e.symm)⟩
end
section
variable {P : Program} {w : World}
theorem wpList_push {ops : Array Oper} {rest : List Oper} {o : Oper} {a : Act} {Q : Exit → Act → World → Prop} (s x : Operand) (t e : TypeId) (k : IntKind) (z : Int) (bytes : Nat) (hgd : o.guard = none)
    (ho : o.op = .call { callee := .builtin .append, args := #[s, x], argTypes := #[t, t] })
    (ht : P.underlying t = some (.slice e)) (hinfo : (P.info? e).map (fun i => (i.zero, i.size, i.bytes)) = some (some (.int k z), 1, bytes))
    (v : Value) (xs : List Int) (n : Nat) (y : Int) (ad : Addr) (H : Nat) (hs : a.eval s = v) (hx : a.eval x = .slice (some ad) 1 1) (hsl : Sl w e k v xs) (hn : xs.length = n) (hc : w.cell? ad = some (.int k y)) (hH : w.heap.size = H)
    (hb : (n + 1) * bytes ≤ 140737488355328) (hm : n < 140737488355328)
    (h : ∀ g cap w', Pushed w w' e k v g cap (xs ++ [y]) H → wpList P ops Q rest (a.put o.dst (.slice (some ⟨g, 0, none⟩) (n + 1) cap)) w') : wpList P ops Q (o :: rest) a w := by
  obtain ⟨i0, hi, hzz⟩ := Option.map_eq_some_iff.1 hinfo
  simp only [Prod.mk.injEq] at hzz
  obtain ⟨hz0, hz1, hz2⟩ := hzz
  subst hn
  refine wpList_append_lies (w := w) hgd s x t ho 0 e i0 (.int k z) 1 bytes ht hi hz0 hz1 hz2 rfl (by decide) v xs.length (xs.map (Value.int k)) hs hsl.owns ad 1 1 [.int k y] hx (by simp) ?_ (by simp [Value.oneCell']) (by decide) (by simp only [maxLen]; omega) hb (Nat.zero_le _) H hH ?_
  · intro j u hj
    match j, hj with
    | 0, hj => simp at hj; subst hj; rw [add_nought]; exact hc
    | j + 1, hj => simp at hj
  · intro g cap w' h1 h2 h3 h4
    refine h g cap w' ⟨RowI.of_owns ?_, h2, h3⟩
    have e1 : (xs ++ [y]).length = xs.length + 1 := by simp
    have e2 : (xs ++ [y]).map (Value.int k) = xs.map (Value.int k) ++ [.int k y] := by simp
    rw [e1, e2]; exact h1
theorem step_push {ops : Array Oper} {o : Oper} {a : Act} {K : Act → World → Prop} {Q : Exit → Act → World → Prop} {E : Prop} (s x : Operand) (t e : TypeId) (k : IntKind) (z : Int) (bytes : Nat) (hgd : o.guard = none)
    (ho : o.op = .call { callee := .builtin .append, args := #[s, x], argTypes := #[t, t] })
    (ht : P.underlying t = some (.slice e)) (hinfo : (P.info? e).map (fun i => (i.zero, i.size, i.bytes)) = some (some (.int k z), 1, bytes))
    (v : Value) (xs : List Int) (n : Nat) (y : Int) (ad : Addr) (H : Nat) (hs : a.eval s = v) (hx : a.eval x = .slice (some ad) 1 1) (hsl : Sl w e k v xs) (hn : xs.length = n) (hc : w.cell? ad = some (.int k y)) (hH : w.heap.size = H)
    (hb : (n + 1) * bytes ≤ 140737488355328) (hm : n < 140737488355328)
    (h : ∀ g cap w', Pushed w w' e k v g cap (xs ++ [y]) H → K (a.put o.dst (.slice (some ⟨g, 0, none⟩) (n + 1) cap)) w') :
    if Region.wanted o (yielded ops a.tmps) = true then Oper.wp P o a w K Q else E := by
  obtain ⟨i0, hi, hzz⟩ := Option.map_eq_some_iff.1 hinfo
  simp only [Prod.mk.injEq] at hzz
  obtain ⟨hz0, hz1, hz2⟩ := hzz
  subst hn
  refine step_append_lies (w := w) hgd s x t ho 0 e i0 (.int k z) 1 bytes ht hi hz0 hz1 hz2 rfl (by decide) v xs.length (xs.map (Value.int k)) hs hsl.owns ad 1 1 [.int k y] hx (by simp) ?_ (by simp [Value.oneCell']) (by decide) (by simp only [maxLen]; omega) hb (Nat.zero_le _) H hH ?_
  · intro j u hj
    match j, hj with
    | 0, hj => simp at hj; subst hj; rw [add_nought]; exact hc
    | j + 1, hj => simp at hj
  · intro g cap w' h1 h2 h3 h4
    refine h g cap w' ⟨RowI.of_owns ?_, h2, h3⟩
    have e1 : (xs ++ [y]).length = xs.length + 1 := by simp
    have e2 : (xs ++ [y]).map (Value.int k) = xs.map (Value.int k) ++ [.int k y] := by simp
    rw [e1, e2]; exact h1
/-- u is a slice of these numbers, wherever they lie. -/
def Src (w : World) (k : IntKind) (u : Value) (ys : List Int) : Prop :=
  ∃ A c, u = .slice A ys.length c ∧ (0 < ys.length → ∃ ad, A = some ad ∧ ∀ j (h : j < ys.length), w.cell? (ad.add j) = some (.int k ys[j]))
theorem Src.of_sl {w : World} {e : TypeId} {k : IntKind} {v : Value} {xs : List Int} (h : Sl w e k v xs) : Src w k v xs := by
  rcases h with ⟨rfl, rfl⟩ | ⟨g, cap, rfl, h⟩
  · exact ⟨none, 0, rfl, fun h => by simp at h⟩
  · refine ⟨_, cap, rfl, fun _ => ⟨_, rfl, fun j hj => ?_⟩⟩
    have e1 : (Addr.add ⟨g, 0, none⟩ j) = ⟨g, j, none⟩ := by unfold Addr.add; split <;> simp_all
    rw [e1]; exact h.cell hj
theorem Src.of_C {w : World} {k : IntKind} {A : Option Addr} {c : Nat} {ys : List Int} (h : (Go.Proofs.YtngldpeapcbbpaaW.PrintWords.Kd.int k).C w A ys.length ys) : Src w k (.slice A ys.length c) ys := by
  refine ⟨A, c, rfl, fun h0 => ?_⟩
  obtain ⟨ad, e, _⟩ := cell_C h h0
  subst e
  refine ⟨ad, rfl, fun j hj => ?_⟩
  obtain ⟨ad', e', hc⟩ := cell_C h hj
  injection e' with e'
  subst e'
  exact hc
theorem Src.same {w w' : World} {k : IntKind} {u : Value} {ys : List Int} (h : Src w k u ys) (hs : ∀ g, u.ownBlock = some g → 0 < ys.length → w'.heap[g]? = w.heap[g]?) : Src w' k u ys := by
  obtain ⟨A, c, rfl, h⟩ := h
  refine ⟨A, c, rfl, fun h0 => ?_⟩
  obtain ⟨ad, rfl, hc⟩ := h h0
  refine ⟨ad, rfl, fun j hj => ?_⟩
  rw [← hc j hj]
  exact World.cell?_of_block (by rw [add_block]; exact hs ad.block rfl h0)
theorem Src.drew {w : World} {k : IntKind} {u : Value} {ys : List Int} (h : Src w k u ys) : Src w.drew k u ys := h
theorem Src.lt {w : World} {k : IntKind} {u : Value} {ys : List Int} (h : Src w k u ys) {g : Nat} (hg : u.ownBlock = some g) (h0 : 0 < ys.length) : g < w.heap.size := by
  obtain ⟨A, c, rfl, h⟩ := h
  obtain ⟨ad, rfl, hc⟩ := h h0
  have e : ad.block = g := Option.some.inj hg
  have := World.block_lt_of_cell? w _ (hc 0 h0)
  rw [add_block, e] at this
  exact this
theorem Src.below {w w' : World} {k : IntKind} {u : Value} {ys : List Int} (h : Src w k u ys) (b : Below w.heap.size w w') : Src w' k u ys := h.same fun g hg h0 => b.block g (h.lt hg h0)
/-- Where many are appended. -/
structure Added (w w' : World) (e : TypeId) (k : IntKind) (v v' : Value) (ys : List Int) (H : Nat) : Prop where
  sl : Sl w' e k v' ys
  grown : w.grownBy w' v.ownBlock
  at_ : v'.ownBlock = v.ownBlock ∨ v'.ownBlock = some H
theorem Added.only {w w' : World} {e : TypeId} {k : IntKind} {v v' : Value} {ys : List Int} {H : Nat} (h : Added w w' e k v v' ys H) : Only (fun i => v.ownBlock = some i) w w' :=
  ⟨h.grown.os, h.grown.tape, h.grown.output, h.grown.size, fun i hi hn => h.grown.block i hi (fun e => hn e.symm)⟩
theorem Sl.of_owns {w : World} {e : TypeId} {k : IntKind} {v : Value} {xs : List Int} {n : Nat} (h : w.ownsRow 0 e 1 v n (xs.map (Value.int k))) : Sl w e k v xs := by
  have hn : xs.length = n := by have := h.1; simpa using this
  subst hn
  rcases h.2 with ⟨rfl, h0⟩ | ⟨g, cap, cur, rfl, r⟩
  · exact .inl ⟨rfl, List.eq_nil_of_length_eq_zero h0⟩
  · exact Sl.row (RowI.of_owns h)
theorem run_add (t ty e : TypeId) (k : IntKind) (z : Int) (bytes : Nat) (ht : P.underlying t = some (.slice e)) (hinfo : (P.info? e).map (fun i => (i.zero, i.size, i.bytes)) = some (some (.int k z), 1, bytes))
    (v u : Value) (xs ys : List Int) (hsl : Sl w e k v xs) (hx : Src w k u ys) (hb : (xs.length + ys.length) * bytes ≤ 140737488355328) (hm : xs.length + ys.length ≤ 140737488355328) :
    ∃ v' w', (Builtin.append_ #[t, t] ty #[v, u]).run P w = .ok v' w' ∧ Added w w' e k v v' (xs ++ ys) w.heap.size := by
  obtain ⟨i0, hi, hzz⟩ := Option.map_eq_some_iff.1 hinfo
  simp only [Prod.mk.injEq] at hzz
  obtain ⟨hz0, hz1, hz2⟩ := hzz
  obtain ⟨A, c, rfl, hy⟩ := hx
  by_cases h0 : 0 < ys.length
  · obtain ⟨ad, rfl, hc⟩ := hy h0
    obtain ⟨v', w', h1, h2, h3, _, h5⟩ := run_append_own_at (P := P) w 0 t ty e i0 (.int k z) 1 bytes ht hi hz0 hz1 hz2 rfl (by decide) v xs.length (xs.map (Value.int k)) hsl.owns ad ys.length c (ys.map (Value.int k)) (by simp) (fun j q hj => by
      rw [List.getElem?_map] at hj
      have hjl : j < ys.length := by
        rcases Nat.lt_or_ge j ys.length with h | h
        · exact h
        · rw [List.getElem?_eq_none h] at hj; cases hj
      rw [List.getElem?_eq_getElem hjl] at hj
      rw [hc j hjl]; exact hj) (fun q hq => by obtain ⟨y, _, rfl⟩ := List.mem_map.1 hq; rfl) (by simp only [maxLen]; omega) hb (Nat.zero_le _)
    refine ⟨v', w', h1, ⟨Sl.of_owns (n := xs.length + ys.length) (by rw [List.map_append]; exact h2), h3, h5⟩⟩
  · have hn : ys = [] := List.eq_nil_of_length_eq_zero (by omega)
    subst hn
    rw [List.append_nil]
    have refl : w.grownBy w v.ownBlock := ⟨rfl, rfl, rfl, Nat.le_refl _, fun _ _ _ => rfl⟩
    cases A with
    | none =>
      refine ⟨v, w, ?_, ⟨hsl, refl, .inl rfl⟩⟩
      rcases hsl with ⟨rfl, rfl⟩ | ⟨g, cap, rfl, h⟩
      · simp [Builtin.append_, run_underlying ht, sizeOf, typeInfo, hi, Builtin.lenOf, Builtin.firstCells]
      · simp [Builtin.append_, run_underlying ht, sizeOf, typeInfo, hi, Builtin.lenOf, Builtin.firstCells, h.len.1, storeCells]
    | some ad =>
      obtain ⟨v', w', h1, h2, h3, _, h5⟩ := run_append_own_at (P := P) w 0 t ty e i0 (.int k z) 1 bytes ht hi hz0 hz1 hz2 rfl (by decide) v xs.length (xs.map (Value.int k)) hsl.owns ad 0 c [] (by simp) (fun j q hj => by simp at hj) (fun q hq => by cases hq) (by simp only [maxLen]; omega) (by simpa using hb) (Nat.zero_le _)
      rw [List.append_nil] at h2
      exact ⟨v', w', h1, ⟨Sl.of_owns h2, h3, h5⟩⟩
theorem wpList_add {ops : Array Oper} {rest : List Oper} {o : Oper} {a : Act} {Q : Exit → Act → World → Prop} (s x : Operand) (t e : TypeId) (k : IntKind) (z : Int) (bytes : Nat) (hgd : o.guard = none)
    (ho : o.op = .call { callee := .builtin .append, args := #[s, x], argTypes := #[t, t] })
    (ht : P.underlying t = some (.slice e)) (hinfo : (P.info? e).map (fun i => (i.zero, i.size, i.bytes)) = some (some (.int k z), 1, bytes))
    (v u : Value) (xs ys : List Int) (hs : a.eval s = v) (hx : a.eval x = u) (hsl : Sl w e k v xs) (hsrc : Src w k u ys) (hb : (xs.length + ys.length) * bytes ≤ 140737488355328) (hm : xs.length + ys.length ≤ 140737488355328)
    (h : ∀ v' w', Added w w' e k v v' (xs ++ ys) w.heap.size → wpList P ops Q rest (a.put o.dst v') w') : wpList P ops Q (o :: rest) a w := by
  refine wpList_plain hgd fun K hK => ?_
  obtain ⟨v', w', hr, h2⟩ := run_add (P := P) (w := w) t o.type e k z bytes ht hinfo v u xs ys hsl hsrc hb hm
  unfold Oper.wp execOp
  simp only [ho, resolve, invoke, builtin, Sem.run_bind, Sem.run_pure, Result.andThen_ok, List.map_toArray, List.map_cons, List.map_nil, hs, hx, hr]
  exact hK _ _ (h v' w' h2)
theorem step_add {ops : Array Oper} {o : Oper} {a : Act} {K : Act → World → Prop} {Q : Exit → Act → World → Prop} {E : Prop} (s x : Operand) (t e : TypeId) (k : IntKind) (z : Int) (bytes : Nat) (hgd : o.guard = none)
    (ho : o.op = .call { callee := .builtin .append, args := #[s, x], argTypes := #[t, t] })
    (ht : P.underlying t = some (.slice e)) (hinfo : (P.info? e).map (fun i => (i.zero, i.size, i.bytes)) = some (some (.int k z), 1, bytes))
    (v u : Value) (xs ys : List Int) (hs : a.eval s = v) (hx : a.eval x = u) (hsl : Sl w e k v xs) (hsrc : Src w k u ys) (hb : (xs.length + ys.length) * bytes ≤ 140737488355328) (hm : xs.length + ys.length ≤ 140737488355328)
    (h : ∀ v' w', Added w w' e k v v' (xs ++ ys) w.heap.size → K (a.put o.dst v') w') :
    if Region.wanted o (yielded ops a.tmps) = true then Oper.wp P o a w K Q else E := by
  have hw : Region.wanted o (yielded ops a.tmps) = true := by simp [Region.wanted, hgd]
  rw [if_pos hw]
  obtain ⟨v', w', hr, h2⟩ := run_add (P := P) (w := w) t o.type e k z bytes ht hinfo v u xs ys hsl hsrc hb hm
  unfold Oper.wp execOp
  simp only [ho, resolve, invoke, builtin, Sem.run_bind, Sem.run_pure, Result.andThen_ok, List.map_toArray, List.map_cons, List.map_nil, hs, hx, hr]
  exact h v' w' h2
end
theorem RowI.take {w : World} {e : TypeId} {k : IntKind} {g cap : Nat} {xs : List Int} (h : RowI w e k g cap xs) (n : Nat) : RowI w e k g cap (xs.take n) := by
  obtain ⟨cs, h1, h2, h3, h4, h5⟩ := h
  refine ⟨cs, h1, by rw [List.length_take]; omega, h3, h4, fun i hi => ?_⟩
  rw [List.length_take] at hi
  rw [h5 i (by omega), List.getElem_take]
end Go.Proofs.Ytngldpeapcbbpaa

/-
  Words: all that was made, as a list of objects that lie apart. Plain theorems; no condition.
-/
set_option linter.unusedVariables false
namespace Go.Proofs.Ytngldpeapcbbpaa
open Go.RowKit

theorem Sep.perm {w : World} {B : Nat} {l l' : List Ast} (p : l.Perm l') : ∀ U, Sep w B U l → Sep w B U l' := by
  induction p with
  | nil => exact fun _ h => h
  | cons A _ ih => exact fun U h => Sep.cons ih h
  | swap A B l => exact fun U h => h.swap
  | trans _ _ h1 h2 => exact fun U h => h2 U (h1 U h)
/-- Two objects as one. -/
def Ast.both (A1 A2 : Ast) : Ast where
  holds w F := ∃ F1 F2, A1.holds w F1 ∧ A2.holds w F2 ∧ (∀ k, F2 k → ¬ F1 k) ∧ F = fun k => F1 k ∨ F2 k
  lt := fun {w F k} ⟨F1, F2, h1, h2, _, e⟩ hk => by
    subst e
    rcases hk with hk | hk
    · exact A1.lt h1 hk
    · exact A2.lt h2 hk
  move := fun {w w' F} ⟨F1, F2, h1, h2, h3, e⟩ hs => by
    subst e
    exact ⟨F1, F2, A1.move h1 fun k hk => hs k (.inl hk), A2.move h2 fun k hk => hs k (.inr hk), h3, rfl⟩
theorem Sep.both {w : World} {B : Nat} {U : Nat → Prop} {A1 A2 : Ast} {l : List Ast} (h : Sep w B U (A1 :: A2 :: l)) : Sep w B U (Ast.both A1 A2 :: l) := by
  obtain ⟨F1, h1, g1, F2, h2, g2, h3⟩ := h
  refine ⟨_, ⟨F1, F2, h1, h2, fun k hk e => (g2 k hk).2 (.inr e), rfl⟩, fun k hk => ?_, Sep.weak (fun k hk => ?_) h3⟩
  · rcases hk with hk | hk
    · exact g1 k hk
    · exact ⟨(g2 k hk).1, fun e => (g2 k hk).2 (.inl e)⟩
  · rcases hk with hk | hk | hk
    · exact .inl (.inl hk)
    · exact .inl (.inr hk)
    · exact .inr hk
theorem Sep.apart {w : World} {B : Nat} {U : Nat → Prop} {A1 A2 : Ast} {l : List Ast} (h : Sep w B U (Ast.both A1 A2 :: l)) : Sep w B U (A1 :: A2 :: l) := by
  obtain ⟨F, ⟨F1, F2, h1, h2, h3, rfl⟩, g, h4⟩ := h
  refine ⟨F1, h1, fun k hk => g k (.inl hk), F2, h2, fun k hk => ⟨(g k (.inr hk)).1, fun e => ?_⟩, Sep.weak (fun k hk => ?_) h4⟩
  · rcases e with e | e
    · exact (g k (.inr hk)).2 e
    · exact h3 k hk e
  · rcases hk with (hk | hk) | hk
    · exact .inl hk
    · exact .inr (.inl hk)
    · exact .inr (.inr hk)
theorem front_perm : ∀ (l : List Ast) (i : Nat) (hi : i < l.length), l.Perm (l[i] :: l.eraseIdx i)
  | A :: l, 0, _ => List.Perm.refl _
  | A :: l, i + 1, hi => ((front_perm l i (by simpa using hi)).cons A).trans (List.Perm.swap _ _ _)
/-- What was there at first is as it was; these objects, made since, lie apart. -/
def Hp (W w : World) (l : List Ast) : Prop := Below W.heap.size W w ∧ Sep w W.heap.size Em l
section
variable {W w w' : World} {A A' A1 A2 A1' A2' : Ast} {l l' : List Ast}
theorem Hp.nil (W : World) : Hp W W [] := ⟨Below.refl _ _, trivial⟩
theorem Hp.b (h : Hp W w l) : Below W.heap.size W w := h.1
theorem Hp.size (h : Hp W w l) : W.heap.size ≤ w.heap.size := h.1.size
theorem Hp.perm (h : Hp W w l) (p : l.Perm l') : Hp W w l' := ⟨h.1, Sep.perm p _ h.2⟩
theorem Hp.front (h : Hp W w l) (i : Nat) (hi : i < l.length) : Hp W w (l[i] :: l.eraseIdx i) := h.perm (front_perm l i hi)
theorem Hp.back (h : Hp W w (A :: l)) (i : Nat) (hi : i ≤ l.length) : Hp W w (l.insertIdx i A) := h.perm (List.perm_insertIdx A l hi).symm
theorem Hp.swap (h : Hp W w (A1 :: A2 :: l)) : Hp W w (A2 :: A1 :: l) := ⟨h.1, h.2.swap⟩
theorem Hp.up1 {B0 C : Ast} (h : Hp W w (B0 :: C :: l)) : Hp W w (C :: B0 :: l) := h.front 1 (by simp)
theorem Hp.down1 {B0 C : Ast} (h : Hp W w (C :: B0 :: l)) : Hp W w (B0 :: C :: l) := h.back 1 (by simp)
theorem Hp.up2 {B0 B1 C : Ast} (h : Hp W w (B0 :: B1 :: C :: l)) : Hp W w (C :: B0 :: B1 :: l) := h.front 2 (by simp)
theorem Hp.down2 {B0 B1 C : Ast} (h : Hp W w (C :: B0 :: B1 :: l)) : Hp W w (B0 :: B1 :: C :: l) := h.back 2 (by simp)
theorem Hp.up3 {B0 B1 B2 C : Ast} (h : Hp W w (B0 :: B1 :: B2 :: C :: l)) : Hp W w (C :: B0 :: B1 :: B2 :: l) := h.front 3 (by simp)
theorem Hp.down3 {B0 B1 B2 C : Ast} (h : Hp W w (C :: B0 :: B1 :: B2 :: l)) : Hp W w (B0 :: B1 :: B2 :: C :: l) := h.back 3 (by simp)
theorem Hp.up4 {B0 B1 B2 B3 C : Ast} (h : Hp W w (B0 :: B1 :: B2 :: B3 :: C :: l)) : Hp W w (C :: B0 :: B1 :: B2 :: B3 :: l) := h.front 4 (by simp)
theorem Hp.down4 {B0 B1 B2 B3 C : Ast} (h : Hp W w (C :: B0 :: B1 :: B2 :: B3 :: l)) : Hp W w (B0 :: B1 :: B2 :: B3 :: C :: l) := h.back 4 (by simp)
theorem Hp.up5 {B0 B1 B2 B3 B4 C : Ast} (h : Hp W w (B0 :: B1 :: B2 :: B3 :: B4 :: C :: l)) : Hp W w (C :: B0 :: B1 :: B2 :: B3 :: B4 :: l) := h.front 5 (by simp)
theorem Hp.down5 {B0 B1 B2 B3 B4 C : Ast} (h : Hp W w (C :: B0 :: B1 :: B2 :: B3 :: B4 :: l)) : Hp W w (B0 :: B1 :: B2 :: B3 :: B4 :: C :: l) := h.back 5 (by simp)
theorem Hp.up6 {B0 B1 B2 B3 B4 B5 C : Ast} (h : Hp W w (B0 :: B1 :: B2 :: B3 :: B4 :: B5 :: C :: l)) : Hp W w (C :: B0 :: B1 :: B2 :: B3 :: B4 :: B5 :: l) := h.front 6 (by simp)
theorem Hp.down6 {B0 B1 B2 B3 B4 B5 C : Ast} (h : Hp W w (C :: B0 :: B1 :: B2 :: B3 :: B4 :: B5 :: l)) : Hp W w (B0 :: B1 :: B2 :: B3 :: B4 :: B5 :: C :: l) := h.back 6 (by simp)
theorem Hp.up7 {B0 B1 B2 B3 B4 B5 B6 C : Ast} (h : Hp W w (B0 :: B1 :: B2 :: B3 :: B4 :: B5 :: B6 :: C :: l)) : Hp W w (C :: B0 :: B1 :: B2 :: B3 :: B4 :: B5 :: B6 :: l) := h.front 7 (by simp)
theorem Hp.down7 {B0 B1 B2 B3 B4 B5 B6 C : Ast} (h : Hp W w (C :: B0 :: B1 :: B2 :: B3 :: B4 :: B5 :: B6 :: l)) : Hp W w (B0 :: B1 :: B2 :: B3 :: B4 :: B5 :: B6 :: C :: l) := h.back 7 (by simp)
theorem Hp.up8 {B0 B1 B2 B3 B4 B5 B6 B7 C : Ast} (h : Hp W w (B0 :: B1 :: B2 :: B3 :: B4 :: B5 :: B6 :: B7 :: C :: l)) : Hp W w (C :: B0 :: B1 :: B2 :: B3 :: B4 :: B5 :: B6 :: B7 :: l) := h.front 8 (by simp)
theorem Hp.down8 {B0 B1 B2 B3 B4 B5 B6 B7 C : Ast} (h : Hp W w (C :: B0 :: B1 :: B2 :: B3 :: B4 :: B5 :: B6 :: B7 :: l)) : Hp W w (B0 :: B1 :: B2 :: B3 :: B4 :: B5 :: B6 :: B7 :: C :: l) := h.back 8 (by simp)
theorem Hp.up9 {B0 B1 B2 B3 B4 B5 B6 B7 B8 C : Ast} (h : Hp W w (B0 :: B1 :: B2 :: B3 :: B4 :: B5 :: B6 :: B7 :: B8 :: C :: l)) : Hp W w (C :: B0 :: B1 :: B2 :: B3 :: B4 :: B5 :: B6 :: B7 :: B8 :: l) := h.front 9 (by simp)
theorem Hp.down9 {B0 B1 B2 B3 B4 B5 B6 B7 B8 C : Ast} (h : Hp W w (C :: B0 :: B1 :: B2 :: B3 :: B4 :: B5 :: B6 :: B7 :: B8 :: l)) : Hp W w (B0 :: B1 :: B2 :: B3 :: B4 :: B5 :: B6 :: B7 :: B8 :: C :: l) := h.back 9 (by simp)
theorem Hp.drop (h : Hp W w (A :: l)) : Hp W w l := ⟨h.1, h.2.tail⟩
/-- Some of the objects, each told by its place among those that are left. -/
def pick : List Nat → List Ast → List Ast
  | [], _ => []
  | i :: is, l => match l[i]? with
    | some A => A :: pick is (l.eraseIdx i)
    | none => []
theorem Sep.pick {w : World} {B : Nat} (is : List Nat) : ∀ (l : List Ast) (U : Nat → Prop), Sep w B U l → Sep w B U (pick is l) := by
  induction is with
  | nil => intro l U h; exact trivial
  | cons i is ih =>
    intro l U h
    unfold Go.Proofs.Ytngldpeapcbbpaa.pick
    by_cases hi : i < l.length
    · rw [List.getElem?_eq_getElem hi]
      exact Sep.cons (fun U => ih _ U) (Sep.perm (front_perm l i hi) U h)
    · rw [List.getElem?_eq_none (by omega)]
      exact trivial
theorem Hp.pk (h : Hp W w l) (is : List Nat) : Hp W w (pick is l) := ⟨h.1, Sep.pick is l _ h.2⟩
/-- What turns nothing that was there. -/
theorem Hp.keep (h : Hp W w l) (b : Below w.heap.size w w') : Hp W w' l := ⟨h.1.trans (b.mono h.1.size), Sep.only (Only.of_below b : Only (fun _ => False) w w') (fun _ e => e.elim) h.2⟩
theorem Hp.drewN (h : Hp W w l) (n : Nat) : Hp W (w.drewN n) l := h.keep ⟨rfl, rfl, rfl, Nat.le_refl _, fun _ _ => rfl⟩
theorem Hp.drew (h : Hp W w l) : Hp W w.drew l := h.drewN 1
theorem Hp.alloc (h : Hp W w l) (o : Obj) : Hp W (w.alloc o) l := h.keep ((Below.refl _ _).alloc (Nat.le_refl _) o)
theorem Hp.open1 (h : Hp W w (A :: l)) : ∃ F, A.holds w F ∧ (∀ k, F k → W.heap.size ≤ k ∧ k < w.heap.size) ∧
    ∀ {w' : World} {A' : Ast} {F' : Nat → Prop}, Only F w w' → A'.holds w' F' → (∀ k, F' k → F k ∨ w.heap.size ≤ k) → Hp W w' (A' :: l) := by
  obtain ⟨b, F, h1, h2, h3⟩ := h
  refine ⟨F, h1, fun k hk => ⟨(h2 k hk).1, A.lt h1 hk⟩, fun ho h' hs => ⟨b.trans (ho.below b.size fun k hk => (h2 k hk).1), ?_⟩⟩
  exact Sep.turn h2 h3 (fun _ e => e.elim) b.size ho h' hs
/-- Two objects, both turned. -/
theorem Hp.open2 (h : Hp W w (A1 :: A2 :: l)) : ∃ F1 F2, A1.holds w F1 ∧ A2.holds w F2 ∧ (∀ k, F1 k → W.heap.size ≤ k ∧ k < w.heap.size) ∧ (∀ k, F2 k → W.heap.size ≤ k ∧ k < w.heap.size) ∧ (∀ k, F2 k → ¬ F1 k) ∧
    ∀ {w' : World} {A1' A2' : Ast} {F1' F2' : Nat → Prop}, Only (fun k => F1 k ∨ F2 k) w w' → A1'.holds w' F1' → A2'.holds w' F2' → (∀ k, F1' k → F1 k ∨ w.heap.size ≤ k) → (∀ k, F2' k → F2 k ∨ w.heap.size ≤ k) → (∀ k, F2' k → ¬ F1' k) → Hp W w' (A1' :: A2' :: l) := by
  have hb : Hp W w (Ast.both A1 A2 :: l) := ⟨h.1, h.2.both⟩
  obtain ⟨F, ⟨F1, F2, h1, h2, h3, rfl⟩, h4, K⟩ := hb.open1
  refine ⟨F1, F2, h1, h2, fun k hk => h4 k (.inl hk), fun k hk => h4 k (.inr hk), h3, fun {w' A1' A2' F1' F2'} ho k1 k2 s1 s2 d => ?_⟩
  have := K (A' := Ast.both A1' A2') ho ⟨F1', F2', k1, k2, d, rfl⟩ (fun k hk => by
    rcases hk with hk | hk
    · exact (s1 k hk).imp .inl id
    · exact (s2 k hk).imp .inr id)
  exact ⟨this.1, this.2.apart⟩
theorem Hp.apart (h : Hp W w (Ast.both A1 A2 :: l)) : Hp W w (A1 :: A2 :: l) := ⟨h.1, h.2.apart⟩
theorem Hp.both (h : Hp W w (A1 :: A2 :: l)) : Hp W w (Ast.both A1 A2 :: l) := ⟨h.1, h.2.both⟩
/-- Two objects, the second one only read. -/
theorem Hp.open1r (h : Hp W w (A1 :: A2 :: l)) : ∃ F1 F2, A1.holds w F1 ∧ A2.holds w F2 ∧ (∀ k, F1 k → W.heap.size ≤ k ∧ k < w.heap.size) ∧ (∀ k, F2 k → W.heap.size ≤ k ∧ k < w.heap.size) ∧ (∀ k, F2 k → ¬ F1 k) ∧
    ∀ {w' : World} {A1' : Ast} {F1' : Nat → Prop}, Only F1 w w' → A1'.holds w' F1' → (∀ k, F1' k → F1 k ∨ w.heap.size ≤ k) → Hp W w' (A1' :: A2 :: l) := by
  obtain ⟨F1, F2, h1, h2, g1, g2, h3, K⟩ := h.open2
  refine ⟨F1, F2, h1, h2, g1, g2, h3, fun {w' A1' F1'} ho k1 s1 => K (ho.mono fun k hk => .inl hk) k1 (A2.move h2 fun k hk => ho.block k (g2 k hk).2 (h3 k hk)) s1 (fun k hk => .inl hk) (fun k hk e => ?_)⟩
  rcases s1 k e with e | e
  · exact h3 k hk e
  · have := (g2 k hk).2; omega
/-- Three objects, the second and the third one only read. -/
theorem Hp.open1rr {A3 : Ast} (h : Hp W w (A1 :: A2 :: A3 :: l)) : ∃ F1 F2 F3, A1.holds w F1 ∧ A2.holds w F2 ∧ A3.holds w F3 ∧ (∀ k, F1 k → W.heap.size ≤ k ∧ k < w.heap.size) ∧ (∀ k, F2 k → W.heap.size ≤ k ∧ k < w.heap.size) ∧ (∀ k, F3 k → W.heap.size ≤ k ∧ k < w.heap.size) ∧ (∀ k, F2 k → ¬ F1 k) ∧ (∀ k, F3 k → ¬ F1 k) ∧ (∀ k, F3 k → ¬ F2 k) ∧
    ∀ {w' : World} {A1' : Ast} {F1' : Nat → Prop}, Only F1 w w' → A1'.holds w' F1' → (∀ k, F1' k → F1 k ∨ w.heap.size ≤ k) → Hp W w' (A1' :: A2 :: A3 :: l) := by
  have hb : Hp W w (A1 :: Ast.both A2 A3 :: l) := ⟨h.1, Sep.cons (fun _ => Sep.both) h.2⟩
  obtain ⟨F1, F, h1, ⟨F2, F3, h2, h3, d, rfl⟩, g1, g2, ne, K⟩ := hb.open1r
  refine ⟨F1, F2, F3, h1, h2, h3, g1, fun k hk => g2 k (.inl hk), fun k hk => g2 k (.inr hk), fun k hk => ne k (.inl hk), fun k hk => ne k (.inr hk), d, fun {w' A1' F1'} ho k1 s1 => ?_⟩
  have := K ho k1 s1
  exact ⟨this.1, Sep.cons (fun _ => Sep.apart) this.2⟩
/-- A new object. -/
theorem Hp.new {F' : Nat → Prop} (h : Hp W w l) (b : Below w.heap.size w w') (h' : A'.holds w' F') (hn : ∀ k, F' k → w.heap.size ≤ k) : Hp W w' (A' :: l) :=
  ⟨h.1.trans (b.mono h.1.size), Sep.new h.2 h.1.size b h' hn⟩
/-- An object is turned, whatever it is. -/
theorem Hp.turn (h : Hp W w (A :: l)) (k : ∀ F, A.holds w F → Only F w w' ∧ ∃ F', A'.holds w' F' ∧ ∀ i, F' i → F i ∨ w.heap.size ≤ i) : Hp W w' (A' :: l) := by
  obtain ⟨F, h1, _, K⟩ := h.open1
  obtain ⟨h2, F', h3, h4⟩ := k F h1
  exact K h2 h3 h4
/-- The same object, told otherwise. -/
theorem Hp.say (h : Hp W w (A :: l)) (k : ∀ F, A.holds w F → A'.holds w F) : Hp W w (A' :: l) := h.turn fun F hF => ⟨Only.refl _ _, F, k F hF, fun _ h => .inl h⟩
end
/-- A row of numbers. -/
def rowA (t : TypeId) (k : IntKind) (g cap : Nat) (xs : List Int) : Ast where
  holds w F := RowI w t k g cap xs ∧ F = fun i => i = g
  lt := fun ⟨h, e⟩ hk => by subst e; subst hk; exact h.lt
  move := fun ⟨h, e⟩ hs => by subst e; exact ⟨h.of_same (hs _ rfl), rfl⟩
/-- A slice that owns its block, or is nil. -/
def slA (t : TypeId) (k : IntKind) (v : Value) (xs : List Int) : Ast where
  holds w F := Sl w t k v xs ∧ F = fun i => v.ownBlock = some i
  lt := fun ⟨h, e⟩ hk => by subst e; exact h.lt hk
  move := fun ⟨h, e⟩ hs => by subst e; exact ⟨h.of_same fun g hg => hs g hg, rfl⟩
/-- A block known whole. -/
def blkA (g : Nat) (t : TypeId) (cs : Array Value) : Ast where
  holds w F := Blk w g t cs ∧ F = fun i => i = g
  lt := fun ⟨h, e⟩ hk => by subst e; subst hk; exact h.lt
  move := fun ⟨h, e⟩ hs => by subst e; exact ⟨h.of_same (hs _ rfl), rfl⟩
section
variable {W w w' : World} {t : TypeId} {k : IntKind} {g cap : Nat} {xs : List Int} {v : Value} {cs : Array Value} {l : List Ast}
theorem Hp.row (h : Hp W w (rowA t k g cap xs :: l)) : RowI w t k g cap xs := by obtain ⟨F, h1, _⟩ := h.open1; exact h1.1
theorem Hp.row_ge (h : Hp W w (rowA t k g cap xs :: l)) : W.heap.size ≤ g ∧ g < w.heap.size := by obtain ⟨F, ⟨_, rfl⟩, h2, _⟩ := h.open1; exact h2 g rfl
theorem Hp.sl (h : Hp W w (slA t k v xs :: l)) : Sl w t k v xs := by obtain ⟨F, h1, _⟩ := h.open1; exact h1.1
theorem Hp.blk (h : Hp W w (blkA g t cs :: l)) : Blk w g t cs := by obtain ⟨F, h1, _⟩ := h.open1; exact h1.1
theorem Hp.blk_ge (h : Hp W w (blkA g t cs :: l)) : W.heap.size ≤ g ∧ g < w.heap.size := by obtain ⟨F, ⟨_, rfl⟩, h2, _⟩ := h.open1; exact h2 g rfl
theorem Hp.row_sl (h : Hp W w (rowA t k g cap xs :: l)) {n : Nat} (hn : xs.length = n) : Hp W w (slA t k (.slice (some ⟨g, 0, none⟩) n cap) xs :: l) :=
  h.say fun F ⟨h1, h2⟩ => ⟨by subst hn; exact Sl.row h1, by subst h2; funext i; exact propext ⟨fun e => by subst e; rfl, fun e => by injection e with e; exact e.symm⟩⟩
theorem Hp.set (h : Hp W w (rowA t k g cap xs :: l)) (i : Nat) (x : Int) : Hp W (w.setCell ⟨g, i, none⟩ (.int k x)) (rowA t k g cap (xs.set i x) :: l) :=
  h.turn fun F ⟨h1, h2⟩ => ⟨(Only.refl F w).set (p := ⟨g, i, none⟩) (.inl (by subst h2; rfl)) _, F, ⟨h1.set i x, h2⟩, fun _ h => .inl h⟩
theorem Hp.bset (h : Hp W w (blkA g t cs :: l)) (i : Nat) (u : Value) : Hp W (w.setCell ⟨g, i, none⟩ u) (blkA g t (cs.setIfInBounds i u) :: l) :=
  h.turn fun F ⟨h1, h2⟩ => ⟨(Only.refl F w).set (p := ⟨g, i, none⟩) (.inl (by subst h2; rfl)) _, F, ⟨h1.set i u, h2⟩, fun _ h => .inl h⟩
theorem Hp.new_row (h : Hp W w l) (t : TypeId) (k : IntKind) (n : Nat) (x : Int) (hn : n ≤ maxLen) : Hp W (w.alloc (.cells (madeCells #[.int k x] n) t)) (rowA t k w.heap.size n (List.replicate n x) :: l) :=
  h.new ((Below.refl _ _).alloc (Nat.le_refl _) _) (A' := rowA t k w.heap.size n (List.replicate n x)) ⟨RowI.new w t k n x hn, rfl⟩ (fun i e => by subst e; exact Nat.le_refl _)
theorem Hp.new_blk (h : Hp W w l) (t : TypeId) (cs : Array Value) : Hp W (w.alloc (.cells cs t)) (blkA w.heap.size t cs :: l) :=
  h.new ((Below.refl _ _).alloc (Nat.le_refl _) _) (A' := blkA w.heap.size t cs) ⟨Blk.new w t cs, rfl⟩ (fun i e => by subst e; exact Nat.le_refl _)
/-- A row that a callee made. -/
theorem Hp.add_row (h : Hp W w l) (b : Below w.heap.size w w') (r : RowI w' t k g cap xs) (hg : w.heap.size ≤ g) : Hp W w' (rowA t k g cap xs :: l) :=
  h.new b (A' := rowA t k g cap xs) ⟨r, rfl⟩ (fun i e => by subst e; exact hg)
theorem Hp.add_sl (h : Hp W w l) (b : Below w.heap.size w w') (r : Sl w' t k v xs) (hg : ∀ g, v.ownBlock = some g → w.heap.size ≤ g) : Hp W w' (slA t k v xs :: l) :=
  h.new b (A' := slA t k v xs) ⟨r, rfl⟩ (fun i e => hg i e)
theorem Hp.push (h : Hp W w (slA t k v xs :: l)) {g cap H : Nat} {ys : List Int} (p : Pushed w w' t k v g cap ys H) (hH : w.heap.size ≤ H) : Hp W w' (rowA t k g cap ys :: l) :=
  h.turn fun F ⟨h1, h2⟩ => ⟨by subst h2; exact p.only, _, ⟨p.row, rfl⟩, fun i e => by
    subst e
    subst h2
    rcases p.at_ with h | h
    · exact .inl h
    · right; omega⟩
end
/-- The text of bytes. -/
theorem Src.str {P : Program} {w : World} {src dst e : TypeId} (hs : P.underlying src = some (.slice e)) (he : P.underlying e = some (.int .u8)) (hd : P.underlying dst = some .string) {u : Value} {xs : List Int} (h : Src w .u8 u xs) :
    (convert src dst u).run P w = .ok (.string (strOfNums xs)) w := by
  obtain ⟨A, c, rfl, h⟩ := h
  rw [run_convert_bytes_string w src dst e A xs.length c hs he hd]
  cases A with
  | none =>
    have h0 : xs = [] := by
      rcases Nat.eq_zero_or_pos xs.length with h0 | h0
      · exact List.eq_nil_of_length_eq_zero h0
      · obtain ⟨ad, e, _⟩ := h h0; cases e
    subst h0
    simp [Conv.bytesToString, strOfNums]
    rfl
  | some a =>
    have hl : (loadCells a xs.length).run P w = .ok (xs.map (Value.int .u8)).toArray w := by
      have := run_loadCells_list (P := P) w a (xs.map (Value.int .u8)) (fun j v hj => by
        have hjl : j < xs.length := by
          rcases Nat.lt_or_ge j xs.length with h | h
          · exact h
          · simp [List.getElem?_eq_none (show (xs.map (Value.int .u8)).length ≤ j by simpa using h)] at hj
        obtain ⟨ad, e, hc⟩ := h (by omega)
        injection e with e
        subst e
        rw [hc j hjl]
        simp [List.getElem?_eq_getElem hjl] at hj
        rw [← hj])
      simpa using this
    rw [run_bytesToString w a xs.length c xs hl, foldl_push_bytes]
    simp [strOfNums, ByteArray.empty, ByteArray.emptyWithCapacity]
    rfl
end Go.Proofs.Ytngldpeapcbbpaa

/-
  Words: slices of numbers that come in as arguments. Plain theorems; no condition.
-/
set_option linter.unusedVariables false
namespace Go.Proofs.Ytngldpeapcbbpaa
open Go.RowKit

/-- A slice of numbers as it comes in: cap cells, of which the first len are told. -/
def IsRow (k : IntKind) (w : World) (a : Option Addr) (len cap : Nat) (zs : List Int) : Prop :=
  (a = none ∧ len = 0 ∧ cap = 0 ∧ zs = []) ∨
  ∃ x, a = some x ∧ len ≤ cap ∧ cap ≤ maxLen ∧ zs.length = cap ∧ (∀ i, i < zs.length → w.cell? (x.add i) = some (.int k (zs.getD i 0))) ∧ ∀ n ∈ zs, (Lit.int k n).wf = true
theorem IsRow.take_len {k : IntKind} {w : World} {a : Option Addr} {len cap : Nat} {zs : List Int} (h : IsRow k w a len cap zs) : (zs.take len).length = len := by
  rw [List.length_take]
  rcases h with ⟨_, rfl, _, rfl⟩ | ⟨x, _, h1, _, h2, _⟩
  · rfl
  · omega
theorem IsRow.src {k : IntKind} {w : World} {a : Option Addr} {len cap : Nat} {zs : List Int} (h : IsRow k w a len cap zs) : Src w k (.slice a len cap) (zs.take len) := by
  have hl := h.take_len
  rcases h with ⟨rfl, rfl, rfl, rfl⟩ | ⟨x, rfl, h1, _, h2, h3, _⟩
  · exact ⟨none, 0, rfl, fun h => by simp at h⟩
  · refine ⟨some x, cap, by rw [hl], fun _ => ⟨x, rfl, fun j hj => ?_⟩⟩
    rw [h3 j (by omega)]
    congr 2
    rw [List.getElem_take, List.getD_eq_getElem?_getD, List.getElem?_eq_getElem (by omega)]; rfl
theorem IsRow.wf {k : IntKind} {w : World} {a : Option Addr} {len cap : Nat} {zs : List Int} (h : IsRow k w a len cap zs) : ∀ n ∈ zs.take len, (Lit.int k n).wf = true := by
  intro n hn
  have hn := List.mem_of_mem_take hn
  rcases h with ⟨_, _, _, rfl⟩ | ⟨x, _, _, _, _, _, h⟩
  · cases hn
  · exact h n hn
theorem wf_u8 {n : Int} (h : (Lit.int .u8 n).wf = true) : 0 ≤ n ∧ n ≤ 255 := by
  simp only [Lit.wf, Bool.and_eq_true, decide_eq_true_eq] at h
  have e1 : IntKind.min .u8 = 0 := by decide
  have e2 : IntKind.max .u8 = 255 := by decide
  rw [e1, e2] at h
  exact h
/-- What lies at the j-th place of a slice that came in. -/
theorem Src.cell {w : World} {k : IntKind} {A : Option Addr} {n c : Nat} {ys : List Int} (h : Src w k (.slice A n c) ys) {j : Nat} (hj : j < ys.length) : ∃ ad, A = some ad ∧ w.cell? (ad.add j) = some (.int k ys[j]) := by
  obtain ⟨A', c', e, h⟩ := h
  injection e with e1 e2 e3
  subst e1
  obtain ⟨ad, e4, h⟩ := h (by omega)
  exact ⟨ad, e4, h j hj⟩
end Go.Proofs.Ytngldpeapcbbpaa

/-
  Words: slices that are read while objects are turned. Plain theorems; no condition.
-/
set_option linter.unusedVariables false
namespace Go.Proofs.Ytngldpeapcbbpaa
open Go.RowKit

/-- u holds these numbers as long as these objects are as they are. -/
def Rd (W : World) (L : List Ast) (k : IntKind) (u : Value) (ys : List Int) : Prop := ∀ w, Hp W w L → Src w k u ys
section
variable {W w : World} {L : List Ast} {k : IntKind} {u v : Value} {ys xs : List Int} {t : TypeId} {g cap : Nat}
theorem Rd.arg (h : Src W k u ys) : Rd W L k u ys := fun w H => Src.below h H.b
theorem Rd.row : Rd W (rowA t k g cap xs :: L) k (.slice (some ⟨g, 0, none⟩) xs.length cap) xs := fun w H => Src.of_sl (Sl.row H.row)
theorem Rd.rown {n : Nat} (hn : xs.length = n) : Rd W (rowA t k g cap xs :: L) k (.slice (some ⟨g, 0, none⟩) n cap) xs := by subst hn; exact Rd.row
theorem Rd.sl : Rd W (slA t k v xs :: L) k v xs := fun w H => Src.of_sl H.sl
theorem Rd.nil : Rd W L k (.slice none 0 0) [] := fun w H => ⟨none, 0, rfl, fun h => by simp at h⟩
theorem Rd.pk (is : List Nat) (h : Rd W (pick is L) k u ys) : Rd W L k u ys := fun w H => h w (H.pk is)
theorem Rd.tail {A : Ast} (h : Rd W L k u ys) : Rd W (A :: L) k u ys := fun w H => h w H.drop
theorem Rd.cell {ad : Addr} {n c j : Nat} (r : Rd W L k (.slice (some ad) n c) ys) (hj : j < ys.length) (w : World) (h : Hp W w L) : w.cell? (ad.add j) = some (.int k ys[j]) := by
  obtain ⟨a, e, d⟩ := (r w h).cell hj
  cases e
  exact d
theorem Src.form (h : Src w k u ys) : ∃ A c, u = .slice A ys.length c := by obtain ⟨A, c, e, _⟩ := h; exact ⟨A, c, e⟩
end
end Go.Proofs.Ytngldpeapcbbpaa

/-
  Words: regions that draw their order, under a condition that is sharpened on the way. Plain theorems; no condition.
-/
set_option linter.unusedVariables false
namespace Go.Proofs.Ytngldpeapcbbpaa
open Go.RowKit

theorem wpAnyH_imp {P : Program} {md : Region.Mode} {ops : Array Oper} {Q : Exit → Act → World → Prop} {S S' : World → Prop} (hs : ∀ w, S w → S' w) :
    ∀ (fuel : Nat) (listed : Array Bool) (a : Act) (w : World), wpAnyH P md ops Q S fuel listed a w → wpAnyH P md ops Q S' fuel listed a w
  | 0, _, _, _, h => h
  | fuel + 1, _, _, _, h => ⟨h.1, fun i hi => wpOp_mono (fun a' w' h' => ⟨hs _ h'.1, wpAnyH_imp hs fuel _ a' w' h'.2⟩) (h.2 i hi)⟩
end Go.Proofs.Ytngldpeapcbbpaa

/-
  What the document's quarter of a circle says is the table; no condition.
-/
set_option linter.unusedVariables false
set_option linter.unusedSimpArgs false
namespace Go.Proofs.Ytngldpeapcbbpaa.Bnd
open Go.RowKit Go.Proofs.Ytngldpeapcbbpaa Go.Proofs.YtngldpeapcbbpaaW.PrintWords Go.Proofs.YtngldpeapcbbpaaW.PrintLast Go.Proofs.YtngldpeapcbbpaaW.PrintMore Go.Proofs.Ytngldpeapcbbpaa.PQuarter
theorem QT_len : QT.length = 1025 := by rw [← sel_all, sel_len]
theorem rd_QT (x : Int) : rd QT x = qt x.toNat := rfl
theorem ref_root : ∀ e : Fin 10, sidebandref04_root.f 60 ((16777216 + qt (2 ^ (e.val + 1))) * 8388608) = some (qt (2 ^ e.val)) := by decide +kernel
theorem ref_start : (List.replicate 1025 (0 : Int)).set 0 16777216 = sel (pw 1024) := by decide +kernel
attribute [local irreducible] qt QT sel cv cb
theorem wrap64_id {x : Int} (h0 : -9223372036854775808 ≤ x) (h1 : x < 9223372036854775808) : wrap64 x = x := by unfold wrap64; omega
theorem root_up (x r : Int) (n : Nat) (h : sidebandref04_root.f 60 x = some r) : sidebandref04_root.f (60 + n) x = some r := by
  induction n with
  | zero => exact h
  | succ n ih => exact sidebandref04_root.mono x (60 + n) r ih
/-- A quotient, to the nearest one. -/
theorem nearest (N y : Int) (hN : 0 ≤ N) (hy : 0 < y) : (2 * N + y) / (2 * y) = if 2 * (N % y) ≥ y then N / y + 1 else N / y := by
  have e := Int.emod_add_mul_ediv N y
  have h0 := Int.emod_nonneg N (show y ≠ 0 by omega)
  have h1 := Int.emod_lt_of_pos N hy
  generalize N % y = r at *
  generalize N / y = q at *
  have e2 : 2 * N + y = (2 * r + y) + (2 * y) * q := by rw [← e, Int.mul_add, Int.mul_assoc]; omega
  rw [e2, Int.add_mul_ediv_left _ _ (show 2 * y ≠ 0 by omega)]
  split
  · rename_i h
    rw [show (2 * r + y) / (2 * y) = 1 from by
      rw [show 2 * r + y = (2 * r - y) + (2 * y) * 1 from by omega, Int.add_mul_ediv_left _ _ (show 2 * y ≠ 0 by omega), Int.ediv_eq_zero_of_lt (by omega) (by omega)]; rfl]
    omega
  · rw [Int.ediv_eq_zero_of_lt (by omega) (by omega)]
    omega
set_option maxRecDepth 10000 in
theorem l1_one (n : Nat) (l : List Int) (h g a : Nat) (hl : l.length = 1025) (hg : h = 2 * g) (g0 : 0 < g) (ha : a + h ≤ 1024) (xa xb y : Int) (Ra : rd l (a : Int) = xa) (Rb : rd l ((a + h : Nat) : Int) = xb) (Rc : rd l (g : Int) = y)
    (ba : 0 ≤ xa ∧ xa ≤ 16777216) (bb : 0 ≤ xb ∧ xb ≤ 16777216) (y0 : 0 < y ∧ y ≤ 16777216) :
    sidebandref04_Quarter.l1 (n + 1) l h a = sidebandref04_Quarter.l1 n (l.set (a + g) ((2 * ((xa + xb) * 8388608) + y) / (2 * y))) h ((a + h : Nat) : Int) := by
  have E1 : Hid (wrap64 ((a : Int) + (h : Int)) = ((a + h : Nat) : Int)) := Lib.hid (wrap64_id (by omega) (by omega))
  have E2 : Hid (wrap64 (Int.tdiv (h : Int) 2) = (g : Int)) := Lib.hid (by rw [Int.tdiv_eq_ediv_of_nonneg (by omega), wrap64_id (by omega) (by omega)]; omega)
  have E3 : Hid (wrap64 ((a : Int) + (g : Int)) = ((a + g : Nat) : Int)) := Lib.hid (wrap64_id (by omega) (by omega))
  have W1 : Hid (wrap64 (xa + xb) = xa + xb) := Lib.hid (wrap64_id (by omega) (by omega))
  have hN : 0 ≤ (xa + xb) * 8388608 ∧ (xa + xb) * 8388608 ≤ 281474976710656 := by omega
  have W2 : Hid (wrap64 ((xa + xb) * 8388608) = (xa + xb) * 8388608) := Lib.hid (wrap64_id (by omega) (by omega))
  rw [nearest _ _ hN.1 y0.1]
  generalize hNN : (xa + xb) * 8388608 = N at *
  have T1 : Int.tmod N y = N % y := Int.tmod_eq_emod_of_nonneg hN.1
  have T2 : Int.tdiv N y = N / y := Int.tdiv_eq_ediv_of_nonneg hN.1
  have m0 := Int.emod_nonneg N (show y ≠ 0 by omega)
  have m1 := Int.emod_lt_of_pos N y0.1
  have d0 := Int.ediv_nonneg hN.1 (Int.le_of_lt y0.1)
  have d1 : N / y ≤ N := Int.ediv_le_self _ hN.1
  have W3 : Hid (wrap64 (2 * (N % y)) = 2 * (N % y)) := Lib.hid (wrap64_id (by omega) (by omega))
  have W4 : Hid (wrap64 (N / y) = N / y) := Lib.hid (wrap64_id (by omega) (by omega))
  have W5 : Hid (wrap64 (N / y + 1) = N / y + 1) := Lib.hid (wrap64_id (by omega) (by omega))
  simp only [sidebandref04_Quarter.l1, E1.out, E2.out, E3.out, Ra, Rb, Rc, W1.out, hNN, W2.out, T1, T2, W3.out, W4.out, W5.out, hl]
  rw [if_pos (by omega), if_pos (by omega), if_pos (by omega), if_pos (by omega), if_pos (by omega), if_pos (by omega), if_pos (by omega), if_neg (by omega)]
  split
  · rw [if_pos (by omega), if_pos (by omega), Int.toNat_natCast]
  · rw [if_pos (by omega), if_pos (by omega), Int.toNat_natCast]
set_option maxRecDepth 10000 in
theorem l1_end (n : Nat) (l : List Int) (h g : Nat) (hg : h = 2 * g) (g0 : 0 < g) (hh : h ≤ 1024) : sidebandref04_Quarter.l1 (n + 1) l h (1024 : Nat) = sidebandref04_Quarter.l0 n l (g : Int) := by
  have E1 : Hid (wrap64 (((1024 : Nat) : Int) + (h : Int)) = ((1024 + h : Nat) : Int)) := Lib.hid (wrap64_id (by omega) (by omega))
  have E2 : Hid (wrap64 (Int.tdiv (h : Int) 2) = (g : Int)) := Lib.hid (by rw [Int.tdiv_eq_ediv_of_nonneg (by omega), wrap64_id (by omega) (by omega)]; omega)
  simp only [sidebandref04_Quarter.l1, E1.out, E2.out]
  rw [if_neg (by omega)]
set_option maxRecDepth 10000 in
theorem l0_one (n : Nat) (l : List Int) (h g : Nat) (hl : l.length = 1025) (hg : h = 2 * g) (g0 : 0 < g) (hh : h ≤ 1024) (x y : Int) (Ra : rd l (h : Int) = x) (bx : 0 ≤ x ∧ x ≤ 16777216) (hr : sidebandref04_root.f n ((16777216 + x) * 8388608) = some y) :
    sidebandref04_Quarter.l0 (n + 1) l h = sidebandref04_Quarter.l1 n (l.set g y) h h := by
  have E2 : Hid (wrap64 (Int.tdiv (h : Int) 2) = (g : Int)) := Lib.hid (by rw [Int.tdiv_eq_ediv_of_nonneg (by omega), wrap64_id (by omega) (by omega)]; omega)
  have W1 : Hid (wrap64 (16777216 + x) = 16777216 + x) := Lib.hid (wrap64_id (by omega) (by omega))
  have W2 : Hid (wrap64 ((16777216 + x) * 8388608) = (16777216 + x) * 8388608) := Lib.hid (wrap64_id (by omega) (by omega))
  simp only [sidebandref04_Quarter.l0, E2.out, Ra, W1.out, W2.out, hr, hl, Option.bind_some]
  rw [if_pos (by omega), if_pos (by omega), if_pos (by omega), if_pos (by omega), if_pos (by omega), Int.toNat_natCast]
/-- The places filled in a round of the document's. -/
def pref (h a i : Nat) : Bool := pin h a i || i == h / 2
theorem rd_sel (p : Nat → Bool) (i : Nat) (h : i < 1025) (hp : p i = true) : rd (sel p) (i : Int) = qt i := by
  unfold rd
  rw [Int.toNat_natCast, List.getD_eq_getElem?_getD, List.getElem?_eq_getElem (by rw [sel_len]; exact h), sel_get _ _ h hp]
  rfl
theorem inner (e : Nat) (he : e < 10) (K0 : Nat) (ih : ∀ n, K0 ≤ n → sidebandref04_Quarter.l0 n (sel (pw (2 ^ e))) ((2 ^ e : Nat) : Int) = some QT) :
    ∀ j k, (k + 1) * 2 ^ (e + 1) + j * 2 ^ (e + 1) = 1024 → ∃ K, ∀ n, K ≤ n → sidebandref04_Quarter.l1 n (sel (pref (2 ^ (e + 1)) ((k + 1) * 2 ^ (e + 1)))) ((2 ^ (e + 1) : Nat) : Int) (((k + 1) * 2 ^ (e + 1) : Nat) : Int) = some QT := by
  obtain ⟨b1, b2, b3, b4, b5⟩ := pow_e ⟨e, he⟩
  simp only at b1 b2 b3 b4 b5
  intro j
  induction j with
  | zero =>
    intro k hk
    refine ⟨K0 + 1, fun n hn => ?_⟩
    obtain ⟨n, rfl⟩ : ∃ m, n = m + 1 := ⟨n - 1, by omega⟩
    rw [show (k + 1) * 2 ^ (e + 1) = 1024 from by omega, l1_end n _ _ (2 ^ e) b3 b5 b2, ← ih n (by omega)]
    congr 1
    apply sel_eq
    intro i hi
    rw [pin_last (2 ^ e) i b5 hi (by rw [← b3]; exact b4), pref, b3, show 2 * 2 ^ e / 2 = 2 ^ e from by omega]
  | succ j jh =>
    intro k hk
    obtain ⟨K, hK⟩ := jh (k + 1) (by rw [Nat.add_mul (k + 1) 1, Nat.one_mul]; rw [Nat.add_mul j 1, Nat.one_mul] at hk; omega)
    refine ⟨K + 1, fun n hn => ?_⟩
    obtain ⟨n, rfl⟩ : ∃ m, n = m + 1 := ⟨n - 1, by omega⟩
    have hn2 : (k + 1 + 1) * 2 ^ (e + 1) = (k + 1) * 2 ^ (e + 1) + 2 ^ (e + 1) := by rw [Nat.add_mul (k + 1) 1, Nat.one_mul]
    have hle : (k + 1) * 2 ^ (e + 1) + 2 ^ (e + 1) ≤ 1024 := by rw [Nat.add_mul j 1, Nat.one_mul] at hk; omega
    have hk512 : k < 512 := by
      rcases Nat.lt_or_ge k 512 with hq | hq
      · exact hq
      · have : (512 + 1) * 2 ≤ (k + 1) * 2 ^ (e + 1) := Nat.mul_le_mul (by omega) (by omega)
        omega
    have M := qt_mid ⟨e, he⟩ ⟨k, hk512⟩ (by show (k + 1) * 2 ^ (e + 1) < 1024; omega)
    simp only at M
    have p1 := root_pos ⟨e, he⟩
    have q1 := qt_bd ⟨2 ^ e, by omega⟩
    have qa := qt_bd ⟨(k + 1) * 2 ^ (e + 1), by omega⟩
    have qb := qt_bd ⟨(k + 1) * 2 ^ (e + 1) + 2 ^ (e + 1), by omega⟩
    simp only at p1 q1 qa qb
    have P0 : ∀ i, pin (2 ^ (e + 1)) ((k + 1) * 2 ^ (e + 1)) i = true → pref (2 ^ (e + 1)) ((k + 1) * 2 ^ (e + 1)) i = true := fun i h => by unfold pref; rw [h]; rfl
    rw [l1_one n _ _ (2 ^ e) ((k + 1) * 2 ^ (e + 1)) (sel_len _) b3 b5 hle (qt ((k + 1) * 2 ^ (e + 1))) (qt ((k + 1) * 2 ^ (e + 1) + 2 ^ (e + 1))) (qt (2 ^ e))
      (rd_sel _ _ (by omega) (P0 _ (pin_at _ _ _))) (rd_sel _ _ (by omega) (P0 _ (by rw [← hn2]; exact pin_at _ _ _))) (rd_sel _ _ (by omega) (by unfold pref; rw [show 2 ^ (e + 1) / 2 = 2 ^ e from by omega]; simp)) qa qb ⟨p1, q1.2⟩,
      ← hn2, M, ← hK n (by omega)]
    congr 1
    apply sel_set
    intro i _
    have hs := pin_step (2 ^ e) k i b5
    rw [← b3] at hs
    unfold pref
    rw [hs]
    cases pin (2 ^ (e + 1)) ((k + 1) * 2 ^ (e + 1)) i <;> cases (i == (k + 1) * 2 ^ (e + 1) + 2 ^ e) <;> cases (i == 2 ^ (e + 1) / 2) <;> rfl
theorem outer : ∀ e, e ≤ 10 → ∃ K, ∀ n, K ≤ n → sidebandref04_Quarter.l0 n (sel (pw (2 ^ e))) ((2 ^ e : Nat) : Int) = some QT := by
  intro e
  induction e with
  | zero =>
    intro _
    refine ⟨1, fun n hn => ?_⟩
    obtain ⟨n, rfl⟩ : ∃ m, n = m + 1 := ⟨n - 1, by omega⟩
    rw [show (2 : Nat) ^ 0 = 1 from rfl, sel_eq (pw 1) (fun _ => true) (fun j _ => by simp [pw, Nat.mod_one]), sel_all]
    simp only [sidebandref04_Quarter.l0]
    rw [if_neg (by omega)]
  | succ e ihe =>
    intro he
    obtain ⟨b1, b2, b3, b4, b5⟩ := pow_e ⟨e, by omega⟩
    simp only at b1 b2 b3 b4 b5
    obtain ⟨K0, hK0⟩ := ihe (by omega)
    obtain ⟨K, hK⟩ := inner e (by omega) K0 hK0 (1024 / 2 ^ (e + 1) - 1) 0 (by
      have hD : 1024 / 2 ^ (e + 1) * 2 ^ (e + 1) = 1024 := Nat.div_mul_cancel (Nat.dvd_of_mod_eq_zero b4)
      rw [← Nat.add_mul, show 0 + 1 + (1024 / 2 ^ (e + 1) - 1) = 1024 / 2 ^ (e + 1) from by
        rcases Nat.eq_zero_or_pos (1024 / 2 ^ (e + 1)) with h | h
        · rw [h] at hD; omega
        · omega, hD])
    refine ⟨K + 61, fun n hn => ?_⟩
    obtain ⟨n, rfl⟩ : ∃ m, n = m + 1 := ⟨n - 1, by omega⟩
    have r1 := ref_root ⟨e, by omega⟩
    simp only at r1
    have q1 := qt_bd ⟨2 ^ (e + 1), by omega⟩
    simp only at q1
    rw [l0_one n _ _ (2 ^ e) (sel_len _) b3 b5 b2 (qt (2 ^ (e + 1))) (qt (2 ^ e)) (rd_sel _ _ (by omega) (by simp [pw])) q1 (by
      obtain ⟨m, rfl⟩ : ∃ m, n = 60 + m := ⟨n - 60, by omega⟩
      exact root_up _ _ m r1), ← hK n (by omega)]
    rw [Nat.zero_add, Nat.one_mul]
    congr 1
    apply sel_set
    intro i _
    have hs := pin_first (2 ^ (e + 1)) i (by omega)
    rw [Nat.zero_add, Nat.one_mul] at hs
    unfold pref
    rw [← hs, show 2 ^ (e + 1) / 2 = 2 ^ e from by omega]
theorem ref_quarter : ∃ k, sidebandref04_Quarter.f k = some QT := by
  obtain ⟨K, hK⟩ := outer 10 (by omega)
  refine ⟨K, ?_⟩
  have := hK K (Nat.le_refl _)
  unfold sidebandref04_Quarter.f
  rw [if_pos (by decide), Option.bind_some, if_pos (by rw [List.length_replicate]; decide), show (0 : Int).toNat = 0 from rfl, ref_start]
  exact this
theorem quarter_row (w : World) : Calls Try.prog 21 #[] w fun e w' => ∃ g cap, e = .returned (.slice (some ⟨g, 0, none⟩) QT.length cap) ∧ RowI w' 2 .i64 g cap QT ∧ Below w.heap.size w w' := by
  obtain ⟨k, hk⟩ := ref_quarter
  refine (sidebandref04_Quarter.calls k QT w hk).mono ?_
  rintro e w' ⟨v, rfl, hR, hb⟩
  obtain ⟨g, cap, rfl, _, hr⟩ := rowI_of_R hR (by rw [QT_len]; omega)
  exact ⟨g, cap, rfl, hr, hb⟩
theorem quarter_row' (w : World) : Calls Try.prog 21 #[] w fun e w' => ∃ g cap, e = .returned (.slice (some ⟨g, 0, none⟩) QT.length cap) ∧ w.heap.size ≤ g ∧ RowI w' 2 .i64 g cap QT ∧ Below w.heap.size w w' := by
  obtain ⟨k, hk⟩ := ref_quarter
  refine (sidebandref04_Quarter.calls k QT w hk).mono ?_
  rintro e w' ⟨v, rfl, hR, hb⟩
  obtain ⟨g, cap, rfl, hg, hr⟩ := rowI_of_R hR (by rw [QT_len]; omega)
  exact ⟨g, cap, rfl, hg, hr, hb⟩
end Go.Proofs.Ytngldpeapcbbpaa.Bnd

/-
  A lapped transform: its making, its tests, folding and turning; walks. No condition but those told.
-/
set_option linter.unusedVariables false
set_option linter.unusedSimpArgs false
namespace Go.Proofs.Ytngldpeapcbbpaa.Lap
open Go.RowKit Go.Proofs.Ytngldpeapcbbpaa Go.Proofs.Ytngldpeapcbbpaa.Bnd Go.Proofs.Ytngldpeapcbbpaa.Art Go.Proofs.YtngldpeapcbbpaaW.PrintWords

theorem Hp_cell {W w : World} {l : List Ast} (H : Hp W w l) {p : Addr} {v : Value} (h : W.cell? p = some v) : w.cell? p = some v := (H.b.cell (World.block_lt_of_cell? _ _ h)).trans h
/-- A transform: of which circle, how many lines. -/
structure IsLap (w : World) (t c : Nat) (n un b : Int) : Prop where
  blk : Blk w t 74 #[.pointer (some ⟨c, 0, none⟩), .int .i64 n, .int .i64 un, .int .i64 b]
  circ : Circ w c
theorem IsLap.below {W w : World} {t c : Nat} {n un b : Int} (h : IsLap W t c n un b) (hb : Below W.heap.size W w) : IsLap w t c n un b := ⟨h.blk.below hb h.blk.lt, Blk.below h.circ hb (Blk.lt h.circ)⟩
theorem Src.at {w : World} {k : IntKind} {A : Option Addr} {n c : Nat} {ys : List Int} (h : Src w k (.slice A n c) ys) {j : Nat} (hj : j < ys.length) : ∃ ad, A = some ad ∧ w.cell? (ad.add j) = some (.int k (ys.getD j 0)) := by
  obtain ⟨ad, e, h⟩ := h.cell hj
  refine ⟨ad, e, ?_⟩
  rw [h]
  simp [List.getD, List.getElem?_eq_getElem hj]
theorem mk64 (n : Nat) (hn : n ≤ 4096) (w : World) : (Instr.makeSlice 31 (.int .i64 n) (.int .i64 n)).run Try.prog w = .ok (.slice (some ⟨w.heap.size, 0, none⟩) n n) (w.alloc (.cells (madeCells #[.int .i64 0] n) 2)) :=
  run_make_row' 31 2 (.int .i64 0) 8 Try.underlying31 (by kernel_rfl) rfl .i64 .i64 n (by omega) (by omega) w
theorem mk32 (n : Nat) (hn : n ≤ 4096) (w : World) : (Instr.makeSlice 22 (.int .i64 n) (.int .i64 n)).run Try.prog w = .ok (.slice (some ⟨w.heap.size, 0, none⟩) n n) (w.alloc (.cells (madeCells #[.int .i32 0] n) 21)) :=
  run_make_row' 22 21 (.int .i32 0) 4 Try.underlying22 (by kernel_rfl) rfl .i64 .i64 n (by omega) (by omega) w
/-- Numbers turned. -/
def turnv (n un : Nat) (D : Int) (ys : List Int) : List Int := (List.range n).map fun k => rdv D (dot un (fun j => ys.getD j 0) n k)
attribute [local irreducible] cosv wgt
set_option maxHeartbeats 1000000 in
set_option maxRecDepth 100000 in
theorem turn512 {w : World} {t c : Nat} (h : IsLap w t c 512 1 28) {A : Option Addr} {cap : Nat} {ys : List Int} (src : Src w .i64 (.slice A 512 cap) ys) (hl : ys.length = 512) (bd : ∀ j, -33554432 ≤ ys.getD j 0 ∧ ys.getD j 0 ≤ 33554432) :
    Calls Try.prog 44 #[.pointer (some ⟨t, 0, none⟩), .slice A 512 cap] w fun e w' => ∃ g, e = .returned (.slice (some ⟨g, 0, none⟩) 512 512) ∧ w.heap.size ≤ g ∧ RowI w' 2 .i64 g 512 (turnv 512 1 268435456 ys) ∧ Below w.heap.size w w' := by
  have ht := h.blk.lt
  obtain ⟨ad, rfl, _⟩ := Src.at src (j := 0) (by omega)
  have HA : Hid (∀ wr, Hp w wr [] → ∀ j, j < 512 → wr.cell? (ad.add j) = some (.int .i64 (ys.getD j 0))) := Lib.hid fun wr H j hj => by
    obtain ⟨_, e, hc⟩ := Src.at (Src.below src H.b) (j := j) (by omega)
    cases e
    exact hc
  have c0 := h.blk.cell (i := 0) rfl
  have c1 := h.blk.cell (i := 1) rfl
  have c2 := h.blk.cell (i := 2) rfl
  have c3 := h.blk.cell (i := 3) rfl
  have HL := Lib.hid h
  have BD := Lib.hid bd
  clear h src hl bd
  obtain ⟨f, hf⟩ : ∃ f : Nat → Int, f = fun k => rdv 268435456 (dot 1 (fun j => ys.getD j 0) 512 k) := ⟨_, rfl⟩
  have ef : turnv 512 1 268435456 ys = fillTo f 512 512 := by rw [hf, fillTo_all]; rfl
  rw [ef]
  have HF := Lib.hid hf
  clear hf ef
  have H0 : Hid (Hp w (w.alloc (.cells (madeCells #[.int .i64 0] 512) 2)) [rowA 2 .i64 w.heap.size 512 (fillTo f 512 0)]) := Lib.hid (by
    rw [fillTo_zero]
    exact (Hp.nil w).new_row 2 .i64 512 0 (by decide))
  have hm := mk64 512 (by decide)
  rw [show ((512 : Nat) : Int) = 512 from rfl] at hm
  go_enter Try.func44, Try.ntmps44
  go_wp2_with fail
  go_loopw [19] (fun u wr => ∃ k : Nat, k ≤ 512 ∧ u = .int .i64 (k : Int) ∧ Hid (Hp w wr [rowA 2 .i64 w.heap.size 512 (fillTo f 512 k)])) (fun u _ => 512 - (intOf u).toNat)
  case atStart => exact ⟨0, by omega, rfl, H0⟩
  case round =>
    clear H0 c0 c1 c2 c3
    obtain ⟨k, hk, rfl, H⟩ := hrel
    have c0 := Hp_cell H.out (HL.out.blk.cell (i := 0) rfl)
    have c1 := Hp_cell H.out (HL.out.blk.cell (i := 1) rfl)
    have c2 := Hp_cell H.out (HL.out.blk.cell (i := 2) rfl)
    have c3 := Hp_cell H.out (HL.out.blk.cell (i := 3) rfl)
    by_cases hlt : k < 512
    · have ik : (k : Int) < 512 := by omega
      have sb : ∀ j, j ≤ 512 → -288230376151711744 ≤ sumTo (fun j => ys.getD j 0 * wgt 1 k j) j ∧ sumTo (fun j => ys.getD j 0 * wgt 1 k j) j ≤ 288230376151711744 := fun j hj => by
        have := sum_bd (n := j) (f := fun j => ys.getD j 0 * wgt 1 k j) (B := 33554432 * 16777216) (fun i _ => mul_bd (by decide) (by decide) (BD.out i) (wgt_bd 1 k i))
        omega
      have SB := Lib.hid sb
      clear sb
      go_wp2_with fail
      go_loopw [8, 9, 41] (fun a s v w2 => ∃ (j : Nat) (B S : Int), j ≤ 512 ∧ v = .int .i64 (j : Int) ∧ a = .int .i64 B ∧ s = .int .i64 S ∧ Hid (B = (2 * (j : Int) + 1) * (2 * k + 1) * (1 : Nat)) ∧ (0 ≤ B ∧ B ≤ 8000000) ∧ Hid (S = sumTo (fun j => ys.getD j 0 * wgt 1 k j) j) ∧ (-288230376151711744 ≤ S ∧ S ≤ 288230376151711744) ∧ w2 = wr) (fun _ _ v _ => 512 - (intOf v).toNat)
      case atStart => exact ⟨0, _, _, by omega, rfl, rfl, rfl, Lib.hid (by simp; try omega), by omega, Lib.hid rfl, by omega, rfl⟩
      case round =>
        obtain ⟨j, B, S, hj, rfl, rfl, rfl, HB, hB, HS, hS, rfl⟩ := hrel
        have cr := (HL.out.below H.out.b).circ
        have CR := Lib.hid cr
        clear cr
        by_cases jlt : j < 512
        · have ij : (j : Int) < 512 := by omega
          have cy := HA.out wr (H.out.pk []) j jlt
          have hp := mul_bd (by decide) (by decide) (BD.out j) (cos_bd B)
          have hC := cos_bd B
          have sn : S + ys.getD j 0 * cosv B = sumTo (fun j => ys.getD j 0 * wgt 1 k j) (j + 1) := by
            rw [sum_succ, ← HS.out]
            unfold wgt
            rw [← HB.out]
          have by_ := BD.out j
          obtain ⟨y, hy⟩ : ∃ y, ys.getD j 0 = y := ⟨_, rfl⟩
          obtain ⟨C, hc⟩ : ∃ C, cosv B = C := ⟨_, rfl⟩
          rw [hy] at cy hp sn by_
          rw [hc] at hp hC sn
          have hP : -562949953421312 ≤ y * C ∧ y * C ≤ 562949953421312 := by omega
          have HC := Lib.hid hc
          clear hp hy hc
          have sb2 := SB.out (j + 1) (by omega)
          rw [← sn] at sb2
          have SN := Lib.hid sn
          have bn : B + 2 * (2 * (k : Int) + 1) = (2 * ((j + 1 : Nat) : Int) + 1) * (2 * k + 1) * (1 : Nat) := by
            rw [HB.out]; push_cast; grind
          have BN := Lib.hid bn
          have b2 : B + 2 * (2 * (k : Int) + 1) ≤ 8000000 := by
            have h1 : (2 * ((j + 1 : Nat) : Int) + 1) * (2 * k + 1) ≤ 1025 * 1025 := Int.mul_le_mul (by omega) (by omega) (by omega) (by omega)
            rw [bn]; omega
          clear sn bn
          go_wp2_with fail
          refine (Cos_some CR.out B).mono ?_
          rw [HC.out]
          rintro e1 w3 ⟨rfl, rfl⟩
          go_wp2_with fail
          go_roundw
          case rel => exact ⟨j + 1, _, _, by omega, by go_num, rfl, rfl, BN, by omega, SN, by omega, trivial⟩
          case measure => simp [intOf]; omega
        · obtain rfl : j = 512 := by omega
          go_wp2_with fail
          refine (Round28 S (by omega) (by omega) _).mono ?_
          rintro e1 w3 ⟨rfl, q, rfl⟩
          have HH := (H.out.drewN q).set k (rdv 268435456 S)
          rw [HS.out, show rdv 268435456 (sumTo (fun j => ys.getD j 0 * wgt 1 k j) 512) = f k by rw [HF.out]; rfl, fillTo_set] at HH
          have H' := Lib.hid HH
          have er : rdv 268435456 S = f k := by rw [HS.out, HF.out]; rfl
          rw [er]
          have fr := (H.out.drewN q).row.free k
          have fc := (H.out.drewN q).row.cell (i := k) (by rw [fillTo_len]; omega)
          rw [fillTo_at] at fc
          clear HH er
          go_wp2_with fail
          go_roundw
          case rel => exact ⟨k + 1, by omega, by go_num, H'⟩
          case measure => simp [intOf]; omega
    · obtain rfl : k = 512 := by omega
      go_wp2_with fail
      go_ret
      exact ⟨_, rfl, Nat.le_refl _, H.out.row, H.out.b⟩
set_option maxHeartbeats 1000000 in
set_option maxRecDepth 100000 in
theorem turn128 {w : World} {t c : Nat} (h : IsLap w t c 128 4 27) {A : Option Addr} {cap : Nat} {ys : List Int} (src : Src w .i64 (.slice A 128 cap) ys) (hl : ys.length = 128) (bd : ∀ j, -33554432 ≤ ys.getD j 0 ∧ ys.getD j 0 ≤ 33554432) :
    Calls Try.prog 44 #[.pointer (some ⟨t, 0, none⟩), .slice A 128 cap] w fun e w' => ∃ g, e = .returned (.slice (some ⟨g, 0, none⟩) 128 128) ∧ w.heap.size ≤ g ∧ RowI w' 2 .i64 g 128 (turnv 128 4 134217728 ys) ∧ Below w.heap.size w w' := by
  have ht := h.blk.lt
  obtain ⟨ad, rfl, _⟩ := Src.at src (j := 0) (by omega)
  have HA : Hid (∀ wr, Hp w wr [] → ∀ j, j < 128 → wr.cell? (ad.add j) = some (.int .i64 (ys.getD j 0))) := Lib.hid fun wr H j hj => by
    obtain ⟨_, e, hc⟩ := Src.at (Src.below src H.b) (j := j) (by omega)
    cases e
    exact hc
  have c0 := h.blk.cell (i := 0) rfl
  have c1 := h.blk.cell (i := 1) rfl
  have c2 := h.blk.cell (i := 2) rfl
  have c3 := h.blk.cell (i := 3) rfl
  have HL := Lib.hid h
  have BD := Lib.hid bd
  clear h src hl bd
  obtain ⟨f, hf⟩ : ∃ f : Nat → Int, f = fun k => rdv 134217728 (dot 4 (fun j => ys.getD j 0) 128 k) := ⟨_, rfl⟩
  have ef : turnv 128 4 134217728 ys = fillTo f 128 128 := by rw [hf, fillTo_all]; rfl
  rw [ef]
  have HF := Lib.hid hf
  clear hf ef
  have H0 : Hid (Hp w (w.alloc (.cells (madeCells #[.int .i64 0] 128) 2)) [rowA 2 .i64 w.heap.size 128 (fillTo f 128 0)]) := Lib.hid (by
    rw [fillTo_zero]
    exact (Hp.nil w).new_row 2 .i64 128 0 (by decide))
  have hm := mk64 128 (by decide)
  rw [show ((128 : Nat) : Int) = 128 from rfl] at hm
  go_enter Try.func44, Try.ntmps44
  go_wp2_with fail
  go_loopw [19] (fun u wr => ∃ k : Nat, k ≤ 128 ∧ u = .int .i64 (k : Int) ∧ Hid (Hp w wr [rowA 2 .i64 w.heap.size 128 (fillTo f 128 k)])) (fun u _ => 128 - (intOf u).toNat)
  case atStart => exact ⟨0, by omega, rfl, H0⟩
  case round =>
    clear H0 c0 c1 c2 c3
    obtain ⟨k, hk, rfl, H⟩ := hrel
    have c0 := Hp_cell H.out (HL.out.blk.cell (i := 0) rfl)
    have c1 := Hp_cell H.out (HL.out.blk.cell (i := 1) rfl)
    have c2 := Hp_cell H.out (HL.out.blk.cell (i := 2) rfl)
    have c3 := Hp_cell H.out (HL.out.blk.cell (i := 3) rfl)
    by_cases hlt : k < 128
    · have ik : (k : Int) < 128 := by omega
      have sb : ∀ j, j ≤ 128 → -288230376151711744 ≤ sumTo (fun j => ys.getD j 0 * wgt 4 k j) j ∧ sumTo (fun j => ys.getD j 0 * wgt 4 k j) j ≤ 288230376151711744 := fun j hj => by
        have := sum_bd (n := j) (f := fun j => ys.getD j 0 * wgt 4 k j) (B := 33554432 * 16777216) (fun i _ => mul_bd (by decide) (by decide) (BD.out i) (wgt_bd 4 k i))
        omega
      have SB := Lib.hid sb
      clear sb
      go_wp2_with fail
      go_loopw [8, 9, 41] (fun a s v w2 => ∃ (j : Nat) (B S : Int), j ≤ 128 ∧ v = .int .i64 (j : Int) ∧ a = .int .i64 B ∧ s = .int .i64 S ∧ Hid (B = (2 * (j : Int) + 1) * (2 * k + 1) * (4 : Nat)) ∧ (0 ≤ B ∧ B ≤ 8000000) ∧ Hid (S = sumTo (fun j => ys.getD j 0 * wgt 4 k j) j) ∧ (-288230376151711744 ≤ S ∧ S ≤ 288230376151711744) ∧ w2 = wr) (fun _ _ v _ => 128 - (intOf v).toNat)
      case atStart => exact ⟨0, _, _, by omega, rfl, rfl, rfl, Lib.hid (by simp; try omega), by omega, Lib.hid rfl, by omega, rfl⟩
      case round =>
        obtain ⟨j, B, S, hj, rfl, rfl, rfl, HB, hB, HS, hS, rfl⟩ := hrel
        have cr := (HL.out.below H.out.b).circ
        have CR := Lib.hid cr
        clear cr
        by_cases jlt : j < 128
        · have ij : (j : Int) < 128 := by omega
          have cy := HA.out wr (H.out.pk []) j jlt
          have hp := mul_bd (by decide) (by decide) (BD.out j) (cos_bd B)
          have hC := cos_bd B
          have sn : S + ys.getD j 0 * cosv B = sumTo (fun j => ys.getD j 0 * wgt 4 k j) (j + 1) := by
            rw [sum_succ, ← HS.out]
            unfold wgt
            rw [← HB.out]
          have by_ := BD.out j
          obtain ⟨y, hy⟩ : ∃ y, ys.getD j 0 = y := ⟨_, rfl⟩
          obtain ⟨C, hc⟩ : ∃ C, cosv B = C := ⟨_, rfl⟩
          rw [hy] at cy hp sn by_
          rw [hc] at hp hC sn
          have hP : -562949953421312 ≤ y * C ∧ y * C ≤ 562949953421312 := by omega
          have HC := Lib.hid hc
          clear hp hy hc
          have sb2 := SB.out (j + 1) (by omega)
          rw [← sn] at sb2
          have SN := Lib.hid sn
          have bn : B + 2 * (2 * (k : Int) + 1) * 4 = (2 * ((j + 1 : Nat) : Int) + 1) * (2 * k + 1) * (4 : Nat) := by
            rw [HB.out]; push_cast; grind
          have BN := Lib.hid bn
          have b2 : B + 2 * (2 * (k : Int) + 1) * 4 ≤ 8000000 := by
            have h1 : (2 * ((j + 1 : Nat) : Int) + 1) * (2 * k + 1) ≤ 1025 * 1025 := Int.mul_le_mul (by omega) (by omega) (by omega) (by omega)
            rw [bn]; omega
          clear sn bn
          go_wp2_with fail
          refine (Cos_some CR.out B).mono ?_
          rw [HC.out]
          rintro e1 w3 ⟨rfl, rfl⟩
          go_wp2_with fail
          go_roundw
          case rel => exact ⟨j + 1, _, _, by omega, by go_num, rfl, rfl, BN, by omega, SN, by omega, trivial⟩
          case measure => simp [intOf]; omega
        · obtain rfl : j = 128 := by omega
          go_wp2_with fail
          refine (Round27 S (by omega) (by omega) _).mono ?_
          rintro e1 w3 ⟨rfl, q, rfl⟩
          have HH := (H.out.drewN q).set k (rdv 134217728 S)
          rw [HS.out, show rdv 134217728 (sumTo (fun j => ys.getD j 0 * wgt 4 k j) 128) = f k by rw [HF.out]; rfl, fillTo_set] at HH
          have H' := Lib.hid HH
          have er : rdv 134217728 S = f k := by rw [HS.out, HF.out]; rfl
          rw [er]
          have fr := (H.out.drewN q).row.free k
          have fc := (H.out.drewN q).row.cell (i := k) (by rw [fillTo_len]; omega)
          rw [fillTo_at] at fc
          clear HH er
          go_wp2_with fail
          go_roundw
          case rel => exact ⟨k + 1, by omega, by go_num, H'⟩
          case measure => simp [intOf]; omega
    · obtain rfl : k = 128 := by omega
      go_wp2_with fail
      go_ret
      exact ⟨_, rfl, Nat.le_refl _, H.out.row, H.out.b⟩
theorem New_yes {w : World} {c : Nat} (h : Circ w c) (n un b : Int) (hn : (n = 128 ∧ un = 4 ∧ b = 27) ∨ (n = 512 ∧ un = 1 ∧ b = 28)) : Calls Try.prog 15 #[.int .i64 n, .pointer (some ⟨c, 0, none⟩)] w fun e w' => ∃ t, e = .returned (.tuple #[.pointer (some ⟨t, 0, none⟩), .int .i64 0]) ∧ w.heap.size ≤ t ∧ IsLap w' t c n un b ∧ Below w.heap.size w w' := by
  have H := Lib.hid h
  clear h
  rcases hn with ⟨rfl, rfl, rfl⟩ | ⟨rfl, rfl, rfl⟩
  all_goals
    go_enter Try.func15, Try.ntmps15
    go_wp2_with fail
    go_ret2
    exact ⟨_, rfl, Nat.le_refl _, ⟨Blk.new _ _ _, Blk.alloc H.out _⟩, (Below.refl _ _).alloc (Nat.le_refl _) _⟩
theorem New_no {w : World} (n : Int) (h1 : n ≠ 128) (h2 : n ≠ 512) (c : Option Addr) : Calls Try.prog 15 #[.int .i64 n, .pointer c] w fun e w' => e = .returned (.tuple #[.pointer none, .int .i64 1]) ∧ w' = w := by
  have k1 : (n == 128) = false := by rw [beq_eq_false_iff_ne]; exact h1
  have k2 : (n == 512) = false := by rw [beq_eq_false_iff_ne]; exact h2
  clear h1 h2
  cases c with
  | none =>
    go_enter Try.func15, Try.ntmps15
    go_wp2_with fail
    go_ret2
    exact ⟨rfl, rfl⟩
  | some c =>
    go_enter Try.func15, Try.ntmps15
    go_wp2_with fail
    go_ret2
    exact ⟨rfl, rfl⟩
theorem New_nil {w : World} (n : Int) : Calls Try.prog 15 #[.int .i64 n, .pointer none] w fun e w' => e = .returned (.tuple #[.pointer none, .int .i64 1]) ∧ w' = w := by
  go_enter Try.func15, Try.ntmps15
  go_wp2_with fail
  go_ret2
  exact ⟨rfl, rfl⟩
/-- Are all within? -/
def within (m : Int) (ys : List Int) : Bool := ys.all fun x => decide (-m ≤ x) && decide (x < m)
theorem within_at {m : Int} {ys : List Int} (h : within m ys = true) (hm : 0 < m) (j : Nat) : -m ≤ ys.getD j 0 ∧ ys.getD j 0 < m := by
  unfold within at h
  rw [List.all_eq_true] at h
  by_cases hj : j < ys.length
  · have := h _ (List.getElem_mem hj)
    simp only [List.getD, List.getElem?_eq_getElem hj, Option.getD_some]
    simpa using this
  · simp only [List.getD, List.getElem?_eq_none (show ys.length ≤ j by omega), Option.getD_none]
    omega
theorem within_take {m : Int} {ys : List Int} {j : Nat} (hj : j < ys.length) : within m (ys.take (j + 1)) = (within m (ys.take j) && (decide (-m ≤ ys.getD j 0) && decide (ys.getD j 0 < m))) := by
  unfold within
  rw [List.take_succ_eq_append_getElem hj, List.all_append]
  simp [List.getD, List.getElem?_eq_getElem hj]
theorem within_bad {m : Int} {ys : List Int} {j : Nat} (hj : j < ys.length) (h : ¬ (-m ≤ ys.getD j 0 ∧ ys.getD j 0 < m)) : within m ys = false := by
  cases e : within m ys with
  | false => rfl
  | true =>
    exfalso
    unfold within at e
    rw [List.all_eq_true] at e
    have := e _ (List.getElem_mem hj)
    simp only [List.getD, List.getElem?_eq_getElem hj, Option.getD_some] at h
    exact h (by simpa using this)
set_option maxHeartbeats 1000000 in
theorem fits21 {w : World} {A : Option Addr} {len cap : Nat} {ys : List Int} (src : Src w .i32 (.slice A len cap) ys) (hl : ys.length = len) (hm : len ≤ 1099511627776) (b32 : ∀ j, -2147483648 ≤ ys.getD j 0 ∧ ys.getD j 0 ≤ 2147483647) (n : Int) :
    Calls Try.prog 43 #[.slice A len cap, .int .i64 n, .int .i64 21] w fun e w' => e = .returned (.bool (within 1048576 ys && ((len : Int) == n))) ∧ w' = w := by
  subst hl
  have SR := Lib.hid src
  have B32 := Lib.hid b32
  clear src b32
  go_enter Try.func43, Try.ntmps43
  go_wp2_with fail
  go_loop [11] (fun u => ∃ k : Nat, k ≤ ys.length ∧ u = .int .i64 (k : Int) ∧ Hid (within 1048576 (ys.take k) = true)) (fun u => ys.length - (intOf u).toNat)
  case atStart => exact ⟨0, by omega, rfl, Lib.hid rfl⟩
  case round =>
    obtain ⟨k, hk, rfl, HK⟩ := hrel
    by_cases hlt : k < ys.length
    · obtain ⟨ad, rfl, hc⟩ := Src.at SR.out (j := k) hlt
      have bx := B32.out k
      have wt := within_take (m := 1048576) hlt
      have wb := within_bad (m := 1048576) hlt
      rw [HK.out, Bool.true_and] at wt
      obtain ⟨x, hx⟩ : ∃ x, ys.getD k 0 = x := ⟨_, rfl⟩
      rw [hx] at hc bx wt wb
      have WT := Lib.hid wt
      have WB := Lib.hid wb
      clear wt wb hx
      by_cases ok : -1048576 ≤ x ∧ x < 1048576
      · obtain ⟨o1, o2⟩ := ok
        have HK' : Hid (within 1048576 (ys.take (k + 1)) = true) := Lib.hid (by rw [WT.out]; simp [o1, o2])
        have ci := clamp_in (a := -1048576) (b := 1048575) o1 (by omega)
        have CI := Lib.hid ci
        clear ci
        go_wp2_with fail
        refine (Sat21 x (by omega) (by omega) _).mono ?_
        rw [CI.out]
        rintro e1 w1 ⟨rfl, rfl⟩
        go_wp2_with fail
        go_round
        case rel => exact ⟨k + 1, by omega, by go_num, HK'⟩
        case measure => simp [intOf]; omega
      · have cb := clamp_bd (a := -1048576) (b := 1048575) (by decide) x
        have ne : (clampv (-1048576) 1048575 x == x) = false := by rw [beq_eq_false_iff_ne]; omega
        have ne2 : (clampv (-1048576) 1048575 x != x) = true := by rw [bne, ne]; rfl
        have WF := Lib.hid (WB.out ok)
        obtain ⟨v, hv⟩ : ∃ v, clampv (-1048576) 1048575 x = v := ⟨_, rfl⟩
        rw [hv] at ne ne2 cb
        have HV := Lib.hid hv
        clear hv ok
        go_wp2_with fail
        refine (Sat21 x (by omega) (by omega) _).mono ?_
        rw [HV.out]
        rintro e1 w1 ⟨rfl, rfl⟩
        go_wp2_with fail
        go_ret
        exact ⟨by rw [WF.out]; rfl, rfl⟩
    · obtain rfl : k = ys.length := by omega
      rw [List.take_length] at HK
      go_wp2_with fail
      go_ret
      exact ⟨by rw [HK.out]; rfl, rfl⟩
set_option maxHeartbeats 1000000 in
theorem fits26 {w : World} {A : Option Addr} {len cap : Nat} {ys : List Int} (src : Src w .i32 (.slice A len cap) ys) (hl : ys.length = len) (hm : len ≤ 1099511627776) (b32 : ∀ j, -2147483648 ≤ ys.getD j 0 ∧ ys.getD j 0 ≤ 2147483647) (n : Int) :
    Calls Try.prog 43 #[.slice A len cap, .int .i64 n, .int .i64 26] w fun e w' => e = .returned (.bool (within 33554432 ys && ((len : Int) == n))) ∧ w' = w := by
  subst hl
  have SR := Lib.hid src
  have B32 := Lib.hid b32
  clear src b32
  go_enter Try.func43, Try.ntmps43
  go_wp2_with fail
  go_loop [11] (fun u => ∃ k : Nat, k ≤ ys.length ∧ u = .int .i64 (k : Int) ∧ Hid (within 33554432 (ys.take k) = true)) (fun u => ys.length - (intOf u).toNat)
  case atStart => exact ⟨0, by omega, rfl, Lib.hid rfl⟩
  case round =>
    obtain ⟨k, hk, rfl, HK⟩ := hrel
    by_cases hlt : k < ys.length
    · obtain ⟨ad, rfl, hc⟩ := Src.at SR.out (j := k) hlt
      have bx := B32.out k
      have wt := within_take (m := 33554432) hlt
      have wb := within_bad (m := 33554432) hlt
      rw [HK.out, Bool.true_and] at wt
      obtain ⟨x, hx⟩ : ∃ x, ys.getD k 0 = x := ⟨_, rfl⟩
      rw [hx] at hc bx wt wb
      have WT := Lib.hid wt
      have WB := Lib.hid wb
      clear wt wb hx
      by_cases ok : -33554432 ≤ x ∧ x < 33554432
      · obtain ⟨o1, o2⟩ := ok
        have HK' : Hid (within 33554432 (ys.take (k + 1)) = true) := Lib.hid (by rw [WT.out]; simp [o1, o2])
        have ci := clamp_in (a := -33554432) (b := 33554431) o1 (by omega)
        have CI := Lib.hid ci
        clear ci
        go_wp2_with fail
        refine (Sat26 x (by omega) (by omega) _).mono ?_
        rw [CI.out]
        rintro e1 w1 ⟨rfl, rfl⟩
        go_wp2_with fail
        go_round
        case rel => exact ⟨k + 1, by omega, by go_num, HK'⟩
        case measure => simp [intOf]; omega
      · have cb := clamp_bd (a := -33554432) (b := 33554431) (by decide) x
        have ne : (clampv (-33554432) 33554431 x == x) = false := by rw [beq_eq_false_iff_ne]; omega
        have ne2 : (clampv (-33554432) 33554431 x != x) = true := by rw [bne, ne]; rfl
        have WF := Lib.hid (WB.out ok)
        obtain ⟨v, hv⟩ : ∃ v, clampv (-33554432) 33554431 x = v := ⟨_, rfl⟩
        rw [hv] at ne ne2 cb
        have HV := Lib.hid hv
        clear hv ok
        go_wp2_with fail
        refine (Sat26 x (by omega) (by omega) _).mono ?_
        rw [HV.out]
        rintro e1 w1 ⟨rfl, rfl⟩
        go_wp2_with fail
        go_ret
        exact ⟨by rw [WF.out]; rfl, rfl⟩
    · obtain rfl : k = ys.length := by omega
      rw [List.take_length] at HK
      go_wp2_with fail
      go_ret
      exact ⟨by rw [HK.out]; rfl, rfl⟩
end Go.Proofs.Ytngldpeapcbbpaa.Lap

/-
  Words: rows filled at some places. Plain theorems; no condition.
-/
set_option linter.unusedVariables false
namespace Go.Proofs.Ytngldpeapcbbpaa
open Go.RowKit
/-- A row, filled where p says so. -/
def pf (f : Nat → Int) (p : Nat → Bool) (n : Nat) : List Int := (List.range n).map fun i => if p i then f i else 0
theorem pf_len (f : Nat → Int) (p : Nat → Bool) (n : Nat) : (pf f p n).length = n := by simp [pf]
theorem pf_get {f : Nat → Int} {p : Nat → Bool} {n i : Nat} (h : i < (pf f p n).length) : (pf f p n)[i] = if p i then f i else 0 := by simp [pf]
theorem pf_set (f : Nat → Int) (p q : Nat → Bool) (n i : Nat) (h : ∀ j, j < n → q j = (p j || j == i)) : (pf f p n).set i (f i) = pf f q n := by
  apply List.ext_getElem
  · simp [pf]
  · intro j h1 h2
    rw [List.getElem_set]
    simp [pf] at h1 h2 ⊢
    rw [h j h1]
    by_cases hij : i = j
    · subst hij; simp
    · rw [if_neg hij]
      have : (j == i) = false := by rw [beq_eq_false_iff_ne]; omega
      simp [this]
theorem pf_eq (f : Nat → Int) (p q : Nat → Bool) (n : Nat) (h : ∀ j, j < n → p j = q j) : pf f p n = pf f q n := by
  apply List.ext_getElem
  · simp [pf]
  · intro j h1 h2
    simp [pf] at h1 h2 ⊢
    rw [h j h1]
theorem pf_none (f : Nat → Int) (p : Nat → Bool) (n : Nat) (h : ∀ j, j < n → p j = false) : pf f p n = List.replicate n 0 := by
  rw [pf_eq f p (fun _ => false) n h]
  apply List.ext_getElem
  · simp [pf]
  · intro j h1 h2
    simp [pf]
theorem pf_all (f : Nat → Int) (p : Nat → Bool) (n : Nat) (h : ∀ j, j < n → p j = true) : pf f p n = (List.range n).map f := by
  rw [pf_eq f p (fun _ => true) n h]
  simp [pf]
/-- A row, turned as far as k. -/
def mixTo (f g : Nat → Int) (n k : Nat) : List Int := (List.range n).map fun i => if i < k then f i else g i
theorem mix_len (f g : Nat → Int) (n k : Nat) : (mixTo f g n k).length = n := by simp [mixTo]
theorem mix_at {f g : Nat → Int} {n k i : Nat} (h : i < (mixTo f g n k).length) : (mixTo f g n k)[i] = if i < k then f i else g i := by simp [mixTo]
theorem mix_set (f g : Nat → Int) (n k : Nat) : (mixTo f g n k).set k (f k) = mixTo f g n (k + 1) := by
  apply List.ext_getElem
  · simp [mixTo]
  · intro j h1 h2
    rw [List.getElem_set]
    simp [mixTo] at h1 h2 ⊢
    by_cases hj : k = j
    · subst hj; simp
    · rw [if_neg hj]
      by_cases h3 : j < k
      · rw [if_pos h3, if_pos (show j < k + 1 by omega)]
      · rw [if_neg h3, if_neg (show ¬ j < k + 1 by omega)]
theorem mix_all (f g : Nat → Int) (n : Nat) : mixTo f g n n = (List.range n).map f := by
  apply List.ext_getElem
  · simp [mixTo]
  · intro j h1 h2
    simp [mixTo] at h1 h2 ⊢
    omega
theorem mix_none (f g : Nat → Int) (n : Nat) : mixTo f g n 0 = (List.range n).map g := by simp [mixTo]
end Go.Proofs.Ytngldpeapcbbpaa

/-
  A lapped transform: folding, forward and back; walks. No condition but those told.
-/
set_option linter.unusedVariables false
set_option linter.unusedSimpArgs false
namespace Go.Proofs.Ytngldpeapcbbpaa.Lap
open Go.RowKit Go.Proofs.Ytngldpeapcbbpaa Go.Proofs.Ytngldpeapcbbpaa.Bnd Go.Proofs.Ytngldpeapcbbpaa.Art Go.Proofs.YtngldpeapcbbpaaW.PrintWords

/-- Samples folded. -/
def foldAt (n : Nat) (x : List Int) (i : Nat) : Int := if i < n / 2 then -x.getD (3 * (n / 2) - 1 - i) 0 - x.getD (3 * (n / 2) + i) 0 else x.getD (i - n / 2) 0 - x.getD (n - 1 - (i - n / 2)) 0
def foldv (n : Nat) (x : List Int) : List Int := (List.range n).map (foldAt n x)
/-- Numbers unfolded. -/
def unfAt (n : Nat) (u : List Int) (i : Nat) : Int := if i < n / 2 then u.getD (n / 2 + i) 0 else if i < n then -u.getD (n / 2 + (n - 1 - i)) 0 else if i < 3 * (n / 2) then -u.getD (3 * (n / 2) - 1 - i) 0 else -u.getD (i - 3 * (n / 2)) 0
def unfv (n : Nat) (u : List Int) : List Int := (List.range (2 * n)).map (unfAt n u)
set_option maxHeartbeats 1000000 in
set_option maxRecDepth 100000 in
theorem fold512 {w : World} {A : Option Addr} {cap : Nat} {x : List Int} (src : Src w .i32 (.slice A 1024 cap) x) (hl : x.length = 1024) (bd : ∀ j, -1048576 ≤ x.getD j 0 ∧ x.getD j 0 < 1048576) :
    Calls Try.prog 47 #[.slice A 1024 cap, .int .i64 512] w fun e w' => ∃ g, e = .returned (.slice (some ⟨g, 0, none⟩) 512 512) ∧ w.heap.size ≤ g ∧ RowI w' 2 .i64 g 512 (foldv 512 x) ∧ Below w.heap.size w w' := by
  obtain ⟨ad, rfl, _⟩ := Src.at src (j := 0) (by omega)
  have HA : Hid (∀ wr, Hp w wr [] → ∀ j, j < 1024 → wr.cell? (ad.add j) = some (.int .i32 (x.getD j 0))) := Lib.hid fun wr H j hj => by
    obtain ⟨_, e, hc⟩ := Src.at (Src.below src H.b) (j := j) (by omega)
    cases e
    exact hc
  have BD := Lib.hid bd
  clear src hl bd
  obtain ⟨f, hf⟩ : ∃ f : Nat → Int, f = foldAt 512 x := ⟨_, rfl⟩
  obtain ⟨p, hp⟩ : ∃ p : Nat → Nat → Bool, p = fun k j => decide (j < k) || decide (256 ≤ j ∧ j < 256 + k) := ⟨_, rfl⟩
  have ef : foldv 512 x = pf f (p 256) 512 := by rw [hf, pf_all _ _ _ (fun j hj => by rw [hp]; simp; omega)]; first | done | rfl
  rw [ef]
  have HF := Lib.hid hf
  have HP := Lib.hid hp
  clear hf ef hp
  have hm := mk64 512 (by decide)
  rw [show ((512 : Nat) : Int) = 512 from rfl] at hm
  have H0 : Hid (Hp w (w.alloc (.cells (madeCells #[.int .i64 0] 512) 2)) [rowA 2 .i64 w.heap.size 512 (pf f (p 0) 512)]) := Lib.hid (by
    rw [pf_none _ _ _ (fun j hj => by rw [HP.out]; simp; try omega)]
    exact (Hp.nil w).new_row 2 .i64 512 0 (by decide))
  go_enter Try.func47, Try.ntmps47
  go_wp2_with fail
  go_loopw [13] (fun u wr => ∃ k : Nat, k ≤ 256 ∧ u = .int .i64 (k : Int) ∧ Hid (Hp w wr [rowA 2 .i64 w.heap.size 512 (pf f (p k) 512)])) (fun u _ => 256 - (intOf u).toNat)
  case atStart => exact ⟨0, by omega, rfl, H0⟩
  case round =>
    clear H0
    obtain ⟨k, hk, rfl, H⟩ := hrel
    by_cases hlt : k < 256
    · have ik : (k : Int) < 256 := by omega
      obtain ⟨i1, hi1⟩ : ∃ i1 : Nat, i1 = 767 - k := ⟨_, rfl⟩
      obtain ⟨i2, hi2⟩ : ∃ i2 : Nat, i2 = 768 + k := ⟨_, rfl⟩
      have x1 := HA.out wr (H.out.pk []) i1 (by omega)
      have x2 := HA.out wr (H.out.pk []) i2 (by omega)
      have b1 := BD.out i1
      have b2 := BD.out i2
      have hv : f k = -x.getD i1 0 - x.getD i2 0 := by
        rw [HF.out]
        unfold foldAt
        rw [if_pos (by omega)]
        rw [hi1, hi2]
      obtain ⟨y1, h1⟩ : ∃ y, x.getD i1 0 = y := ⟨_, rfl⟩
      obtain ⟨y2, h2⟩ : ∃ y, x.getD i2 0 = y := ⟨_, rfl⟩
      rw [h1] at x1 b1 hv
      rw [h2] at x2 b2 hv
      clear h1 h2
      have HV := Lib.hid hv
      have fr := H.out.row.free k
      have fc := H.out.row.cell (i := k) (by rw [pf_len]; omega)
      rw [pf_get] at fc
      clear hv
      obtain ⟨v0, hv0⟩ : ∃ v0, (if p k k = true then f k else 0) = v0 := ⟨_, rfl⟩
      rw [hv0] at fc
      clear hv0
      have e1 : IntKind.i64.wrap (767 - (k : Int)) = (i1 : Int) := by rw [wrapI64 (by omega) (by omega)]; omega
      have e2 : IntKind.i64.wrap (768 + (k : Int)) = (i2 : Int) := by rw [wrapI64 (by omega) (by omega)]; omega
      have ea : IntKind.i64.wrap y1 = y1 := wrapI64 (by omega) (by omega)
      have eb : IntKind.i64.wrap y2 = y2 := wrapI64 (by omega) (by omega)
      have ik2 : (k : Int) < 512 := by omega
      have ik3 : k < 512 := by omega
      have e5 : IntKind.i64.wrap (-y1) = -y1 := wrapI64 (by omega) (by omega)
      have e6 : IntKind.i64.wrap (-y1 - y2) = -y1 - y2 := wrapI64 (by omega) (by omega)
      have e7 : IntKind.i64.wrap 768 = 768 := wrapI64 (by omega) (by omega)
      have e8 : IntKind.i64.wrap (768 - 1) = 767 := wrapI64 (by omega) (by omega)
      have e9 : IntKind.i64.wrap 767 = 767 := wrapI64 (by omega) (by omega)
      have g1 : i1 < 1024 := by omega
      have g2 : i2 < 1024 := by omega
      have g3 : (i1 : Int) < 1024 := by omega
      have g4 : (i2 : Int) < 1024 := by omega
      have HI := Lib.hid hi1
      have HI2 := Lib.hid hi2
      clear hi1 hi2
      go_upto_region 6 with fail
      go_cut [7] (fun u wc => u = .int .i64 (k : Int) ∧ Hid (Hp w wc [rowA 2 .i64 w.heap.size 512 (pf f (fun j => p k j || j == k) 512)]))
      case first =>
        go_still_tail 22, (by kernel_rfl)
        go_wp2
        go_meet
        have h1 := (H.out.drewN 1).set k (f k)
        rw [pf_set f _ _ _ _ (fun j _ => rfl), HV.out] at h1
        exact ⟨rfl, Lib.hid h1⟩
      case rest =>
        clear x1 x2 b1 b2 fr fc e1 e2 e5 e6 ea eb g1 g2 g3 g4 HI HI2 H HV
        obtain ⟨rfl, H⟩ := hcut
        obtain ⟨i3, hi3⟩ : ∃ i3 : Nat, i3 = 256 + k := ⟨_, rfl⟩
        obtain ⟨i4, hi4⟩ : ∃ i4 : Nat, i4 = 511 - k := ⟨_, rfl⟩
        have x1 := HA.out wc (H.out.pk []) k (by omega)
        have x2 := HA.out wc (H.out.pk []) i4 (by omega)
        have b1 := BD.out k
        have b2 := BD.out i4
        have hv : f i3 = x.getD k 0 - x.getD i4 0 := by
          rw [HF.out]
          unfold foldAt
          rw [if_neg (by omega), show i3 - 512 / 2 = k by omega, show 512 - 1 - k = i4 by omega]
        obtain ⟨y1, h1⟩ : ∃ y, x.getD k 0 = y := ⟨_, rfl⟩
        obtain ⟨y2, h2⟩ : ∃ y, x.getD i4 0 = y := ⟨_, rfl⟩
        rw [h1] at x1 b1 hv
        rw [h2] at x2 b2 hv
        clear h1 h2
        have fr := H.out.row.free i3
        have fc := H.out.row.cell (i := i3) (by rw [pf_len]; omega)
        rw [pf_get] at fc
        have hh : Hp w (wc.setCell ⟨w.heap.size, i3, none⟩ (.int .i64 (y1 - y2))) [rowA 2 .i64 w.heap.size 512 (pf f (p (k + 1)) 512)] := by
          have := H.out.set i3 (f i3)
          rw [pf_set f _ (p (k + 1)) _ _ (fun j hj => by rw [HP.out, Bool.eq_iff_iff]; simp; omega), hv] at this
          exact this
        have HH := Lib.hid hh
        clear hv hh
        obtain ⟨v0, hv0⟩ : ∃ v0, (if (p k i3 || i3 == k) = true then f i3 else 0) = v0 := ⟨_, rfl⟩
        rw [hv0] at fc
        clear hv0
        have e1 : IntKind.i64.wrap (511 - (k : Int)) = (i4 : Int) := by rw [wrapI64 (by omega) (by omega)]; omega
        have e2 : IntKind.i64.wrap (256 + (k : Int)) = (i3 : Int) := by rw [wrapI64 (by omega) (by omega)]; omega
        have ea : IntKind.i64.wrap y1 = y1 := wrapI64 (by omega) (by omega)
        have eb : IntKind.i64.wrap y2 = y2 := wrapI64 (by omega) (by omega)
        have e5 : IntKind.i64.wrap (y1 - y2) = y1 - y2 := wrapI64 (by omega) (by omega)
        have e7 : IntKind.i64.wrap (512 - 1) = 511 := wrapI64 (by omega) (by omega)
        have e8 : IntKind.i64.wrap 511 = 511 := wrapI64 (by omega) (by omega)
        have g1 : i3 < 512 := by omega
        have g2 : i4 < 1024 := by omega
        have g3 : (i3 : Int) < 512 := by omega
        have g4 : (i4 : Int) < 1024 := by omega
        have g5 : k < 1024 := by omega
        have g6 : (k : Int) < 1024 := by omega
        clear hi3 hi4 H
        go_wp2_with fail
        go_still_tail 19, (by kernel_rfl)
        clear e1 e2 ea eb e5 e7 e8
        go_wp2
        go_roundw
        case rel => exact ⟨k + 1, by omega, by go_num, Lib.hid (HH.out.drewN 1)⟩
        case measure => simp [intOf]; omega
    · obtain rfl : k = 256 := by omega
      go_wp2_with fail
      go_ret
      exact ⟨_, rfl, Nat.le_refl _, H.out.row, H.out.b⟩
set_option maxHeartbeats 1000000 in
set_option maxRecDepth 100000 in
theorem fold128 {w : World} {A : Option Addr} {cap : Nat} {x : List Int} (src : Src w .i32 (.slice A 256 cap) x) (hl : x.length = 256) (bd : ∀ j, -1048576 ≤ x.getD j 0 ∧ x.getD j 0 < 1048576) :
    Calls Try.prog 47 #[.slice A 256 cap, .int .i64 128] w fun e w' => ∃ g, e = .returned (.slice (some ⟨g, 0, none⟩) 128 128) ∧ w.heap.size ≤ g ∧ RowI w' 2 .i64 g 128 (foldv 128 x) ∧ Below w.heap.size w w' := by
  obtain ⟨ad, rfl, _⟩ := Src.at src (j := 0) (by omega)
  have HA : Hid (∀ wr, Hp w wr [] → ∀ j, j < 256 → wr.cell? (ad.add j) = some (.int .i32 (x.getD j 0))) := Lib.hid fun wr H j hj => by
    obtain ⟨_, e, hc⟩ := Src.at (Src.below src H.b) (j := j) (by omega)
    cases e
    exact hc
  have BD := Lib.hid bd
  clear src hl bd
  obtain ⟨f, hf⟩ : ∃ f : Nat → Int, f = foldAt 128 x := ⟨_, rfl⟩
  obtain ⟨p, hp⟩ : ∃ p : Nat → Nat → Bool, p = fun k j => decide (j < k) || decide (64 ≤ j ∧ j < 64 + k) := ⟨_, rfl⟩
  have ef : foldv 128 x = pf f (p 64) 128 := by rw [hf, pf_all _ _ _ (fun j hj => by rw [hp]; simp; omega)]; first | done | rfl
  rw [ef]
  have HF := Lib.hid hf
  have HP := Lib.hid hp
  clear hf ef hp
  have hm := mk64 128 (by decide)
  rw [show ((128 : Nat) : Int) = 128 from rfl] at hm
  have H0 : Hid (Hp w (w.alloc (.cells (madeCells #[.int .i64 0] 128) 2)) [rowA 2 .i64 w.heap.size 128 (pf f (p 0) 128)]) := Lib.hid (by
    rw [pf_none _ _ _ (fun j hj => by rw [HP.out]; simp; try omega)]
    exact (Hp.nil w).new_row 2 .i64 128 0 (by decide))
  go_enter Try.func47, Try.ntmps47
  go_wp2_with fail
  go_loopw [13] (fun u wr => ∃ k : Nat, k ≤ 64 ∧ u = .int .i64 (k : Int) ∧ Hid (Hp w wr [rowA 2 .i64 w.heap.size 128 (pf f (p k) 128)])) (fun u _ => 64 - (intOf u).toNat)
  case atStart => exact ⟨0, by omega, rfl, H0⟩
  case round =>
    clear H0
    obtain ⟨k, hk, rfl, H⟩ := hrel
    by_cases hlt : k < 64
    · have ik : (k : Int) < 64 := by omega
      obtain ⟨i1, hi1⟩ : ∃ i1 : Nat, i1 = 191 - k := ⟨_, rfl⟩
      obtain ⟨i2, hi2⟩ : ∃ i2 : Nat, i2 = 192 + k := ⟨_, rfl⟩
      have x1 := HA.out wr (H.out.pk []) i1 (by omega)
      have x2 := HA.out wr (H.out.pk []) i2 (by omega)
      have b1 := BD.out i1
      have b2 := BD.out i2
      have hv : f k = -x.getD i1 0 - x.getD i2 0 := by
        rw [HF.out]
        unfold foldAt
        rw [if_pos (by omega)]
        rw [hi1, hi2]
      obtain ⟨y1, h1⟩ : ∃ y, x.getD i1 0 = y := ⟨_, rfl⟩
      obtain ⟨y2, h2⟩ : ∃ y, x.getD i2 0 = y := ⟨_, rfl⟩
      rw [h1] at x1 b1 hv
      rw [h2] at x2 b2 hv
      clear h1 h2
      have HV := Lib.hid hv
      have fr := H.out.row.free k
      have fc := H.out.row.cell (i := k) (by rw [pf_len]; omega)
      rw [pf_get] at fc
      clear hv
      obtain ⟨v0, hv0⟩ : ∃ v0, (if p k k = true then f k else 0) = v0 := ⟨_, rfl⟩
      rw [hv0] at fc
      clear hv0
      have e1 : IntKind.i64.wrap (191 - (k : Int)) = (i1 : Int) := by rw [wrapI64 (by omega) (by omega)]; omega
      have e2 : IntKind.i64.wrap (192 + (k : Int)) = (i2 : Int) := by rw [wrapI64 (by omega) (by omega)]; omega
      have ea : IntKind.i64.wrap y1 = y1 := wrapI64 (by omega) (by omega)
      have eb : IntKind.i64.wrap y2 = y2 := wrapI64 (by omega) (by omega)
      have ik2 : (k : Int) < 128 := by omega
      have ik3 : k < 128 := by omega
      have e5 : IntKind.i64.wrap (-y1) = -y1 := wrapI64 (by omega) (by omega)
      have e6 : IntKind.i64.wrap (-y1 - y2) = -y1 - y2 := wrapI64 (by omega) (by omega)
      have e7 : IntKind.i64.wrap 192 = 192 := wrapI64 (by omega) (by omega)
      have e8 : IntKind.i64.wrap (192 - 1) = 191 := wrapI64 (by omega) (by omega)
      have e9 : IntKind.i64.wrap 191 = 191 := wrapI64 (by omega) (by omega)
      have g1 : i1 < 256 := by omega
      have g2 : i2 < 256 := by omega
      have g3 : (i1 : Int) < 256 := by omega
      have g4 : (i2 : Int) < 256 := by omega
      have HI := Lib.hid hi1
      have HI2 := Lib.hid hi2
      clear hi1 hi2
      go_upto_region 6 with fail
      go_cut [7] (fun u wc => u = .int .i64 (k : Int) ∧ Hid (Hp w wc [rowA 2 .i64 w.heap.size 128 (pf f (fun j => p k j || j == k) 128)]))
      case first =>
        go_still_tail 22, (by kernel_rfl)
        go_wp2
        go_meet
        have h1 := (H.out.drewN 1).set k (f k)
        rw [pf_set f _ _ _ _ (fun j _ => rfl), HV.out] at h1
        exact ⟨rfl, Lib.hid h1⟩
      case rest =>
        clear x1 x2 b1 b2 fr fc e1 e2 e5 e6 ea eb g1 g2 g3 g4 HI HI2 H HV
        obtain ⟨rfl, H⟩ := hcut
        obtain ⟨i3, hi3⟩ : ∃ i3 : Nat, i3 = 64 + k := ⟨_, rfl⟩
        obtain ⟨i4, hi4⟩ : ∃ i4 : Nat, i4 = 127 - k := ⟨_, rfl⟩
        have x1 := HA.out wc (H.out.pk []) k (by omega)
        have x2 := HA.out wc (H.out.pk []) i4 (by omega)
        have b1 := BD.out k
        have b2 := BD.out i4
        have hv : f i3 = x.getD k 0 - x.getD i4 0 := by
          rw [HF.out]
          unfold foldAt
          rw [if_neg (by omega), show i3 - 128 / 2 = k by omega, show 128 - 1 - k = i4 by omega]
        obtain ⟨y1, h1⟩ : ∃ y, x.getD k 0 = y := ⟨_, rfl⟩
        obtain ⟨y2, h2⟩ : ∃ y, x.getD i4 0 = y := ⟨_, rfl⟩
        rw [h1] at x1 b1 hv
        rw [h2] at x2 b2 hv
        clear h1 h2
        have fr := H.out.row.free i3
        have fc := H.out.row.cell (i := i3) (by rw [pf_len]; omega)
        rw [pf_get] at fc
        have hh : Hp w (wc.setCell ⟨w.heap.size, i3, none⟩ (.int .i64 (y1 - y2))) [rowA 2 .i64 w.heap.size 128 (pf f (p (k + 1)) 128)] := by
          have := H.out.set i3 (f i3)
          rw [pf_set f _ (p (k + 1)) _ _ (fun j hj => by rw [HP.out, Bool.eq_iff_iff]; simp; omega), hv] at this
          exact this
        have HH := Lib.hid hh
        clear hv hh
        obtain ⟨v0, hv0⟩ : ∃ v0, (if (p k i3 || i3 == k) = true then f i3 else 0) = v0 := ⟨_, rfl⟩
        rw [hv0] at fc
        clear hv0
        have e1 : IntKind.i64.wrap (127 - (k : Int)) = (i4 : Int) := by rw [wrapI64 (by omega) (by omega)]; omega
        have e2 : IntKind.i64.wrap (64 + (k : Int)) = (i3 : Int) := by rw [wrapI64 (by omega) (by omega)]; omega
        have ea : IntKind.i64.wrap y1 = y1 := wrapI64 (by omega) (by omega)
        have eb : IntKind.i64.wrap y2 = y2 := wrapI64 (by omega) (by omega)
        have e5 : IntKind.i64.wrap (y1 - y2) = y1 - y2 := wrapI64 (by omega) (by omega)
        have e7 : IntKind.i64.wrap (128 - 1) = 127 := wrapI64 (by omega) (by omega)
        have e8 : IntKind.i64.wrap 127 = 127 := wrapI64 (by omega) (by omega)
        have g1 : i3 < 128 := by omega
        have g2 : i4 < 256 := by omega
        have g3 : (i3 : Int) < 128 := by omega
        have g4 : (i4 : Int) < 256 := by omega
        have g5 : k < 256 := by omega
        have g6 : (k : Int) < 256 := by omega
        clear hi3 hi4 H
        go_wp2_with fail
        go_still_tail 19, (by kernel_rfl)
        clear e1 e2 ea eb e5 e7 e8
        go_wp2
        go_roundw
        case rel => exact ⟨k + 1, by omega, by go_num, Lib.hid (HH.out.drewN 1)⟩
        case measure => simp [intOf]; omega
    · obtain rfl : k = 64 := by omega
      go_wp2_with fail
      go_ret
      exact ⟨_, rfl, Nat.le_refl _, H.out.row, H.out.b⟩
end Go.Proofs.Ytngldpeapcbbpaa.Lap
