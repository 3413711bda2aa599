/- Texts of this session, merged. -/
import Derived.Test.YtlbjoflmfboeeaaU2
import Derived.Deep.AppendLies
import Derived.Maps.AppendAt
import Derived.Laws.BytesArg
import Derived.StillTail
import Derived.Deep.QuietTactic
import Derived.BigQuiet
import Derived.Test.YtlbjoflmfboeeaaChecked
import Derived.Deep.RegionHeld3
import Derived.Deep.RegionLaw
/-
  Words: slices of whole numbers that own their block, and grow one by one. Plain theorems; no condition.
-/
set_option linter.unusedVariables false
namespace Go.Proofs.Ytlbjoflmfboeeaa
open Go.RowKit

theorem add_nought (a : Addr) : a.add 0 = a := by
  unfold Addr.add
  split
  · rename_i h; cases a; simp_all
  · rename_i h; cases a; simp_all
/-- v is a slice of these numbers at the head of a block of its own, or nil. -/
def Sl (w : World) (e : TypeId) (k : IntKind) (v : Value) (xs : List Int) : Prop :=
  (v = .slice none 0 0 ∧ xs = []) ∨ ∃ g cap, v = .slice (some ⟨g, 0, none⟩) xs.length cap ∧ RowI w e k g cap xs
section
variable {w w' : World} {e : TypeId} {k : IntKind} {v : Value} {xs : List Int}
theorem Sl.nil (w : World) (e : TypeId) (k : IntKind) : Sl w e k (.slice none 0 0) [] := .inl ⟨rfl, rfl⟩
theorem Sl.row {g cap : Nat} (h : RowI w e k g cap xs) : Sl w e k (.slice (some ⟨g, 0, none⟩) xs.length cap) xs := .inr ⟨g, cap, rfl, h⟩
theorem Sl.lt (h : Sl w e k v xs) {g : Nat} (hg : v.ownBlock = some g) : g < w.heap.size := by
  rcases h with ⟨rfl, _⟩ | ⟨g', cap, rfl, h⟩
  · cases hg
  · injection hg with e; subst e; exact h.lt
theorem Sl.of_same (h : Sl w e k v xs) (hs : ∀ g, v.ownBlock = some g → w'.heap[g]? = w.heap[g]?) : Sl w' e k v xs := by
  rcases h with h | ⟨g, cap, rfl, h⟩
  · exact .inl h
  · exact .inr ⟨g, cap, rfl, h.of_same (hs g rfl)⟩
theorem Sl.drew (h : Sl w e k v xs) : Sl w.drew e k v xs := h
theorem Sl.drewN (h : Sl w e k v xs) (n : Nat) : Sl (w.drewN n) e k v xs := h
theorem Sl.alloc (h : Sl w e k v xs) (o : Obj) : Sl (w.alloc o) e k v xs := h.of_same fun g hg => Below.heap_alloc w o g (h.lt hg)
theorem Sl.other (h : Sl w e k v xs) {a : Addr} (hne : v.ownBlock ≠ some a.block) (u : Value) : Sl (w.setCell a u) e k v xs :=
  h.of_same fun g hg => Below.heap_setCell w a u g (by rintro rfl; exact hne hg)
theorem Sl.only {S : Nat → Prop} (h : Sl w e k v xs) (o : Only S w w') (hn : ∀ g, v.ownBlock = some g → ¬ S g) : Sl w' e k v xs := h.of_same fun g hg => o.block g (h.lt hg) (hn g hg)
theorem Sl.below {B : Nat} (h : Sl w e k v xs) (hb : Below B w w') (hg : ∀ g, v.ownBlock = some g → g < B) : Sl w' e k v xs := h.of_same fun g hb' => hb.block g (hg g hb')
theorem Sl.form (h : Sl w e k v xs) : ∃ A cap, v = .slice A xs.length cap ∧ xs.length ≤ cap := by
  rcases h with ⟨rfl, rfl⟩ | ⟨g, cap, rfl, h⟩
  · exact ⟨none, 0, rfl, Nat.le_refl _⟩
  · exact ⟨_, cap, rfl, h.len.1⟩
theorem Sl.owns (h : Sl w e k v xs) : w.ownsRow 0 e 1 v xs.length (xs.map (Value.int k)) := by
  refine ⟨by simp, ?_⟩
  rcases h with ⟨rfl, rfl⟩ | ⟨g, cap, rfl, cs, hb, h1, h2, h3, h4⟩
  · exact .inl ⟨rfl, rfl⟩
  · refine .inr ⟨g, cap, cs, rfl, Nat.zero_le _, hb, h1, h2, by omega, ?_⟩
    apply List.ext_getElem?
    intro i
    rw [List.getElem?_take]
    by_cases hi : i < xs.length
    · rw [if_pos (by omega), Array.getElem?_toList, h4 i hi, List.getElem?_map, List.getElem?_eq_getElem hi]; rfl
    · rw [if_neg (by omega), List.getElem?_eq_none (by simpa using hi)]
theorem RowI.of_owns {g cap : Nat} (h : w.ownsRow 0 e 1 (.slice (some ⟨g, 0, none⟩) xs.length cap) xs.length (xs.map (Value.int k))) : RowI w e k g cap xs := by
  rcases h.2 with ⟨h1, _⟩ | ⟨g', cap', cur, h1, _, hb, h2, h3, h4, h5⟩
  · cases h1
  · injection h1 with e1 _ e3
    injection e1 with e1
    injection e1 with e1
    subst e1 e3
    refine ⟨cur, hb, h2, h3, by omega, fun i hi => ?_⟩
    have e1 : (cur.toList.take (xs.length * 1))[i]? = some (.int k xs[i]) := by rw [h5]; simp [hi]
    rw [List.getElem?_take, if_pos (by omega)] at e1
    simpa using e1
/-- Where one more is appended. -/
structure Pushed (w w' : World) (e : TypeId) (k : IntKind) (v : Value) (g cap : Nat) (ys : List Int) (H : Nat) : Prop where
  row : RowI w' e k g cap ys
  grown : w.grownBy w' v.ownBlock
  at_ : v.ownBlock = some g ∨ g = H
theorem Pushed.lt {g cap H : Nat} {ys : List Int} (h : Pushed w w' e k v g cap ys H) : g < w'.heap.size := h.row.lt
theorem Pushed.size {g cap H : Nat} {ys : List Int} (h : Pushed w w' e k v g cap ys H) : w.heap.size ≤ w'.heap.size := h.grown.size
theorem Pushed.block {g cap H : Nat} {ys : List Int} (h : Pushed w w' e k v g cap ys H) {i : Nat} (hi : i < w.heap.size) (hn : v.ownBlock ≠ some i) : w'.heap[i]? = w.heap[i]? := h.grown.block i hi (fun e => hn e.symm)
theorem Pushed.only {g cap H : Nat} {ys : List Int} (h : Pushed w w' e k v g cap ys H) : Only (fun i => v.ownBlock = some i) w w' :=
  ⟨h.grown.os, h.grown.tape, h.grown.output, h.grown.size, fun i hi hn => h.grown.block i hi (fun e => hn e.symm)⟩
end
section
variable {P : Program} {w : World}
theorem wpList_push {ops : Array Oper} {rest : List Oper} {o : Oper} {a : Act} {Q : Exit → Act → World → Prop} (s x : Operand) (t e : TypeId) (k : IntKind) (z : Int) (bytes : Nat) (hgd : o.guard = none)
    (ho : o.op = .call { callee := .builtin .append, args := #[s, x], argTypes := #[t, t] })
    (ht : P.underlying t = some (.slice e)) (hinfo : (P.info? e).map (fun i => (i.zero, i.size, i.bytes)) = some (some (.int k z), 1, bytes))
    (v : Value) (xs : List Int) (n : Nat) (y : Int) (ad : Addr) (H : Nat) (hs : a.eval s = v) (hx : a.eval x = .slice (some ad) 1 1) (hsl : Sl w e k v xs) (hn : xs.length = n) (hc : w.cell? ad = some (.int k y)) (hH : w.heap.size = H)
    (hb : (n + 1) * bytes ≤ 140737488355328) (hm : n < 140737488355328)
    (h : ∀ g cap w', Pushed w w' e k v g cap (xs ++ [y]) H → wpList P ops Q rest (a.put o.dst (.slice (some ⟨g, 0, none⟩) (n + 1) cap)) w') : wpList P ops Q (o :: rest) a w := by
  obtain ⟨i0, hi, hzz⟩ := Option.map_eq_some_iff.1 hinfo
  simp only [Prod.mk.injEq] at hzz
  obtain ⟨hz0, hz1, hz2⟩ := hzz
  subst hn
  refine wpList_append_lies (w := w) hgd s x t ho 0 e i0 (.int k z) 1 bytes ht hi hz0 hz1 hz2 rfl (by decide) v xs.length (xs.map (Value.int k)) hs hsl.owns ad 1 1 [.int k y] hx (by simp) ?_ (by simp [Value.oneCell']) (by decide) (by simp only [maxLen]; omega) hb (Nat.zero_le _) H hH ?_
  · intro j u hj
    match j, hj with
    | 0, hj => simp at hj; subst hj; rw [add_nought]; exact hc
    | j + 1, hj => simp at hj
  · intro g cap w' h1 h2 h3 h4
    refine h g cap w' ⟨RowI.of_owns ?_, h2, h3⟩
    have e1 : (xs ++ [y]).length = xs.length + 1 := by simp
    have e2 : (xs ++ [y]).map (Value.int k) = xs.map (Value.int k) ++ [.int k y] := by simp
    rw [e1, e2]; exact h1
theorem step_push {ops : Array Oper} {o : Oper} {a : Act} {K : Act → World → Prop} {Q : Exit → Act → World → Prop} {E : Prop} (s x : Operand) (t e : TypeId) (k : IntKind) (z : Int) (bytes : Nat) (hgd : o.guard = none)
    (ho : o.op = .call { callee := .builtin .append, args := #[s, x], argTypes := #[t, t] })
    (ht : P.underlying t = some (.slice e)) (hinfo : (P.info? e).map (fun i => (i.zero, i.size, i.bytes)) = some (some (.int k z), 1, bytes))
    (v : Value) (xs : List Int) (n : Nat) (y : Int) (ad : Addr) (H : Nat) (hs : a.eval s = v) (hx : a.eval x = .slice (some ad) 1 1) (hsl : Sl w e k v xs) (hn : xs.length = n) (hc : w.cell? ad = some (.int k y)) (hH : w.heap.size = H)
    (hb : (n + 1) * bytes ≤ 140737488355328) (hm : n < 140737488355328)
    (h : ∀ g cap w', Pushed w w' e k v g cap (xs ++ [y]) H → K (a.put o.dst (.slice (some ⟨g, 0, none⟩) (n + 1) cap)) w') :
    if Region.wanted o (yielded ops a.tmps) = true then Oper.wp P o a w K Q else E := by
  obtain ⟨i0, hi, hzz⟩ := Option.map_eq_some_iff.1 hinfo
  simp only [Prod.mk.injEq] at hzz
  obtain ⟨hz0, hz1, hz2⟩ := hzz
  subst hn
  refine step_append_lies (w := w) hgd s x t ho 0 e i0 (.int k z) 1 bytes ht hi hz0 hz1 hz2 rfl (by decide) v xs.length (xs.map (Value.int k)) hs hsl.owns ad 1 1 [.int k y] hx (by simp) ?_ (by simp [Value.oneCell']) (by decide) (by simp only [maxLen]; omega) hb (Nat.zero_le _) H hH ?_
  · intro j u hj
    match j, hj with
    | 0, hj => simp at hj; subst hj; rw [add_nought]; exact hc
    | j + 1, hj => simp at hj
  · intro g cap w' h1 h2 h3 h4
    refine h g cap w' ⟨RowI.of_owns ?_, h2, h3⟩
    have e1 : (xs ++ [y]).length = xs.length + 1 := by simp
    have e2 : (xs ++ [y]).map (Value.int k) = xs.map (Value.int k) ++ [.int k y] := by simp
    rw [e1, e2]; exact h1
/-- u is a slice of these numbers, wherever they lie. -/
def Src (w : World) (k : IntKind) (u : Value) (ys : List Int) : Prop :=
  ∃ A c, u = .slice A ys.length c ∧ (0 < ys.length → ∃ ad, A = some ad ∧ ∀ j (h : j < ys.length), w.cell? (ad.add j) = some (.int k ys[j]))
theorem Src.of_sl {w : World} {e : TypeId} {k : IntKind} {v : Value} {xs : List Int} (h : Sl w e k v xs) : Src w k v xs := by
  rcases h with ⟨rfl, rfl⟩ | ⟨g, cap, rfl, h⟩
  · exact ⟨none, 0, rfl, fun h => by simp at h⟩
  · refine ⟨_, cap, rfl, fun _ => ⟨_, rfl, fun j hj => ?_⟩⟩
    have e1 : (Addr.add ⟨g, 0, none⟩ j) = ⟨g, j, none⟩ := by unfold Addr.add; split <;> simp_all
    rw [e1]; exact h.cell hj
theorem Src.of_C {w : World} {k : IntKind} {A : Option Addr} {c : Nat} {ys : List Int} (h : (Go.Proofs.YtlbjoflmfboeeaaW.PrintWords.Kd.int k).C w A ys.length ys) : Src w k (.slice A ys.length c) ys := by
  refine ⟨A, c, rfl, fun h0 => ?_⟩
  obtain ⟨ad, e, _⟩ := cell_C h h0
  subst e
  refine ⟨ad, rfl, fun j hj => ?_⟩
  obtain ⟨ad', e', hc⟩ := cell_C h hj
  injection e' with e'
  subst e'
  exact hc
theorem Src.same {w w' : World} {k : IntKind} {u : Value} {ys : List Int} (h : Src w k u ys) (hs : ∀ g, u.ownBlock = some g → 0 < ys.length → w'.heap[g]? = w.heap[g]?) : Src w' k u ys := by
  obtain ⟨A, c, rfl, h⟩ := h
  refine ⟨A, c, rfl, fun h0 => ?_⟩
  obtain ⟨ad, rfl, hc⟩ := h h0
  refine ⟨ad, rfl, fun j hj => ?_⟩
  rw [← hc j hj]
  exact World.cell?_of_block (by rw [add_block]; exact hs ad.block rfl h0)
theorem Src.drew {w : World} {k : IntKind} {u : Value} {ys : List Int} (h : Src w k u ys) : Src w.drew k u ys := h
theorem Src.lt {w : World} {k : IntKind} {u : Value} {ys : List Int} (h : Src w k u ys) {g : Nat} (hg : u.ownBlock = some g) (h0 : 0 < ys.length) : g < w.heap.size := by
  obtain ⟨A, c, rfl, h⟩ := h
  obtain ⟨ad, rfl, hc⟩ := h h0
  have e : ad.block = g := Option.some.inj hg
  have := World.block_lt_of_cell? w _ (hc 0 h0)
  rw [add_block, e] at this
  exact this
theorem Src.below {w w' : World} {k : IntKind} {u : Value} {ys : List Int} (h : Src w k u ys) (b : Below w.heap.size w w') : Src w' k u ys := h.same fun g hg h0 => b.block g (h.lt hg h0)
/-- Where many are appended. -/
structure Added (w w' : World) (e : TypeId) (k : IntKind) (v v' : Value) (ys : List Int) (H : Nat) : Prop where
  sl : Sl w' e k v' ys
  grown : w.grownBy w' v.ownBlock
  at_ : v'.ownBlock = v.ownBlock ∨ v'.ownBlock = some H
theorem Added.only {w w' : World} {e : TypeId} {k : IntKind} {v v' : Value} {ys : List Int} {H : Nat} (h : Added w w' e k v v' ys H) : Only (fun i => v.ownBlock = some i) w w' :=
  ⟨h.grown.os, h.grown.tape, h.grown.output, h.grown.size, fun i hi hn => h.grown.block i hi (fun e => hn e.symm)⟩
theorem Sl.of_owns {w : World} {e : TypeId} {k : IntKind} {v : Value} {xs : List Int} {n : Nat} (h : w.ownsRow 0 e 1 v n (xs.map (Value.int k))) : Sl w e k v xs := by
  have hn : xs.length = n := by have := h.1; simpa using this
  subst hn
  rcases h.2 with ⟨rfl, h0⟩ | ⟨g, cap, cur, rfl, r⟩
  · exact .inl ⟨rfl, List.eq_nil_of_length_eq_zero h0⟩
  · exact Sl.row (RowI.of_owns h)
theorem run_add (t ty e : TypeId) (k : IntKind) (z : Int) (bytes : Nat) (ht : P.underlying t = some (.slice e)) (hinfo : (P.info? e).map (fun i => (i.zero, i.size, i.bytes)) = some (some (.int k z), 1, bytes))
    (v u : Value) (xs ys : List Int) (hsl : Sl w e k v xs) (hx : Src w k u ys) (hb : (xs.length + ys.length) * bytes ≤ 140737488355328) (hm : xs.length + ys.length ≤ 140737488355328) :
    ∃ v' w', (Builtin.append_ #[t, t] ty #[v, u]).run P w = .ok v' w' ∧ Added w w' e k v v' (xs ++ ys) w.heap.size := by
  obtain ⟨i0, hi, hzz⟩ := Option.map_eq_some_iff.1 hinfo
  simp only [Prod.mk.injEq] at hzz
  obtain ⟨hz0, hz1, hz2⟩ := hzz
  obtain ⟨A, c, rfl, hy⟩ := hx
  by_cases h0 : 0 < ys.length
  · obtain ⟨ad, rfl, hc⟩ := hy h0
    obtain ⟨v', w', h1, h2, h3, _, h5⟩ := run_append_own_at (P := P) w 0 t ty e i0 (.int k z) 1 bytes ht hi hz0 hz1 hz2 rfl (by decide) v xs.length (xs.map (Value.int k)) hsl.owns ad ys.length c (ys.map (Value.int k)) (by simp) (fun j q hj => by
      rw [List.getElem?_map] at hj
      have hjl : j < ys.length := by
        rcases Nat.lt_or_ge j ys.length with h | h
        · exact h
        · rw [List.getElem?_eq_none h] at hj; cases hj
      rw [List.getElem?_eq_getElem hjl] at hj
      rw [hc j hjl]; exact hj) (fun q hq => by obtain ⟨y, _, rfl⟩ := List.mem_map.1 hq; rfl) (by simp only [maxLen]; omega) hb (Nat.zero_le _)
    refine ⟨v', w', h1, ⟨Sl.of_owns (n := xs.length + ys.length) (by rw [List.map_append]; exact h2), h3, h5⟩⟩
  · have hn : ys = [] := List.eq_nil_of_length_eq_zero (by omega)
    subst hn
    rw [List.append_nil]
    have refl : w.grownBy w v.ownBlock := ⟨rfl, rfl, rfl, Nat.le_refl _, fun _ _ _ => rfl⟩
    cases A with
    | none =>
      refine ⟨v, w, ?_, ⟨hsl, refl, .inl rfl⟩⟩
      rcases hsl with ⟨rfl, rfl⟩ | ⟨g, cap, rfl, h⟩
      · simp [Builtin.append_, run_underlying ht, sizeOf, typeInfo, hi, Builtin.lenOf, Builtin.firstCells]
      · simp [Builtin.append_, run_underlying ht, sizeOf, typeInfo, hi, Builtin.lenOf, Builtin.firstCells, h.len.1, storeCells]
    | some ad =>
      obtain ⟨v', w', h1, h2, h3, _, h5⟩ := run_append_own_at (P := P) w 0 t ty e i0 (.int k z) 1 bytes ht hi hz0 hz1 hz2 rfl (by decide) v xs.length (xs.map (Value.int k)) hsl.owns ad 0 c [] (by simp) (fun j q hj => by simp at hj) (fun q hq => by cases hq) (by simp only [maxLen]; omega) (by simpa using hb) (Nat.zero_le _)
      rw [List.append_nil] at h2
      exact ⟨v', w', h1, ⟨Sl.of_owns h2, h3, h5⟩⟩
theorem wpList_add {ops : Array Oper} {rest : List Oper} {o : Oper} {a : Act} {Q : Exit → Act → World → Prop} (s x : Operand) (t e : TypeId) (k : IntKind) (z : Int) (bytes : Nat) (hgd : o.guard = none)
    (ho : o.op = .call { callee := .builtin .append, args := #[s, x], argTypes := #[t, t] })
    (ht : P.underlying t = some (.slice e)) (hinfo : (P.info? e).map (fun i => (i.zero, i.size, i.bytes)) = some (some (.int k z), 1, bytes))
    (v u : Value) (xs ys : List Int) (hs : a.eval s = v) (hx : a.eval x = u) (hsl : Sl w e k v xs) (hsrc : Src w k u ys) (hb : (xs.length + ys.length) * bytes ≤ 140737488355328) (hm : xs.length + ys.length ≤ 140737488355328)
    (h : ∀ v' w', Added w w' e k v v' (xs ++ ys) w.heap.size → wpList P ops Q rest (a.put o.dst v') w') : wpList P ops Q (o :: rest) a w := by
  refine wpList_plain hgd fun K hK => ?_
  obtain ⟨v', w', hr, h2⟩ := run_add (P := P) (w := w) t o.type e k z bytes ht hinfo v u xs ys hsl hsrc hb hm
  unfold Oper.wp execOp
  simp only [ho, resolve, invoke, builtin, Sem.run_bind, Sem.run_pure, Result.andThen_ok, List.map_toArray, List.map_cons, List.map_nil, hs, hx, hr]
  exact hK _ _ (h v' w' h2)
theorem step_add {ops : Array Oper} {o : Oper} {a : Act} {K : Act → World → Prop} {Q : Exit → Act → World → Prop} {E : Prop} (s x : Operand) (t e : TypeId) (k : IntKind) (z : Int) (bytes : Nat) (hgd : o.guard = none)
    (ho : o.op = .call { callee := .builtin .append, args := #[s, x], argTypes := #[t, t] })
    (ht : P.underlying t = some (.slice e)) (hinfo : (P.info? e).map (fun i => (i.zero, i.size, i.bytes)) = some (some (.int k z), 1, bytes))
    (v u : Value) (xs ys : List Int) (hs : a.eval s = v) (hx : a.eval x = u) (hsl : Sl w e k v xs) (hsrc : Src w k u ys) (hb : (xs.length + ys.length) * bytes ≤ 140737488355328) (hm : xs.length + ys.length ≤ 140737488355328)
    (h : ∀ v' w', Added w w' e k v v' (xs ++ ys) w.heap.size → K (a.put o.dst v') w') :
    if Region.wanted o (yielded ops a.tmps) = true then Oper.wp P o a w K Q else E := by
  have hw : Region.wanted o (yielded ops a.tmps) = true := by simp [Region.wanted, hgd]
  rw [if_pos hw]
  obtain ⟨v', w', hr, h2⟩ := run_add (P := P) (w := w) t o.type e k z bytes ht hinfo v u xs ys hsl hsrc hb hm
  unfold Oper.wp execOp
  simp only [ho, resolve, invoke, builtin, Sem.run_bind, Sem.run_pure, Result.andThen_ok, List.map_toArray, List.map_cons, List.map_nil, hs, hx, hr]
  exact h v' w' h2
end
theorem RowI.take {w : World} {e : TypeId} {k : IntKind} {g cap : Nat} {xs : List Int} (h : RowI w e k g cap xs) (n : Nat) : RowI w e k g cap (xs.take n) := by
  obtain ⟨cs, h1, h2, h3, h4, h5⟩ := h
  refine ⟨cs, h1, by rw [List.length_take]; omega, h3, h4, fun i hi => ?_⟩
  rw [List.length_take] at hi
  rw [h5 i (by omega), List.getElem_take]
end Go.Proofs.Ytlbjoflmfboeeaa

/-
  Words: all that was made, as a list of objects that lie apart. Plain theorems; no condition.
-/
set_option linter.unusedVariables false
namespace Go.Proofs.Ytlbjoflmfboeeaa
open Go.RowKit

theorem Sep.perm {w : World} {B : Nat} {l l' : List Ast} (p : l.Perm l') : ∀ U, Sep w B U l → Sep w B U l' := by
  induction p with
  | nil => exact fun _ h => h
  | cons A _ ih => exact fun U h => Sep.cons ih h
  | swap A B l => exact fun U h => h.swap
  | trans _ _ h1 h2 => exact fun U h => h2 U (h1 U h)
/-- Two objects as one. -/
def Ast.both (A1 A2 : Ast) : Ast where
  holds w F := ∃ F1 F2, A1.holds w F1 ∧ A2.holds w F2 ∧ (∀ k, F2 k → ¬ F1 k) ∧ F = fun k => F1 k ∨ F2 k
  lt := fun {w F k} ⟨F1, F2, h1, h2, _, e⟩ hk => by
    subst e
    rcases hk with hk | hk
    · exact A1.lt h1 hk
    · exact A2.lt h2 hk
  move := fun {w w' F} ⟨F1, F2, h1, h2, h3, e⟩ hs => by
    subst e
    exact ⟨F1, F2, A1.move h1 fun k hk => hs k (.inl hk), A2.move h2 fun k hk => hs k (.inr hk), h3, rfl⟩
theorem Sep.both {w : World} {B : Nat} {U : Nat → Prop} {A1 A2 : Ast} {l : List Ast} (h : Sep w B U (A1 :: A2 :: l)) : Sep w B U (Ast.both A1 A2 :: l) := by
  obtain ⟨F1, h1, g1, F2, h2, g2, h3⟩ := h
  refine ⟨_, ⟨F1, F2, h1, h2, fun k hk e => (g2 k hk).2 (.inr e), rfl⟩, fun k hk => ?_, Sep.weak (fun k hk => ?_) h3⟩
  · rcases hk with hk | hk
    · exact g1 k hk
    · exact ⟨(g2 k hk).1, fun e => (g2 k hk).2 (.inl e)⟩
  · rcases hk with hk | hk | hk
    · exact .inl (.inl hk)
    · exact .inl (.inr hk)
    · exact .inr hk
theorem Sep.apart {w : World} {B : Nat} {U : Nat → Prop} {A1 A2 : Ast} {l : List Ast} (h : Sep w B U (Ast.both A1 A2 :: l)) : Sep w B U (A1 :: A2 :: l) := by
  obtain ⟨F, ⟨F1, F2, h1, h2, h3, rfl⟩, g, h4⟩ := h
  refine ⟨F1, h1, fun k hk => g k (.inl hk), F2, h2, fun k hk => ⟨(g k (.inr hk)).1, fun e => ?_⟩, Sep.weak (fun k hk => ?_) h4⟩
  · rcases e with e | e
    · exact (g k (.inr hk)).2 e
    · exact h3 k hk e
  · rcases hk with (hk | hk) | hk
    · exact .inl hk
    · exact .inr (.inl hk)
    · exact .inr (.inr hk)
theorem front_perm : ∀ (l : List Ast) (i : Nat) (hi : i < l.length), l.Perm (l[i] :: l.eraseIdx i)
  | A :: l, 0, _ => List.Perm.refl _
  | A :: l, i + 1, hi => ((front_perm l i (by simpa using hi)).cons A).trans (List.Perm.swap _ _ _)
/-- What was there at first is as it was; these objects, made since, lie apart. -/
def Hp (W w : World) (l : List Ast) : Prop := Below W.heap.size W w ∧ Sep w W.heap.size Em l
section
variable {W w w' : World} {A A' A1 A2 A1' A2' : Ast} {l l' : List Ast}
theorem Hp.nil (W : World) : Hp W W [] := ⟨Below.refl _ _, trivial⟩
theorem Hp.b (h : Hp W w l) : Below W.heap.size W w := h.1
theorem Hp.size (h : Hp W w l) : W.heap.size ≤ w.heap.size := h.1.size
theorem Hp.perm (h : Hp W w l) (p : l.Perm l') : Hp W w l' := ⟨h.1, Sep.perm p _ h.2⟩
theorem Hp.front (h : Hp W w l) (i : Nat) (hi : i < l.length) : Hp W w (l[i] :: l.eraseIdx i) := h.perm (front_perm l i hi)
theorem Hp.back (h : Hp W w (A :: l)) (i : Nat) (hi : i ≤ l.length) : Hp W w (l.insertIdx i A) := h.perm (List.perm_insertIdx A l hi).symm
theorem Hp.swap (h : Hp W w (A1 :: A2 :: l)) : Hp W w (A2 :: A1 :: l) := ⟨h.1, h.2.swap⟩
theorem Hp.up1 {B0 C : Ast} (h : Hp W w (B0 :: C :: l)) : Hp W w (C :: B0 :: l) := h.front 1 (by simp)
theorem Hp.down1 {B0 C : Ast} (h : Hp W w (C :: B0 :: l)) : Hp W w (B0 :: C :: l) := h.back 1 (by simp)
theorem Hp.up2 {B0 B1 C : Ast} (h : Hp W w (B0 :: B1 :: C :: l)) : Hp W w (C :: B0 :: B1 :: l) := h.front 2 (by simp)
theorem Hp.down2 {B0 B1 C : Ast} (h : Hp W w (C :: B0 :: B1 :: l)) : Hp W w (B0 :: B1 :: C :: l) := h.back 2 (by simp)
theorem Hp.up3 {B0 B1 B2 C : Ast} (h : Hp W w (B0 :: B1 :: B2 :: C :: l)) : Hp W w (C :: B0 :: B1 :: B2 :: l) := h.front 3 (by simp)
theorem Hp.down3 {B0 B1 B2 C : Ast} (h : Hp W w (C :: B0 :: B1 :: B2 :: l)) : Hp W w (B0 :: B1 :: B2 :: C :: l) := h.back 3 (by simp)
theorem Hp.up4 {B0 B1 B2 B3 C : Ast} (h : Hp W w (B0 :: B1 :: B2 :: B3 :: C :: l)) : Hp W w (C :: B0 :: B1 :: B2 :: B3 :: l) := h.front 4 (by simp)
theorem Hp.down4 {B0 B1 B2 B3 C : Ast} (h : Hp W w (C :: B0 :: B1 :: B2 :: B3 :: l)) : Hp W w (B0 :: B1 :: B2 :: B3 :: C :: l) := h.back 4 (by simp)
theorem Hp.up5 {B0 B1 B2 B3 B4 C : Ast} (h : Hp W w (B0 :: B1 :: B2 :: B3 :: B4 :: C :: l)) : Hp W w (C :: B0 :: B1 :: B2 :: B3 :: B4 :: l) := h.front 5 (by simp)
theorem Hp.down5 {B0 B1 B2 B3 B4 C : Ast} (h : Hp W w (C :: B0 :: B1 :: B2 :: B3 :: B4 :: l)) : Hp W w (B0 :: B1 :: B2 :: B3 :: B4 :: C :: l) := h.back 5 (by simp)
theorem Hp.up6 {B0 B1 B2 B3 B4 B5 C : Ast} (h : Hp W w (B0 :: B1 :: B2 :: B3 :: B4 :: B5 :: C :: l)) : Hp W w (C :: B0 :: B1 :: B2 :: B3 :: B4 :: B5 :: l) := h.front 6 (by simp)
theorem Hp.down6 {B0 B1 B2 B3 B4 B5 C : Ast} (h : Hp W w (C :: B0 :: B1 :: B2 :: B3 :: B4 :: B5 :: l)) : Hp W w (B0 :: B1 :: B2 :: B3 :: B4 :: B5 :: C :: l) := h.back 6 (by simp)
theorem Hp.up7 {B0 B1 B2 B3 B4 B5 B6 C : Ast} (h : Hp W w (B0 :: B1 :: B2 :: B3 :: B4 :: B5 :: B6 :: C :: l)) : Hp W w (C :: B0 :: B1 :: B2 :: B3 :: B4 :: B5 :: B6 :: l) := h.front 7 (by simp)
theorem Hp.down7 {B0 B1 B2 B3 B4 B5 B6 C : Ast} (h : Hp W w (C :: B0 :: B1 :: B2 :: B3 :: B4 :: B5 :: B6 :: l)) : Hp W w (B0 :: B1 :: B2 :: B3 :: B4 :: B5 :: B6 :: C :: l) := h.back 7 (by simp)
theorem Hp.up8 {B0 B1 B2 B3 B4 B5 B6 B7 C : Ast} (h : Hp W w (B0 :: B1 :: B2 :: B3 :: B4 :: B5 :: B6 :: B7 :: C :: l)) : Hp W w (C :: B0 :: B1 :: B2 :: B3 :: B4 :: B5 :: B6 :: B7 :: l) := h.front 8 (by simp)
theorem Hp.down8 {B0 B1 B2 B3 B4 B5 B6 B7 C : Ast} (h : Hp W w (C :: B0 :: B1 :: B2 :: B3 :: B4 :: B5 :: B6 :: B7 :: l)) : Hp W w (B0 :: B1 :: B2 :: B3 :: B4 :: B5 :: B6 :: B7 :: C :: l) := h.back 8 (by simp)
theorem Hp.up9 {B0 B1 B2 B3 B4 B5 B6 B7 B8 C : Ast} (h : Hp W w (B0 :: B1 :: B2 :: B3 :: B4 :: B5 :: B6 :: B7 :: B8 :: C :: l)) : Hp W w (C :: B0 :: B1 :: B2 :: B3 :: B4 :: B5 :: B6 :: B7 :: B8 :: l) := h.front 9 (by simp)
theorem Hp.down9 {B0 B1 B2 B3 B4 B5 B6 B7 B8 C : Ast} (h : Hp W w (C :: B0 :: B1 :: B2 :: B3 :: B4 :: B5 :: B6 :: B7 :: B8 :: l)) : Hp W w (B0 :: B1 :: B2 :: B3 :: B4 :: B5 :: B6 :: B7 :: B8 :: C :: l) := h.back 9 (by simp)
theorem Hp.drop (h : Hp W w (A :: l)) : Hp W w l := ⟨h.1, h.2.tail⟩
/-- Some of the objects, each told by its place among those that are left. -/
def pick : List Nat → List Ast → List Ast
  | [], _ => []
  | i :: is, l => match l[i]? with
    | some A => A :: pick is (l.eraseIdx i)
    | none => []
theorem Sep.pick {w : World} {B : Nat} (is : List Nat) : ∀ (l : List Ast) (U : Nat → Prop), Sep w B U l → Sep w B U (pick is l) := by
  induction is with
  | nil => intro l U h; exact trivial
  | cons i is ih =>
    intro l U h
    unfold Go.Proofs.Ytlbjoflmfboeeaa.pick
    by_cases hi : i < l.length
    · rw [List.getElem?_eq_getElem hi]
      exact Sep.cons (fun U => ih _ U) (Sep.perm (front_perm l i hi) U h)
    · rw [List.getElem?_eq_none (by omega)]
      exact trivial
theorem Hp.pk (h : Hp W w l) (is : List Nat) : Hp W w (pick is l) := ⟨h.1, Sep.pick is l _ h.2⟩
/-- What turns nothing that was there. -/
theorem Hp.keep (h : Hp W w l) (b : Below w.heap.size w w') : Hp W w' l := ⟨h.1.trans (b.mono h.1.size), Sep.only (Only.of_below b : Only (fun _ => False) w w') (fun _ e => e.elim) h.2⟩
theorem Hp.drewN (h : Hp W w l) (n : Nat) : Hp W (w.drewN n) l := h.keep ⟨rfl, rfl, rfl, Nat.le_refl _, fun _ _ => rfl⟩
theorem Hp.drew (h : Hp W w l) : Hp W w.drew l := h.drewN 1
theorem Hp.alloc (h : Hp W w l) (o : Obj) : Hp W (w.alloc o) l := h.keep ((Below.refl _ _).alloc (Nat.le_refl _) o)
theorem Hp.open1 (h : Hp W w (A :: l)) : ∃ F, A.holds w F ∧ (∀ k, F k → W.heap.size ≤ k ∧ k < w.heap.size) ∧
    ∀ {w' : World} {A' : Ast} {F' : Nat → Prop}, Only F w w' → A'.holds w' F' → (∀ k, F' k → F k ∨ w.heap.size ≤ k) → Hp W w' (A' :: l) := by
  obtain ⟨b, F, h1, h2, h3⟩ := h
  refine ⟨F, h1, fun k hk => ⟨(h2 k hk).1, A.lt h1 hk⟩, fun ho h' hs => ⟨b.trans (ho.below b.size fun k hk => (h2 k hk).1), ?_⟩⟩
  exact Sep.turn h2 h3 (fun _ e => e.elim) b.size ho h' hs
/-- Two objects, both turned. -/
theorem Hp.open2 (h : Hp W w (A1 :: A2 :: l)) : ∃ F1 F2, A1.holds w F1 ∧ A2.holds w F2 ∧ (∀ k, F1 k → W.heap.size ≤ k ∧ k < w.heap.size) ∧ (∀ k, F2 k → W.heap.size ≤ k ∧ k < w.heap.size) ∧ (∀ k, F2 k → ¬ F1 k) ∧
    ∀ {w' : World} {A1' A2' : Ast} {F1' F2' : Nat → Prop}, Only (fun k => F1 k ∨ F2 k) w w' → A1'.holds w' F1' → A2'.holds w' F2' → (∀ k, F1' k → F1 k ∨ w.heap.size ≤ k) → (∀ k, F2' k → F2 k ∨ w.heap.size ≤ k) → (∀ k, F2' k → ¬ F1' k) → Hp W w' (A1' :: A2' :: l) := by
  have hb : Hp W w (Ast.both A1 A2 :: l) := ⟨h.1, h.2.both⟩
  obtain ⟨F, ⟨F1, F2, h1, h2, h3, rfl⟩, h4, K⟩ := hb.open1
  refine ⟨F1, F2, h1, h2, fun k hk => h4 k (.inl hk), fun k hk => h4 k (.inr hk), h3, fun {w' A1' A2' F1' F2'} ho k1 k2 s1 s2 d => ?_⟩
  have := K (A' := Ast.both A1' A2') ho ⟨F1', F2', k1, k2, d, rfl⟩ (fun k hk => by
    rcases hk with hk | hk
    · exact (s1 k hk).imp .inl id
    · exact (s2 k hk).imp .inr id)
  exact ⟨this.1, this.2.apart⟩
theorem Hp.apart (h : Hp W w (Ast.both A1 A2 :: l)) : Hp W w (A1 :: A2 :: l) := ⟨h.1, h.2.apart⟩
theorem Hp.both (h : Hp W w (A1 :: A2 :: l)) : Hp W w (Ast.both A1 A2 :: l) := ⟨h.1, h.2.both⟩
/-- Two objects, the second one only read. -/
theorem Hp.open1r (h : Hp W w (A1 :: A2 :: l)) : ∃ F1 F2, A1.holds w F1 ∧ A2.holds w F2 ∧ (∀ k, F1 k → W.heap.size ≤ k ∧ k < w.heap.size) ∧ (∀ k, F2 k → W.heap.size ≤ k ∧ k < w.heap.size) ∧ (∀ k, F2 k → ¬ F1 k) ∧
    ∀ {w' : World} {A1' : Ast} {F1' : Nat → Prop}, Only F1 w w' → A1'.holds w' F1' → (∀ k, F1' k → F1 k ∨ w.heap.size ≤ k) → Hp W w' (A1' :: A2 :: l) := by
  obtain ⟨F1, F2, h1, h2, g1, g2, h3, K⟩ := h.open2
  refine ⟨F1, F2, h1, h2, g1, g2, h3, fun {w' A1' F1'} ho k1 s1 => K (ho.mono fun k hk => .inl hk) k1 (A2.move h2 fun k hk => ho.block k (g2 k hk).2 (h3 k hk)) s1 (fun k hk => .inl hk) (fun k hk e => ?_)⟩
  rcases s1 k e with e | e
  · exact h3 k hk e
  · have := (g2 k hk).2; omega
/-- Three objects, the second and the third one only read. -/
theorem Hp.open1rr {A3 : Ast} (h : Hp W w (A1 :: A2 :: A3 :: l)) : ∃ F1 F2 F3, A1.holds w F1 ∧ A2.holds w F2 ∧ A3.holds w F3 ∧ (∀ k, F1 k → W.heap.size ≤ k ∧ k < w.heap.size) ∧ (∀ k, F2 k → W.heap.size ≤ k ∧ k < w.heap.size) ∧ (∀ k, F3 k → W.heap.size ≤ k ∧ k < w.heap.size) ∧ (∀ k, F2 k → ¬ F1 k) ∧ (∀ k, F3 k → ¬ F1 k) ∧ (∀ k, F3 k → ¬ F2 k) ∧
    ∀ {w' : World} {A1' : Ast} {F1' : Nat → Prop}, Only F1 w w' → A1'.holds w' F1' → (∀ k, F1' k → F1 k ∨ w.heap.size ≤ k) → Hp W w' (A1' :: A2 :: A3 :: l) := by
  have hb : Hp W w (A1 :: Ast.both A2 A3 :: l) := ⟨h.1, Sep.cons (fun _ => Sep.both) h.2⟩
  obtain ⟨F1, F, h1, ⟨F2, F3, h2, h3, d, rfl⟩, g1, g2, ne, K⟩ := hb.open1r
  refine ⟨F1, F2, F3, h1, h2, h3, g1, fun k hk => g2 k (.inl hk), fun k hk => g2 k (.inr hk), fun k hk => ne k (.inl hk), fun k hk => ne k (.inr hk), d, fun {w' A1' F1'} ho k1 s1 => ?_⟩
  have := K ho k1 s1
  exact ⟨this.1, Sep.cons (fun _ => Sep.apart) this.2⟩
/-- A new object. -/
theorem Hp.new {F' : Nat → Prop} (h : Hp W w l) (b : Below w.heap.size w w') (h' : A'.holds w' F') (hn : ∀ k, F' k → w.heap.size ≤ k) : Hp W w' (A' :: l) :=
  ⟨h.1.trans (b.mono h.1.size), Sep.new h.2 h.1.size b h' hn⟩
/-- An object is turned, whatever it is. -/
theorem Hp.turn (h : Hp W w (A :: l)) (k : ∀ F, A.holds w F → Only F w w' ∧ ∃ F', A'.holds w' F' ∧ ∀ i, F' i → F i ∨ w.heap.size ≤ i) : Hp W w' (A' :: l) := by
  obtain ⟨F, h1, _, K⟩ := h.open1
  obtain ⟨h2, F', h3, h4⟩ := k F h1
  exact K h2 h3 h4
/-- The same object, told otherwise. -/
theorem Hp.say (h : Hp W w (A :: l)) (k : ∀ F, A.holds w F → A'.holds w F) : Hp W w (A' :: l) := h.turn fun F hF => ⟨Only.refl _ _, F, k F hF, fun _ h => .inl h⟩
end
/-- A row of numbers. -/
def rowA (t : TypeId) (k : IntKind) (g cap : Nat) (xs : List Int) : Ast where
  holds w F := RowI w t k g cap xs ∧ F = fun i => i = g
  lt := fun ⟨h, e⟩ hk => by subst e; subst hk; exact h.lt
  move := fun ⟨h, e⟩ hs => by subst e; exact ⟨h.of_same (hs _ rfl), rfl⟩
/-- A slice that owns its block, or is nil. -/
def slA (t : TypeId) (k : IntKind) (v : Value) (xs : List Int) : Ast where
  holds w F := Sl w t k v xs ∧ F = fun i => v.ownBlock = some i
  lt := fun ⟨h, e⟩ hk => by subst e; exact h.lt hk
  move := fun ⟨h, e⟩ hs => by subst e; exact ⟨h.of_same fun g hg => hs g hg, rfl⟩
/-- A block known whole. -/
def blkA (g : Nat) (t : TypeId) (cs : Array Value) : Ast where
  holds w F := Blk w g t cs ∧ F = fun i => i = g
  lt := fun ⟨h, e⟩ hk => by subst e; subst hk; exact h.lt
  move := fun ⟨h, e⟩ hs => by subst e; exact ⟨h.of_same (hs _ rfl), rfl⟩
section
variable {W w w' : World} {t : TypeId} {k : IntKind} {g cap : Nat} {xs : List Int} {v : Value} {cs : Array Value} {l : List Ast}
theorem Hp.row (h : Hp W w (rowA t k g cap xs :: l)) : RowI w t k g cap xs := by obtain ⟨F, h1, _⟩ := h.open1; exact h1.1
theorem Hp.row_ge (h : Hp W w (rowA t k g cap xs :: l)) : W.heap.size ≤ g ∧ g < w.heap.size := by obtain ⟨F, ⟨_, rfl⟩, h2, _⟩ := h.open1; exact h2 g rfl
theorem Hp.sl (h : Hp W w (slA t k v xs :: l)) : Sl w t k v xs := by obtain ⟨F, h1, _⟩ := h.open1; exact h1.1
theorem Hp.blk (h : Hp W w (blkA g t cs :: l)) : Blk w g t cs := by obtain ⟨F, h1, _⟩ := h.open1; exact h1.1
theorem Hp.blk_ge (h : Hp W w (blkA g t cs :: l)) : W.heap.size ≤ g ∧ g < w.heap.size := by obtain ⟨F, ⟨_, rfl⟩, h2, _⟩ := h.open1; exact h2 g rfl
theorem Hp.row_sl (h : Hp W w (rowA t k g cap xs :: l)) {n : Nat} (hn : xs.length = n) : Hp W w (slA t k (.slice (some ⟨g, 0, none⟩) n cap) xs :: l) :=
  h.say fun F ⟨h1, h2⟩ => ⟨by subst hn; exact Sl.row h1, by subst h2; funext i; exact propext ⟨fun e => by subst e; rfl, fun e => by injection e with e; exact e.symm⟩⟩
theorem Hp.set (h : Hp W w (rowA t k g cap xs :: l)) (i : Nat) (x : Int) : Hp W (w.setCell ⟨g, i, none⟩ (.int k x)) (rowA t k g cap (xs.set i x) :: l) :=
  h.turn fun F ⟨h1, h2⟩ => ⟨(Only.refl F w).set (p := ⟨g, i, none⟩) (.inl (by subst h2; rfl)) _, F, ⟨h1.set i x, h2⟩, fun _ h => .inl h⟩
theorem Hp.bset (h : Hp W w (blkA g t cs :: l)) (i : Nat) (u : Value) : Hp W (w.setCell ⟨g, i, none⟩ u) (blkA g t (cs.setIfInBounds i u) :: l) :=
  h.turn fun F ⟨h1, h2⟩ => ⟨(Only.refl F w).set (p := ⟨g, i, none⟩) (.inl (by subst h2; rfl)) _, F, ⟨h1.set i u, h2⟩, fun _ h => .inl h⟩
theorem Hp.new_row (h : Hp W w l) (t : TypeId) (k : IntKind) (n : Nat) (x : Int) (hn : n ≤ maxLen) : Hp W (w.alloc (.cells (madeCells #[.int k x] n) t)) (rowA t k w.heap.size n (List.replicate n x) :: l) :=
  h.new ((Below.refl _ _).alloc (Nat.le_refl _) _) (A' := rowA t k w.heap.size n (List.replicate n x)) ⟨RowI.new w t k n x hn, rfl⟩ (fun i e => by subst e; exact Nat.le_refl _)
theorem Hp.new_blk (h : Hp W w l) (t : TypeId) (cs : Array Value) : Hp W (w.alloc (.cells cs t)) (blkA w.heap.size t cs :: l) :=
  h.new ((Below.refl _ _).alloc (Nat.le_refl _) _) (A' := blkA w.heap.size t cs) ⟨Blk.new w t cs, rfl⟩ (fun i e => by subst e; exact Nat.le_refl _)
/-- A row that a callee made. -/
theorem Hp.add_row (h : Hp W w l) (b : Below w.heap.size w w') (r : RowI w' t k g cap xs) (hg : w.heap.size ≤ g) : Hp W w' (rowA t k g cap xs :: l) :=
  h.new b (A' := rowA t k g cap xs) ⟨r, rfl⟩ (fun i e => by subst e; exact hg)
theorem Hp.add_sl (h : Hp W w l) (b : Below w.heap.size w w') (r : Sl w' t k v xs) (hg : ∀ g, v.ownBlock = some g → w.heap.size ≤ g) : Hp W w' (slA t k v xs :: l) :=
  h.new b (A' := slA t k v xs) ⟨r, rfl⟩ (fun i e => hg i e)
theorem Hp.push (h : Hp W w (slA t k v xs :: l)) {g cap H : Nat} {ys : List Int} (p : Pushed w w' t k v g cap ys H) (hH : w.heap.size ≤ H) : Hp W w' (rowA t k g cap ys :: l) :=
  h.turn fun F ⟨h1, h2⟩ => ⟨by subst h2; exact p.only, _, ⟨p.row, rfl⟩, fun i e => by
    subst e
    subst h2
    rcases p.at_ with h | h
    · exact .inl h
    · right; omega⟩
end
/-- The text of bytes. -/
theorem Src.str {P : Program} {w : World} {src dst e : TypeId} (hs : P.underlying src = some (.slice e)) (he : P.underlying e = some (.int .u8)) (hd : P.underlying dst = some .string) {u : Value} {xs : List Int} (h : Src w .u8 u xs) :
    (convert src dst u).run P w = .ok (.string (strOfNums xs)) w := by
  obtain ⟨A, c, rfl, h⟩ := h
  rw [run_convert_bytes_string w src dst e A xs.length c hs he hd]
  cases A with
  | none =>
    have h0 : xs = [] := by
      rcases Nat.eq_zero_or_pos xs.length with h0 | h0
      · exact List.eq_nil_of_length_eq_zero h0
      · obtain ⟨ad, e, _⟩ := h h0; cases e
    subst h0
    simp [Conv.bytesToString, strOfNums]
    rfl
  | some a =>
    have hl : (loadCells a xs.length).run P w = .ok (xs.map (Value.int .u8)).toArray w := by
      have := run_loadCells_list (P := P) w a (xs.map (Value.int .u8)) (fun j v hj => by
        have hjl : j < xs.length := by
          rcases Nat.lt_or_ge j xs.length with h | h
          · exact h
          · simp [List.getElem?_eq_none (show (xs.map (Value.int .u8)).length ≤ j by simpa using h)] at hj
        obtain ⟨ad, e, hc⟩ := h (by omega)
        injection e with e
        subst e
        rw [hc j hjl]
        simp [List.getElem?_eq_getElem hjl] at hj
        rw [← hj])
      simpa using this
    rw [run_bytesToString w a xs.length c xs hl, foldl_push_bytes]
    simp [strOfNums, ByteArray.empty, ByteArray.emptyWithCapacity]
    rfl
end Go.Proofs.Ytlbjoflmfboeeaa

/-
  A region that draws its order, whose first operations read (or call what reads and draws), and whose last ones stand in one forced order: one walk in the text's order serves every order. A plain theorem over the library's; no condition.
-/
set_option linter.unusedVariables false
namespace Go.Proofs.Ytlbjoflmfboeeaa
open Go

section
variable {P : Program} {ops : Array Oper} {md : Region.Mode} {C : World → Prop}
/-- Whatever order is picked, the first n operations come up, quietly, ahead of all others; then L. -/
def QHead (P : Program) (md : Region.Mode) (ops : Array Oper) (C : World → Prop) (n : Nat) (L : Array Bool → Act → Prop) : Nat → Array Bool → Act → Prop
  | 0, ls, a => L ls a
  | f + 1, ls, a => Region.ready md ops ls ≠ [] ∧ ∀ i ∈ Region.ready md ops ls, i < n ∧ qOp P ops C i (QHead P md ops C n L f (ls.setIfInBounds i true)) a
theorem QHead.any {n g : Nat} {L : Array Bool → Act → Prop} {Q : Exit → Act → World → Prop} (hL : ∀ ls a w, C w → L ls a → wpAny P md ops Q g ls a w) :
    ∀ (f : Nat) (ls : Array Bool) (a : Act) (w : World), C w → QHead P md ops C n L f ls a → wpAny P md ops Q (f + g) ls a w := by
  intro f
  induction f with
  | zero => intro ls a w hw h; rw [Nat.zero_add]; exact hL _ _ _ hw h
  | succ f ih =>
    intro ls a w hw h
    rw [show f + 1 + g = (f + g) + 1 from by omega]
    exact ⟨fun e => absurd e h.1, fun i hi => wpOp_of_qOp hw (fun a' w' hw' h' => ih _ a' w' hw' h') (h.2 i hi).2⟩
/-- The one of them that comes first in the text may be taken first. -/
theorem QHead.first {n i : Nat} {oi : Oper} {v : Value} {L : Array Bool → Act → Prop} (hi : ops[i]? = some oi) (hsel : ∀ (j : Nat) (o : Oper) cs b, ops[j]? = some o → o.op ≠ .select cs b)
    (hs : Region.sinkB md ops n = true) (hc : Region.chainB md ops n = true) (hn : n < ops.size) (hin : i < n) (hL : ∀ ls a, L ls a → ∀ j ∈ Region.ready md ops ls, n ≤ j) :
    ∀ (f : Nat) (ls : Array Bool) (a : Act), HeadInv md ops n ls →
      (∀ j oj, ops[j]? = some oj → j ≠ i → ls.getD j true = false → (∀ e ∈ oj.after, Region.binds md e = true → e.on ≠ i) → oi.apart ops oj = true) →
      i ∈ Region.ready md ops ls → YieldsIn P ops C oi v a → QHead P md ops C n L f (ls.setIfInBounds i true) (a.put oi.dst v) → QHead P md ops C n L (f + 1) ls a := by
  intro f
  induction f with
  | zero =>
    intro ls a inv _ hr hy H
    have hun := (mem_ready.1 hr).1
    refine ⟨fun e => (by rw [e] at hr; cases hr), fun j hj => ?_⟩
    have hjn : j < n := Nat.lt_of_not_le fun hle => tail_waits hs hc hn inv _ i rfl hin hun j hle hj
    refine ⟨hjn, ?_⟩
    by_cases hji : j = i
    · subst hji; exact hy.qOp hi H
    · have := hL _ _ H j (ready_mono hj hji)
      omega
  | succ f ih =>
    intro ls a inv hfree hr hy H
    have hun := (mem_ready.1 hr).1
    refine ⟨fun e => (by rw [e] at hr; cases hr), fun j hj => ?_⟩
    have hjn : j < n := Nat.lt_of_not_le fun hle => tail_waits hs hc hn inv _ i rfl hin hun j hle hj
    refine ⟨hjn, ?_⟩
    by_cases hji : j = i
    · subst hji; exact hy.qOp hi H
    · have h1 := (H.2 j (ready_mono hj hji)).2
      obtain ⟨hjun, oj, hoj, hall⟩ := mem_ready.1 hj
      have hnot : ∀ e ∈ oj.after, Region.binds md e = true → e.on ≠ i := by
        intro e he hb heq
        have h2 := hall e he hb
        rw [heq, getD_both hun] at h2
        cases h2
      have h2 := qOp_put hoj (hfree j oj hoj hji hjun hnot) (fun cs b => hsel i oi cs b hi) (fun cs b => hsel j oj cs b hoj) hy h1
      have hfree' : ∀ k ok, ops[k]? = some ok → k ≠ i → (ls.setIfInBounds j true).getD k true = false → (∀ e ∈ ok.after, Region.binds md e = true → e.on ≠ i) → oi.apart ops ok = true := by
        intro k ok hk hki hkun hno
        refine hfree k ok hk hki ?_ hno
        by_cases hjk : j = k
        · subst hjk; exact hjun
        · rwa [getD_set_ne true hjk] at hkun
      refine qOp_mono (fun a' h3 => ih _ a' (inv.set hj hjn) hfree' (ready_mono hr (Ne.symm hji)) h3.1 ?_) h2
      rw [Array.setIfInBounds_comm _ _ hji]
      exact h3.2
theorem QHead.lex {n g : Nat} {Lq : Act → Prop} (hsel : Region.noSelect ops = true) (hs : Region.sinkB md ops n = true) (hc : Region.chainB md ops n = true) (hn : n < ops.size) :
    ∀ (l : List Oper) (k : Nat) (ls : Array Bool) (a : Act), (∀ j, j < l.length → l[j]? = ops[k + j]?) → k + l.length = n → HeadInv md ops n ls → Region.lexHead md ops g l.length k ls = true →
      wpQuiet P ops C Lq l a → QHead P md ops C n (fun ls' a' => Region.seqB md ops g n ls' = true ∧ Lq a') l.length ls a := by
  intro l
  induction l with
  | nil =>
    intro k ls a _ hk _ hB h
    obtain rfl : k = n := by simpa using hk
    exact ⟨by simpa [Region.lexHead] using hB, h⟩
  | cons o l ih =>
    intro k ls a hl hk inv hB h
    have h0 : ops[k]? = some o := by simpa using (hl 0 (by simp)).symm
    simp only [List.length_cons, Region.lexHead, Bool.and_eq_true] at hB
    have hkn : k < n := by simp only [List.length_cons] at hk; omega
    have hr : k ∈ Region.ready md ops ls := by simpa using hB.1.1
    have hst : qOp P ops C k (wpQuiet P ops C Lq l) a := by unfold qOp; simp only [h0]; exact h
    obtain ⟨v, hy, hK⟩ := yieldsIn_of_qOp h0 hst
    refine QHead.first h0 (Region.noSelect_spec hsel) hs hc hn hkn (fun ls' a' hL => seqB_ready hL.1) l.length ls a inv (Region.free_spec h0 hB.1.2) hr hy ?_
    refine ih (k + 1) _ _ (fun j hj => ?_) (by simp only [List.length_cons] at hk; omega) (inv.set hr hkn) hB.2 hK
    have := hl (j + 1) (by simp; omega)
    simpa [Nat.add_assoc, Nat.add_comm 1 j] using this
theorem region_quiet_tail {id : Nat} {Q : Exit → Act → World → Prop} {a : Act} {w : World} {l : List Oper} (n : Nat) (hm : P.follows .mixedOrders = true) (hB : Region.lexTailB .any l.toArray n = true)
    (h : wpQuiet P l.toArray (fun w' => ∃ n, w' = w.drewN n) (fun a' => ∀ w', (∃ n, w' = w.drewN n) → wpList P l.toArray Q (l.drop n) a' w') (l.take n) a) : (Code.region id l.toArray true).wp P Q a w := by
  simp only [Region.lexTailB, Bool.and_eq_true, decide_eq_true_eq] at hB
  obtain ⟨⟨⟨⟨hsel, hn⟩, hs⟩, hc⟩, hlex⟩ := hB
  have hn' : n < l.length := by simpa using hn
  have htl : (l.take n).length = n := by simp; omega
  have hdl : (l.drop n).length = l.toArray.size - n := by simp
  have inv0 : HeadInv .any l.toArray n (Array.replicate l.toArray.size false) :=
    ⟨by simp, fun j oj _ hl => (by rw [getD_replicate_false] at hl; cases hl), fun t _ ht => getD_in (by simpa using ht) (getD_replicate_false _ _)⟩
  refine wp_region_any hm ?_
  have hh := QHead.lex (P := P) (C := fun w' => ∃ n, w' = w.drewN n) (g := (l.drop n).length) hsel hs hc hn (l.take n) 0 (Array.replicate l.toArray.size false) a
    (fun j hj => by rw [htl] at hj; simp [hj]) (by simpa using htl) inv0 (by rw [htl, hdl]; exact hlex) h
  have := QHead.any (Q := Q) (fun ls a w' hw' hL => wpAny_of_seq (l.drop n) n ls a w' (fun j => by simp) hL.1 (hL.2 w' hw')) (l.take n).length _ a _ ⟨1, rfl⟩ hh
  rw [htl, hdl] at this
  have hsz : n + (l.toArray.size - n) = l.toArray.size := by simp; omega
  rw [hsz] at this
  exact this
end
end Go.Proofs.Ytlbjoflmfboeeaa

/-
  The program's model, and the document's: what they hold, and the walks of their functions; no condition but those told.
-/
set_option linter.unusedVariables false
set_option linter.unusedSimpArgs false
namespace Go.Proofs.Ytlbjoflmfboeeaa.Mdl
open Go.RowKit Go.Proofs.Ytlbjoflmfboeeaa Go.Proofs.YtlbjoflmfboeeaaW.PrintWords

/-- How often all come. -/
def lsum (L : List Int) : Int := L.sum
theorem lsum_append (a b : List Int) : lsum (a ++ b) = lsum a + lsum b := by unfold lsum; exact List.sum_append
theorem lsum_nil : lsum [] = 0 := rfl
theorem lsum_one (x : Int) : lsum [x] = x := by simp [lsum]
theorem lsum_take_succ (L : List Int) (k : Nat) (h : k < L.length) : lsum (L.take (k + 1)) = lsum (L.take k) + L[k] := by
  rw [List.take_succ_eq_append_getElem h, lsum_append, lsum_one]
theorem lsum_nonneg (L : List Int) (h : ∀ x ∈ L, 0 ≤ x) : 0 ≤ lsum L := by
  induction L with
  | nil => exact Int.le_refl 0
  | cons a l ih =>
    have h1 := ih fun x hx => h x (List.mem_cons_of_mem _ hx)
    have h2 := h a (List.mem_cons_self ..)
    have : lsum (a :: l) = a + lsum l := by simp [lsum]
    omega
theorem lsum_take_le (L : List Int) (h : ∀ x ∈ L, 0 ≤ x) (k : Nat) : 0 ≤ lsum (L.take k) ∧ lsum (L.take k) ≤ lsum L := by
  have h1 := lsum_nonneg (L.take k) fun x hx => h x (List.mem_of_mem_take hx)
  have h2 := lsum_nonneg (L.drop k) fun x hx => h x (List.mem_of_mem_drop hx)
  have h3 := lsum_append (L.take k) (L.drop k)
  rw [List.take_append_drop] at h3
  omega
/-- A list of how often symbols come, as it may be. -/
structure Good (L : List Int) : Prop where
  len1 : 1 ≤ L.length
  len2 : L.length ≤ 64
  pos : ∀ x ∈ L, 1 ≤ x
  all : lsum L ≤ 8192
theorem Good.at {L : List Int} (h : Good L) {k : Nat} (hk : k < L.length) : 1 ≤ L[k] ∧ lsum (L.take k) + L[k] ≤ lsum L ∧ 0 ≤ lsum (L.take k) := by
  have h0 : ∀ x ∈ L, 0 ≤ x := fun x hx => by have := h.pos x hx; omega
  have h1 := h.pos _ (List.getElem_mem hk)
  have h2 := lsum_take_le L h0 (k + 1)
  have h3 := lsum_take_le L h0 k
  rw [lsum_take_succ L k hk] at h2
  omega
theorem Good.nonneg {L : List Int} (h : Good L) : ∀ x ∈ L, 0 ≤ x := fun x hx => by have := h.pos x hx; omega
theorem Good.sum1 {L : List Int} (h : Good L) : 1 ≤ lsum L := by
  have := h.at (k := 0) h.len1
  omega
/-- A symbol came. -/
def bump (L : List Int) (s : Nat) : List Int := L.set s (L.getD s 0 + 32)
def halve (L : List Int) : List Int := L.map (fun x => (x + 1) / 2)
def learn (L : List Int) (s : Nat) : List Int := if lsum (bump L s) > 8192 then halve (bump L s) else bump L s
/-- What a model becomes. -/
def next (fixed : Bool) (L : List Int) (s : Nat) : List Int := if fixed = true then L else learn L s
theorem bump_len (L : List Int) (s : Nat) : (bump L s).length = L.length := by simp [bump]
theorem learn_len (L : List Int) (s : Nat) : (learn L s).length = L.length := by unfold learn; split <;> simp [halve, bump_len]
theorem next_len (f : Bool) (L : List Int) (s : Nat) : (next f L s).length = L.length := by unfold next; split; rfl; exact learn_len L s
theorem lsum_set (L : List Int) (s : Nat) (h : s < L.length) (v : Int) : lsum (L.set s v) = lsum L - L[s] + v := by
  induction L generalizing s with
  | nil => simp at h
  | cons a l ih =>
    cases s with
    | zero => simp [lsum]; omega
    | succ s =>
      have := ih s (by simpa using h)
      simp [lsum] at this ⊢
      omega
theorem lsum_bump (L : List Int) (s : Nat) (h : s < L.length) : lsum (bump L s) = lsum L + 32 := by
  unfold bump
  rw [lsum_set L s h, List.getD_eq_getElem?_getD, List.getElem?_eq_getElem h]
  simp; omega
theorem bump_pos (L : List Int) (s : Nat) (h : ∀ x ∈ L, 1 ≤ x) (hs : s < L.length) : ∀ x ∈ bump L s, 1 ≤ x := by
  intro x hx
  unfold bump at hx
  rcases List.mem_or_eq_of_mem_set hx with h1 | h1
  · exact h x h1
  · have := h _ (List.getElem_mem hs)
    rw [List.getD_eq_getElem?_getD, List.getElem?_eq_getElem hs] at h1
    simp at h1; omega
theorem halve_pos (L : List Int) (h : ∀ x ∈ L, 1 ≤ x) : ∀ x ∈ halve L, 1 ≤ x := by
  intro x hx
  obtain ⟨y, hy, rfl⟩ := List.mem_map.1 hx
  have := h y hy
  omega
theorem halve_sum (L : List Int) (h : ∀ x ∈ L, 1 ≤ x) : lsum (halve L) ≥ 0 ∧ 2 * lsum (halve L) ≤ lsum L + L.length := by
  induction L with
  | nil => simp [halve, lsum]
  | cons a l ih =>
    have h1 := ih fun x hx => h x (List.mem_cons_of_mem _ hx)
    have h2 := h a (List.mem_cons_self ..)
    have e1 : lsum (a :: l) = a + lsum l := by simp [lsum]
    have e2 : lsum (halve (a :: l)) = (a + 1) / 2 + lsum (halve l) := by simp [lsum, halve]
    rw [e1, e2]
    simp only [List.length_cons]
    omega
theorem Good.next {L : List Int} (h : Good L) (f : Bool) (s : Nat) (hs : s < L.length) : Good (next f L s) := by
  unfold Mdl.next
  split
  · exact h
  · refine ⟨by rw [learn_len]; exact h.len1, by rw [learn_len]; exact h.len2, ?_, ?_⟩
    · unfold learn
      split
      · exact halve_pos _ (bump_pos L s h.pos hs)
      · exact bump_pos L s h.pos hs
    · unfold learn
      have h1 := lsum_bump L s hs
      split
      · have := halve_sum _ (bump_pos L s h.pos hs)
        have h2 := h.len2
        have h3 := h.all
        rw [bump_len] at this
        omega
      · omega
/-- The first k of A, then B's. -/
def mix (A B : List Int) (k : Nat) : List Int := A.take k ++ B.drop k
theorem mix_len (A B : List Int) (k : Nat) (h : A.length = B.length) (hk : k ≤ A.length) : (mix A B k).length = B.length := by
  unfold mix; rw [List.length_append, List.length_take, List.length_drop]; omega
theorem mix_zero (A B : List Int) : mix A B 0 = B := by simp [mix]
theorem mix_all (A B : List Int) (h : A.length = B.length) : mix A B B.length = A := by
  unfold mix; rw [List.drop_length, List.append_nil, ← h, List.take_length]
theorem mix_get (A B : List Int) (k : Nat) (h : A.length = B.length) (hk : k < B.length) {h' : k < (mix A B k).length} : (mix A B k)[k] = B[k] := by
  have e : (mix A B k)[k]? = B[k]? := by
    unfold mix
    rw [List.getElem?_append_right (by rw [List.length_take]; omega), List.length_take, List.getElem?_drop, Nat.min_eq_left (by omega)]
    congr 1; omega
  rw [List.getElem?_eq_getElem h', List.getElem?_eq_getElem hk] at e
  exact Option.some.inj e
theorem mix_set (A B : List Int) (k : Nat) (h : A.length = B.length) (hk : k < A.length) : (mix A B k).set k A[k] = mix A B (k + 1) := by
  unfold mix
  rw [List.set_append_right _ _ (by rw [List.length_take]; omega), List.length_take, Nat.min_eq_left (by omega), Nat.sub_self, List.drop_eq_getElem_cons (show k < B.length by omega), List.set_cons_zero,
    List.take_succ_eq_append_getElem hk, List.append_assoc]
  rfl
theorem halve_len (L : List Int) : (halve L).length = L.length := by simp [halve]
theorem halve_get (L : List Int) (k : Nat) (h : k < L.length) {h' : k < (halve L).length} : (halve L)[k] = (L[k] + 1) / 2 := by simp [halve]
/-- The symbol in whose part a number is. -/
def find : List Int → Int → Nat
  | [], _ => 0
  | [_], _ => 0
  | x :: y :: l, at_ => if at_ < x then 0 else find (y :: l) (at_ - x) + 1
theorem find_lt (L : List Int) (a : Int) (h : 1 ≤ L.length) : find L a < L.length := by
  induction L generalizing a with
  | nil => simp at h
  | cons x l ih =>
    cases l with
    | nil => simp [find]
    | cons y l =>
      unfold find
      split
      · simp
      · have := ih (a - x) (by simp)
        simp at this ⊢; omega

/-- The program's model: block m holds it, block h how often. -/
structure Is (w : World) (m h cap : Nat) (L : List Int) (fixed : Bool) : Prop where
  blk : Blk w m 107 #[.slice (some ⟨h, 0, none⟩) L.length cap, .int .u32 (lsum L), .bool fixed]
  row : RowI w 22 .u32 h cap L
  ne : m ≠ h
/-- The document's. -/
structure IsR (w : World) (m h cap : Nat) (L : List Int) (fixed : Bool) : Prop where
  blk : Blk w m 116 #[.slice (some ⟨h, 0, none⟩) L.length cap, .bool fixed]
  row : RowI w 3 .i64 h cap L
  ne : m ≠ h
section
variable {w w' : World} {m h cap : Nat} {L : List Int} {f : Bool}
theorem Is.only {S : Nat → Prop} (a : Is w m h cap L f) (o : Only S w w') (h1 : ¬ S m) (h2 : ¬ S h) : Is w' m h cap L f :=
  ⟨a.blk.of_same (o.block m a.blk.lt h1), a.row.of_same (o.block h a.row.lt h2), a.ne⟩
theorem IsR.only {S : Nat → Prop} (a : IsR w m h cap L f) (o : Only S w w') (h1 : ¬ S m) (h2 : ¬ S h) : IsR w' m h cap L f :=
  ⟨a.blk.of_same (o.block m a.blk.lt h1), a.row.of_same (o.block h a.row.lt h2), a.ne⟩
theorem Is.drewN (a : Is w m h cap L f) (n : Nat) : Is (w.drewN n) m h cap L f := ⟨a.blk.drewN n, a.row.drewN n, a.ne⟩
theorem IsR.drewN (a : IsR w m h cap L f) (n : Nat) : IsR (w.drewN n) m h cap L f := ⟨a.blk.drewN n, a.row.drewN n, a.ne⟩
end
end Go.Proofs.Ytlbjoflmfboeeaa.Mdl

/-
  The walks of the program's model: New, Part, Find, Learn; no condition but those told.
-/
set_option linter.unusedVariables false
set_option linter.unusedSimpArgs false
namespace Go.Proofs.Ytlbjoflmfboeeaa.Mdl
open Go.RowKit Go.Proofs.Ytlbjoflmfboeeaa Go.Proofs.YtlbjoflmfboeeaaW.PrintWords

theorem lsum_rep (n : Nat) : lsum (List.replicate n 1) = n := by
  induction n with
  | zero => rfl
  | succ n ih => rw [List.replicate_succ]; simp [lsum]; omega
theorem good_new (n : Nat) (h1 : 1 ≤ n) (h2 : n ≤ 64) : Good (List.replicate n 1) :=
  ⟨by simpa using h1, by simpa using h2, fun x hx => by rw [List.eq_of_mem_replicate hx]; omega, by rw [lsum_rep]; omega⟩
theorem fillTo_ones (n : Nat) : fillTo (fun _ => 1) n n = List.replicate n 1 := by
  rw [fillTo_all]
  apply List.ext_getElem <;> simp
set_option maxHeartbeats 1000000 in
theorem New_yes (n : Nat) (h1 : 1 ≤ n) (h2 : n ≤ 64) (w : World) : Calls Try.prog 16 #[.int .i64 n] w fun e w' => ∃ m h, e = .returned (.tuple #[.pointer (some ⟨m, 0, none⟩), .int .i64 0]) ∧ w.heap.size ≤ m ∧ w.heap.size ≤ h ∧ Is w' m h n (List.replicate n 1) false ∧ Below w.heap.size w w' := by
  have m1 : ∀ w : World, (Instr.makeSlice 45 (.int .i64 n) (.int .i64 n)).run Try.prog w = .ok (.slice (some ⟨w.heap.size, 0, none⟩) n n) (w.alloc (.cells (madeCells #[.int .u32 0] n) 22)) := fun w => run_make_row' 45 22 (.int .u32 0) 4 Try.underlying45 (by kernel_rfl) rfl .i64 .i64 n (by omega) (by omega) w
  go_enter Try.func16, Try.ntmps16
  go_wp2
  have hsz : w.heap.size < w.heap.size + 1 := Nat.lt_succ_self _
  go_loopw [23] (fun v wr => ∃ k : Nat, k ≤ n ∧ v = .int .i64 (k : Int) ∧ Hid (Blk wr (w.heap.size + 1) 107 #[.slice (some ⟨w.heap.size, 0, none⟩) n n, .int .u32 (n : Int), .bool false]) ∧ Hid (RowI wr 22 .u32 w.heap.size n (fillTo (fun _ => 1) n k)) ∧ Hid (Below w.heap.size w wr)) (fun v _ => n - (intOf v).toNat)
  case atStart => exact ⟨0, by omega, rfl, Blk.new_at _ _ (by simp), by rw [fillTo_zero]; exact (RowI.new w _ _ n 0 (by unfold maxLen; omega)).alloc _, (((Below.refl _ _).alloc (Nat.le_refl _) _).alloc (by simp) _ : Below _ _ _)⟩
  case round =>
    obtain ⟨k, hk, rfl, HM, HR, HB⟩ := hrel
    have d0 := HM.out.cell (i := 0) rfl
    by_cases hlt : k < n
    · have d1 := HR.out.cell (i := k) (by rw [fillTo_len]; exact hlt)
      rw [fillTo_at] at d1
      have f1 := HR.out.free k
      go_wp2
      refine ⟨⟨k + 1, by omega, by push_cast; rfl, HM.out.other (a := ⟨w.heap.size, k, none⟩) (by simp) _, ?_, HB.out.setCell (p := ⟨w.heap.size, k, none⟩) (by simp) _⟩, by simp [intOf]; omega⟩
      rw [← fillTo_set]
      exact HR.out.set k 1
    · obtain rfl : k = n := by omega
      go_wp2
      go_ret2
      rw [fillTo_ones] at HR
      exact ⟨w.heap.size + 1, w.heap.size, rfl, by omega, by omega, ⟨by rw [lsum_rep, List.length_replicate]; exact HM.out, HR.out, by omega⟩, HB.out⟩
theorem New_no (n : Int) (h : n < 1 ∨ 64 < n) (w : World) : Calls Try.prog 16 #[.int .i64 n] w fun e w' => e = .returned (.tuple #[.pointer none, .int .i64 1]) ∧ w' = w := by
  rcases h with h | h
  · go_enter Try.func16, Try.ntmps16
    go_wp2
    go_ret2
    exact ⟨rfl, rfl⟩
  · have h' : ¬ n < 1 := by omega
    go_enter Try.func16, Try.ntmps16
    go_wp2
    go_ret2
    exact ⟨rfl, rfl⟩
/-- A part, as a value. -/
def part (lo ow al : Int) : Value := .agg #[.int .u32 lo, .int .u32 ow, .int .u32 al]
theorem Part_none (s : Value) (w : World) : Calls Try.prog 61 #[.pointer none, s] w fun e w' => e = .returned (.tuple #[part 0 0 0, .int .i64 1]) ∧ Below w.heap.size w w' := by
  go_enter Try.func61, Try.ntmps61
  go_wp2
  refine bodyPost_ret (v := .tuple #[part 0 0 0, .int .i64 1]) (by simp [results, Try.results61, go_sem]; rfl) rfl ⟨rfl, ((Below.refl _ _).alloc (Nat.le_refl _) _ : Below _ _ _)⟩
set_option maxHeartbeats 1000000 in
set_option maxRecDepth 100000 in
theorem Part_some {w : World} {m h cap : Nat} {L : List Int} {f : Bool} (a : Is w m h cap L f) (good : Good L) (s : Nat) (hs : s < L.length) :
    Calls Try.prog 61 #[.pointer (some ⟨m, 0, none⟩), .int .i64 s] w fun e w' => e = .returned (.tuple #[part (lsum (L.take s)) (L.getD s 0) (lsum L), .int .i64 0]) ∧ Below w.heap.size w w' := by
  have d0 := a.blk.cell (i := 0) rfl
  have d1 := a.blk.cell (i := 1) rfl
  have d2 := a.row.cell hs
  have hl2 := good.len2
  have hm := a.blk.lt
  have hh := a.row.lt
  have hc := a.row.len.1
  have A := Lib.hid a
  have G := Lib.hid good
  obtain ⟨n, hn⟩ : ∃ n, L.length = n := ⟨_, rfl⟩
  have HN := Lib.hid hn
  rw [hn] at d0 hs hl2 hc
  have i0 : (s : Int) < n := by omega
  obtain ⟨x, hx⟩ : ∃ x, L[s]'(by omega) = x := ⟨_, rfl⟩
  rw [hx] at d2
  have HX := Lib.hid hx
  clear hx hn
  go_enter Try.func61, Try.ntmps61
  go_wp2
  go_region
  go_wp2
  clear d0 d1 d2
  go_loopw [44] (fun v wr => ∃ k : Nat, k ≤ s ∧ v = .int .i64 (k : Int) ∧ Hid (Blk wr w.heap.size 31 #[.int .u32 0, .int .u32 0, .int .u32 0]) ∧ Hid (Blk wr (w.heap.size + 1) 31 #[.int .u32 (lsum (L.take k)), .int .u32 x, .int .u32 (lsum L)]) ∧ Hid (Below w.heap.size w wr)) (fun v _ => s - (intOf v).toNat)
  case atStart => exact ⟨0, by omega, rfl, ((Blk.new w _ _).alloc _).drew, (Blk.new_at _ _ (by simp)).drew, ((((Below.refl _ _).alloc (Nat.le_refl _) _).alloc (by simp) _).drew : Below _ _ _)⟩
  case round =>
    obtain ⟨k, hk, rfl, H0, HP, HB⟩ := hrel
    have p0 := HP.out.cell (i := 0) rfl
    have p1 := HP.out.cell (i := 1) rfl
    have p2 := HP.out.cell (i := 2) rfl
    have pf := HP.out.free 0
    by_cases hlt : k < s
    · have d2 := (A.out.row.below HB.out hh).cell (i := k) (by rw [HN.out]; omega)
      have hk1 := G.out.at (k := k) (by rw [HN.out]; omega)
      have hall := G.out.all
      have HS := Lib.hid (lsum_take_succ L k (by rw [HN.out]; omega))
      generalize L[k]'(by rw [HN.out]; omega) = y at *
      go_wp2
      refine ⟨⟨k + 1, by omega, by push_cast; rfl, H0.out.other (a := ⟨w.heap.size + 1, 0, none⟩) (by simp) _, ?_, HB.out.setCell (p := ⟨w.heap.size + 1, 0, none⟩) (by simp) _⟩, by simp [intOf]; omega⟩
      rw [HS.out]
      exact HP.out.set 0 _
    · obtain rfl : k = s := by omega
      have q0 := H0.out.cell (i := 0) rfl
      have q1 := H0.out.cell (i := 1) rfl
      have q2 := H0.out.cell (i := 2) rfl
      have e0 := H0.out.free 0
      have e1 := H0.out.free 1
      have e2 := H0.out.free 2
      go_wp2
      have hb2 : Below w.heap.size w (((wr.setCell ⟨w.heap.size, 0, none⟩ (.int .u32 (lsum (L.take k)))).setCell ⟨w.heap.size, 1, none⟩ (.int .u32 x)).setCell ⟨w.heap.size, 2, none⟩ (.int .u32 (lsum L))) := ((HB.out.setCell (p := ⟨w.heap.size, 0, none⟩) (Nat.le_refl _) _).setCell (p := ⟨w.heap.size, 1, none⟩) (Nat.le_refl _) _).setCell (p := ⟨w.heap.size, 2, none⟩) (Nat.le_refl _) _
      have hx : L.getD k 0 = x := by rw [List.getD_eq_getElem?_getD, List.getElem?_eq_getElem (by rw [HN.out]; exact hs), HX.out]; rfl
      rw [hx]
      exact bodyPost_ret (v := .tuple #[part (lsum (L.take k)) x (lsum L), .int .i64 0]) (by simp [results, Try.results61, go_sem, part, q0, q1, q2, e0, e1, e2]) rfl ⟨rfl, hb2⟩
theorem Part_bad {w : World} {m h cap : Nat} {L : List Int} {f : Bool} (a : Is w m h cap L f) (s : Int) (hs : s < 0 ∨ (L.length : Int) ≤ s) :
    Calls Try.prog 61 #[.pointer (some ⟨m, 0, none⟩), .int .i64 s] w fun e w' => e = .returned (.tuple #[part 0 0 0, .int .i64 1]) ∧ Below w.heap.size w w' := by
  have d0 := a.blk.cell (i := 0) rfl
  have hm := a.blk.lt
  generalize L.length = n at *
  rcases hs with hs | hs
  · go_enter Try.func61, Try.ntmps61
    go_wp2
    exact bodyPost_ret (v := .tuple #[part 0 0 0, .int .i64 1]) (by simp [results, Try.results61, go_sem]; rfl) rfl ⟨rfl, ((Below.refl _ _).alloc (Nat.le_refl _) _ : Below _ _ _)⟩
  · have h0 : ¬ s < 0 := by omega
    go_enter Try.func61, Try.ntmps61
    go_wp2
    exact bodyPost_ret (v := .tuple #[part 0 0 0, .int .i64 1]) (by simp [results, Try.results61, go_sem]; rfl) rfl ⟨rfl, ((Below.refl _ _).alloc (Nat.le_refl _) _ : Below _ _ _)⟩
theorem find_cons (x : Int) (l : List Int) (a : Int) : find (x :: l) a = if a < x ∨ l = [] then 0 else find l (a - x) + 1 := by
  cases l with
  | nil => simp [find]
  | cons y l => by_cases h : a < x <;> simp [find, h]
/-- What is found from the k-th on. -/
theorem find_drop (L : List Int) (k : Nat) (hk : k < L.length) (a : Int) : find (L.drop k) a = if a < L[k] ∨ k + 1 = L.length then 0 else find (L.drop (k + 1)) (a - L[k]) + 1 := by
  rw [List.drop_eq_getElem_cons hk, find_cons]
  have : (L.drop (k + 1) = []) ↔ (k + 1 = L.length) := by rw [List.drop_eq_nil_iff]; omega
  simp only [this]
set_option maxHeartbeats 1000000 in
theorem Find_some {w : World} {m h cap : Nat} {L : List Int} {f : Bool} (a : Is w m h cap L f) (good : Good L) (x : Int) (h0 : 0 ≤ x) (h1 : x < 4294967296) :
    Calls Try.prog 69 #[.pointer (some ⟨m, 0, none⟩), .int .u32 x] w fun e w' => e = .returned (.int .i64 (find L x)) ∧ w' = w := by
  have d0 := a.blk.cell (i := 0) rfl
  have hl2 := good.len2
  have hl1 := good.len1
  have A := Lib.hid a
  have G := Lib.hid good
  obtain ⟨n, hn⟩ : ∃ n, L.length = n := ⟨_, rfl⟩
  have HN := Lib.hid hn
  rw [hn] at d0 hl1 hl2
  clear hn a good
  go_enter Try.func69, Try.ntmps69
  go_wp2
  go_loop [1, 14] (fun v i => ∃ (k : Nat) (y : Int), k ≤ n ∧ i = .int .i64 (k : Int) ∧ v = .int .u32 y ∧ 0 ≤ y ∧ y < 4294967296 ∧ (k < n → Hid (find L x = find (L.drop k) y + k)) ∧ (k = n → Hid (find L x = n - 1))) (fun _ i => n - (intOf i).toNat)
  case atStart => exact ⟨0, x, by omega, rfl, rfl, h0, h1, fun _ => by show _ = _; rw [List.drop_zero]; rfl, fun h => by omega⟩
  case round =>
    obtain ⟨k, y, hk, rfl, rfl, hy0, hy1, hf, hl⟩ := hrel
    by_cases hlt : k < n
    · have d2 := A.out.row.cell (i := k) (by rw [HN.out]; omega)
      have hp := (G.out.at (k := k) (by rw [HN.out]; omega)).1
      have hF := hf hlt
      have HD := Lib.hid (find_drop L k (by rw [HN.out]; omega) y)
      clear hf hl
      generalize L[k]'(by rw [HN.out]; omega) = z at *
      by_cases hc : y < z
      · have HE : Hid (find L x = k) := by
          show _ = _
          rw [hF.out, HD.out, if_pos (.inl hc)]; omega
        go_wp2
        go_ret
        rw [HE.out]
        exact ⟨rfl, rfl⟩
      · go_wp2
        go_round
        case rel =>
          refine ⟨k + 1, y - z, by omega, by push_cast; rfl, rfl, by omega, by omega, fun h2 => ?_, fun h2 => ?_⟩
          · show _ = _
            rw [hF.out, HD.out, if_neg (by rw [HN.out]; omega)]; omega
          · show _ = _
            rw [hF.out, HD.out, if_pos (.inr (by rw [HN.out]; omega))]; omega
        case measure => simp [intOf]; omega
    · obtain rfl : k = n := by omega
      have hF := hl rfl
      clear hf hl
      go_wp2
      go_ret
      rw [hF.out]
      exact ⟨by rw [Int.natCast_sub hl1]; rfl, rfl⟩
theorem Find_none (x : Value) (w : World) : Calls Try.prog 69 #[.pointer none, x] w fun e w' => e = .returned (.int .i64 0) ∧ w' = w := by
  go_enter Try.func69, Try.ntmps69
  go_wp2
  go_ret
  exact ⟨rfl, rfl⟩
theorem Learn_none (s : Value) (w : World) : Calls Try.prog 62 #[.pointer none, s] w fun e w' => e = .returned (.int .i64 1) ∧ w' = w := by
  go_enter Try.func62, Try.ntmps62
  go_wp2
  go_ret
  exact ⟨rfl, rfl⟩
theorem Learn_bad {w : World} {m h cap : Nat} {L : List Int} {f : Bool} (a : Is w m h cap L f) (s : Int) (hs : s < 0 ∨ (L.length : Int) ≤ s) :
    Calls Try.prog 62 #[.pointer (some ⟨m, 0, none⟩), .int .i64 s] w fun e w' => e = .returned (.int .i64 1) ∧ w' = w := by
  have d0 := a.blk.cell (i := 0) rfl
  generalize L.length = n at *
  rcases hs with hs | hs
  · go_enter Try.func62, Try.ntmps62
    go_wp2
    go_ret
    exact ⟨rfl, rfl⟩
  · have h0 : ¬ s < 0 := by omega
    go_enter Try.func62, Try.ntmps62
    go_wp2
    go_ret
    exact ⟨rfl, rfl⟩
theorem Learn_fixed {w : World} {m h cap : Nat} {L : List Int} (a : Is w m h cap L true) (s : Nat) (hs : s < L.length) :
    Calls Try.prog 62 #[.pointer (some ⟨m, 0, none⟩), .int .i64 s] w fun e w' => e = .returned (.int .i64 0) ∧ w' = w := by
  have d0 := a.blk.cell (i := 0) rfl
  have d2 := a.blk.cell (i := 2) rfl
  generalize L.length = n at *
  go_enter Try.func62, Try.ntmps62
  go_wp2
  go_ret
  exact ⟨rfl, rfl⟩
set_option maxHeartbeats 2000000 in
set_option maxRecDepth 100000 in
theorem Learn_yes {w : World} {m h cap : Nat} {L : List Int} (a : Is w m h cap L false) (good : Good L) (s : Nat) (hs : s < L.length) :
    Calls Try.prog 62 #[.pointer (some ⟨m, 0, none⟩), .int .i64 s] w fun e w' => e = .returned (.int .i64 0) ∧ Is w' m h cap (learn L s) false ∧ Only (fun k => k = m ∨ k = h) w w' := by
  have d0 := a.blk.cell (i := 0) rfl
  have d1 := a.blk.cell (i := 1) rfl
  have d2 := a.blk.cell (i := 2) rfl
  have d3 := a.row.cell hs
  have f1 := a.blk.free 1
  have f3 := a.row.free s
  have hne := a.ne
  have hl2 := good.len2
  have hall := good.all
  have hb := good.at hs
  have HS := Lib.hid (lsum_bump L s hs)
  have HBL := Lib.hid (bump_len L s)
  have HBP := Lib.hid (bump_pos L s good.pos hs)
  have HW := Lib.hid a
  have HBset : Hid (bump L s = L.set s (L[s] + 32)) := Lib.hid (by unfold bump; rw [List.getD_eq_getElem?_getD, List.getElem?_eq_getElem hs]; rfl)
  have HLn : Hid (learn L s = if lsum (bump L s) > 8192 then halve (bump L s) else bump L s) := Lib.hid rfl
  obtain ⟨B, hB⟩ : ∃ B, bump L s = B := ⟨_, rfl⟩
  rw [hB] at HS HBL HBP HBset HLn
  obtain ⟨n, hn⟩ : ∃ n, L.length = n := ⟨_, rfl⟩
  rw [hn] at d0 hs hl2 HBL
  have i0 : (s : Int) < n := by omega
  have HN := Lib.hid hn
  generalize L[s]'(by omega) = x at *
  clear hB hn
  obtain ⟨al, hal⟩ : ∃ al, lsum L = al := ⟨_, rfl⟩
  have HA := Lib.hid hal
  rw [hal] at d1 hall hb HS
  clear hal a good
  have b1 : decide ((s : Int) < 0) = false := decide_eq_false (by omega)
  have b2 : decide (n ≤ s) = false := decide_eq_false (by omega)
  go_enter Try.func62, Try.ntmps62
  have hrow : RowI (w.setCell ⟨h, s, none⟩ (.int .u32 (x + 32))) 22 .u32 h cap B := by
    rw [HBset.out]; exact HW.out.row.set s (x + 32)
  have hblk : Blk (w.setCell ⟨h, s, none⟩ (.int .u32 (x + 32))) m 107 #[.slice (some ⟨h, 0, none⟩) n cap, .int .u32 al, .bool false] := by
    have := HW.out.blk.other (a := ⟨h, s, none⟩) hne (.int .u32 (x + 32))
    rwa [HN.out, HA.out] at this
  have honly : Only (fun k => k = m ∨ k = h) w (w.setCell ⟨h, s, none⟩ (.int .u32 (x + 32))) := (Only.refl _ w).set (p := ⟨h, s, none⟩) (.inl (.inr rfl)) _
  have HR := Lib.hid hrow
  have HK := Lib.hid hblk
  have HO := Lib.hid honly
  clear hrow hblk honly
  by_cases hc : 8192 < al + 32
  · go_wp2
    go_loopw [55] (fun v wr => ∃ k : Nat, k ≤ n ∧ v = .int .i64 (k : Int) ∧ Hid (Blk wr m 107 #[.slice (some ⟨h, 0, none⟩) n cap, .int .u32 (lsum ((halve B).take k)), .bool false]) ∧ Hid (RowI wr 22 .u32 h cap (mix (halve B) B k)) ∧ Hid (Only (fun k => k = m ∨ k = h) w wr)) (fun v _ => n - (intOf v).toNat)
    case atStart => exact ⟨0, by omega, rfl, (HK.out.set 1 (.int .u32 (al + 32))).set 1 (.int .u32 0), by rw [mix_zero]; exact (HR.out.other (a := ⟨m, 1, none⟩) (Ne.symm hne) _).other (a := ⟨m, 1, none⟩) (Ne.symm hne) _, (HO.out.set (p := ⟨m, 1, none⟩) (.inl (.inl rfl)) _).set (p := ⟨m, 1, none⟩) (.inl (.inl rfl)) _⟩
    case round =>
      clear HR HK HO d0 d1 d2 d3 f1 f3
      obtain ⟨k, hk, rfl, HK, HR, HO⟩ := hrel
      by_cases hlt : k < n
      · have hlen : (halve B).length = B.length := halve_len B
        have e0 := HK.out.cell (i := 0) rfl
        have e1 := HK.out.cell (i := 1) rfl
        have g1 := HK.out.free 1
        have e3 := HR.out.cell (i := k) (by rw [mix_len _ _ _ hlen (by rw [hlen, HBL.out]; omega), HBL.out]; omega)
        rw [mix_get _ _ _ hlen (by rw [HBL.out]; omega)] at e3
        have g3 := HR.out.free k
        have HSum := Lib.hid (lsum_take_succ (halve B) k (by rw [hlen, HBL.out]; omega))
        have HM := Lib.hid (mix_set (halve B) B k hlen (by rw [hlen, HBL.out]; omega))
        have hg := halve_get B k (by rw [HBL.out]; omega) (h' := by rw [hlen, HBL.out]; omega)
        rw [hg] at HSum HM
        have hy1 := HBP.out _ (List.getElem_mem (show k < B.length by rw [HBL.out]; omega))
        have hs0 := lsum_take_le (halve B) (fun x hx => by have := halve_pos B HBP.out x hx; omega) k
        have hs1 := halve_sum B HBP.out
        have hy2 := lsum_take_le B (fun x hx => by have := HBP.out x hx; omega) (k + 1)
        have hy3 := lsum_take_le B (fun x hx => by have := HBP.out x hx; omega) k
        rw [lsum_take_succ B k (by rw [HBL.out]; omega)] at hy2
        rw [HBL.out] at hs1
        rw [HS.out] at hs1 hy2 hy3
        clear hg
        generalize B[k]'(by rw [HBL.out]; omega) = y at *
        have HK2 := Lib.hid (HK.out.other (a := ⟨h, k, none⟩) hne (.int .u32 ((y + 1) / 2)))
        have HR2 := Lib.hid (HR.out.set k ((y + 1) / 2))
        have HO2 := Lib.hid (HO.out.set (p := ⟨h, k, none⟩) (.inl (.inr rfl)) (.int .u32 ((y + 1) / 2)))
        rw [HM.out] at HR2
        go_wp2
        clear e0 e1 e3 g1 g3 HK HR HO
        generalize (wr.setCell ⟨h, k, none⟩ (.int .u32 ((y + 1) / 2))) = wm at *
        have e0 := HK2.out.cell (i := 0) rfl
        have e1 := HK2.out.cell (i := 1) rfl
        have g1 := HK2.out.free 1
        have e3 : wm.cell? ⟨h, k, none⟩ = some (.int .u32 ((y + 1) / 2)) := by
          have := HR2.out.cell (i := k) (by rw [mix_len _ _ _ hlen (by rw [hlen, HBL.out]; omega), HBL.out]; omega)
          rw [this]
          congr 2
          rw [← Option.some_inj, ← List.getElem?_eq_getElem]
          rw [← HM.out, List.getElem?_set_self (by rw [mix_len _ _ _ hlen (by rw [hlen, HBL.out]; omega), HBL.out]; omega)]
        go_still_tail 14, (by kernel_rfl)
        go_wp2
        go_roundw
        case rel =>
          refine ⟨k + 1, by omega, by push_cast; rfl, ?_, ?_, ?_⟩
          · rw [HSum.out]
            exact (HK2.out.set 1 _).drew
          · exact (HR2.out.other (a := ⟨m, 1, none⟩) (Ne.symm hne) _).drew
          · exact (HO2.out.set (p := ⟨m, 1, none⟩) (.inl (.inl rfl)) _).drew
        case measure => simp [intOf]; omega
      · obtain rfl : k = n := by omega
        have e0 := HK.out.cell (i := 0) rfl
        go_wp2
        go_ret
        have h8 : lsum B > 8192 := by rw [HS.out]; omega
        have hlen : (halve B).length = B.length := halve_len B
        rw [HLn.out, if_pos h8]
        refine ⟨rfl, ⟨?_, ?_, hne⟩, HO.out⟩
        · have := HK.out
          rw [List.take_of_length_le (by rw [hlen, HBL.out]; omega)] at this
          rw [hlen, HBL.out]; exact this
        · have := HR.out
          rw [← HBL.out, mix_all _ _ hlen] at this
          exact this
  · have h8 : ¬ (lsum B > 8192) := by rw [HS.out]; omega
    rw [if_neg h8] at HLn
    rw [HLn.out]
    have hfin : Is ((w.setCell ⟨h, s, none⟩ (.int .u32 (x + 32))).setCell ⟨m, 1, none⟩ (.int .u32 (al + 32))) m h cap B false :=
      ⟨by rw [HBL.out, HS.out]; exact HK.out.set 1 _, HR.out.other (a := ⟨m, 1, none⟩) (Ne.symm hne) _, hne⟩
    have HFin := Lib.hid hfin
    clear hfin h8
    go_wp2
    go_ret
    exact ⟨rfl, HFin.out, HO.out.set (p := ⟨m, 1, none⟩) (.inl (.inl rfl)) _⟩
theorem Learn_any {w : World} {m h cap : Nat} {L : List Int} {f : Bool} (a : Is w m h cap L f) (good : Good L) (s : Nat) (hs : s < L.length) :
    Calls Try.prog 62 #[.pointer (some ⟨m, 0, none⟩), .int .i64 s] w fun e w' => e = .returned (.int .i64 0) ∧ Is w' m h cap (next f L s) f ∧ Only (fun k => k = m ∨ k = h) w w' := by
  cases f with
  | true =>
    refine (Learn_fixed a s hs).mono ?_
    rintro e w' ⟨rfl, rfl⟩
    exact ⟨rfl, a, Only.refl _ _⟩
  | false => exact Learn_yes a good s hs
end Go.Proofs.Ytlbjoflmfboeeaa.Mdl

/-
  The walks of the document's model: New, Sum, Find, Learn, and of both Fixed; no condition but those told.
-/
set_option linter.unusedVariables false
set_option linter.unusedSimpArgs false
namespace Go.Proofs.Ytlbjoflmfboeeaa.Mdl
open Go.RowKit Go.Proofs.Ytlbjoflmfboeeaa Go.Proofs.YtlbjoflmfboeeaaW.PrintWords

theorem info_int : (Try.prog.info? 3).map (fun i => (i.zero, i.size, i.bytes)) = some (some (.int .i64 0), 1, 8) := by kernel_rfl
theorem info_u32 : (Try.prog.info? 22).map (fun i => (i.zero, i.size, i.bytes)) = some (some (.int .u32 0), 1, 4) := by kernel_rfl
theorem rep_snoc (k : Nat) (x : Int) : List.replicate k x ++ [x] = List.replicate (k + 1) x := by
  rw [List.replicate_succ']
set_option maxHeartbeats 1000000 in
set_option maxRecDepth 100000 in
theorem RNew_yes (n : Nat) (h1 : 1 ≤ n) (h2 : n ≤ 64) (w : World) : Calls Try.prog 23 #[.int .i64 n] w fun e w' => ∃ m h cap, e = .returned (.tuple #[.pointer (some ⟨m, 0, none⟩), .bool true]) ∧ w.heap.size ≤ m ∧ w.heap.size ≤ h ∧ IsR w' m h cap (List.replicate n 1) false ∧ Below w.heap.size w w' := by
  go_enter Try.func23, Try.ntmps23
  go_wp2
  go_loopw [5] (fun i wr => ∃ (k : Nat) (v : Value), k ≤ n ∧ i = .int .i64 (k : Int) ∧ Hid (Blk wr w.heap.size 116 #[v, .bool false]) ∧ Hid (Sl wr 3 .i64 v (List.replicate k 1)) ∧ Hid (∀ g, v.ownBlock = some g → w.heap.size < g) ∧ Hid (Below w.heap.size w wr)) (fun v _ => n - (intOf v).toNat)
  case atStart => exact ⟨0, .slice none 0 0, by omega, rfl, Blk.new _ _ _, Sl.nil _ _ _, fun g hg => (by cases hg), ((Below.refl _ _).alloc (Nat.le_refl _) _ : Below _ _ _)⟩
  case round =>
    obtain ⟨k, v, hk, rfl, HM, HS, HN, HB⟩ := hrel
    by_cases hlt : k < n
    · have d0 := HM.out.cell (i := 0) rfl
      have hwr := HM.out.lt
      go_wp2_with (first
        | (at_builtin; refine wpList_push (.tmp 23) (.tmp 24) 54 3 .i64 0 8 rfl rfl Try.underlying54 info_int v (List.replicate k 1) k 1 ⟨wr.heap.size, 0, none⟩ (wr.heap.size + 1) rfl rfl (HS.out.alloc _) (by simp) ((Blk.new wr _ _).cell rfl) (by simp) (by omega) (by omega) ?_
           intro g cap w1 hp
           have HM1 := Lib.hid ((HM.out.alloc (.cells #[.int .i64 1] 3)).of_same (hp.block (by simp; omega) (fun e => by have := HN.out _ e; omega)))
           have d1 := HM1.out.cell (i := 0) rfl
           have f1 := HM1.out.free 0
           have HP := Lib.hid hp
           clear hp))
      go_roundw
      case rel =>
        have hgw : w.heap.size < g := by
          rcases HP.out.at_ with h | h
          · exact HN.out g h
          · omega
        refine ⟨k + 1, .slice (some ⟨g, 0, none⟩) (k + 1) cap, by omega, by push_cast; rfl, HM1.out.set 0 _, ?_, fun g' hg' => ?_, ?_⟩
        · have := Sl.row (HP.out.row.other (a := ⟨w.heap.size, 0, none⟩) (by simp; omega) (.slice (some ⟨g, 0, none⟩) (k + 1) cap))
          rw [rep_snoc, List.length_replicate] at this
          exact this
        · have e : g = g' := Option.some.inj hg'
          omega
        · exact (((HB.out.alloc HB.out.size _).trans (HP.out.only.below (B := w.heap.size) (by simp; omega) (fun i hi => by have := HN.out i hi; omega))).setCell (p := ⟨w.heap.size, 0, none⟩) (Nat.le_refl _) _ : Below _ _ _)
      case measure => simp [intOf]; omega
    · obtain rfl : k = n := by omega
      have hs := HS.out
      rcases hs with ⟨_, h0⟩ | ⟨g, cap, rfl, hr⟩
      · have := congrArg List.length h0
        rw [List.length_replicate] at this
        simp at this; omega
      · have hg := HN.out g rfl
        have HR := Lib.hid hr
        clear hr
        go_wp2
        go_ret2
        exact ⟨w.heap.size, g, cap, rfl, Nat.le_refl _, by omega, ⟨HM.out, HR.out, by omega⟩, HB.out⟩
theorem RSum_calls {w : World} {m h cap : Nat} {L : List Int} {f : Bool} (a : IsR w m h cap L f) (nn : ∀ x ∈ L, 0 ≤ x) (all : lsum L ≤ 1000000000) (s : Nat) (hs : s ≤ L.length) (hl : L.length ≤ 64) :
    Calls Try.prog 63 #[.pointer (some ⟨m, 0, none⟩), .int .i64 s] w fun e w' => e = .returned (.int .i64 (lsum (L.take s))) ∧ w' = w := by
  have d0 := a.blk.cell (i := 0) rfl
  have A := Lib.hid a
  have NN := Lib.hid nn
  clear a nn
  obtain ⟨n, hn⟩ : ∃ n, L.length = n := ⟨_, rfl⟩
  have HN := Lib.hid hn
  rw [hn] at d0 hs hl
  clear hn
  go_enter Try.func63, Try.ntmps63
  go_wp2
  go_loop [5, 6] (fun v i => ∃ k : Nat, k ≤ s ∧ i = .int .i64 (k : Int) ∧ v = .int .i64 (lsum (L.take k))) (fun _ i => s - (intOf i).toNat)
  case atStart => exact ⟨0, by omega, rfl, rfl⟩
  case round =>
    obtain ⟨k, hk, rfl, rfl⟩ := hrel
    by_cases hlt : k < s
    · have d2 := A.out.row.cell (i := k) (by rw [HN.out]; omega)
      have h1 := lsum_take_le L NN.out k
      have h2 := lsum_take_le L NN.out (k + 1)
      have h3 := NN.out _ (List.getElem_mem (show k < L.length by rw [HN.out]; omega))
      have HS := Lib.hid (lsum_take_succ L k (by rw [HN.out]; omega))
      rw [HS.out] at h2
      generalize L[k]'(by rw [HN.out]; omega) = y at *
      have i1 : (k : Int) < n := by omega
      go_wp2
      go_round
      case rel => exact ⟨k + 1, by omega, by push_cast; rfl, by rw [HS.out]⟩
      case measure => simp [intOf]; omega
    · obtain rfl : k = s := by omega
      go_wp2
      go_ret
      exact ⟨rfl, rfl⟩
/-- What is found by sums. -/
theorem find_before (L : List Int) (x : Int) (k : Nat) (hk : k < find L x) : lsum (L.take (k + 1)) ≤ x := by
  induction L generalizing x k with
  | nil => simp [find] at hk
  | cons a l ih =>
    rw [find_cons] at hk
    by_cases h : x < a ∨ l = []
    · rw [if_pos h] at hk; omega
    · rw [if_neg h] at hk
      have hxa : ¬ x < a := fun e => h (.inl e)
      cases k with
      | zero => simp [lsum]; omega
      | succ k =>
        have := ih (x - a) k (by omega)
        have e : lsum ((a :: l).take (k + 1 + 1)) = a + lsum (l.take (k + 1)) := by simp [lsum]
        omega
theorem find_at (L : List Int) (x : Int) (h0 : 0 ≤ x) (hf : find L x + 1 < L.length) : x < lsum (L.take (find L x + 1)) := by
  induction L generalizing x with
  | nil => simp at hf
  | cons a l ih =>
    rw [find_cons] at hf ⊢
    by_cases h : x < a ∨ l = []
    · rw [if_pos h] at hf ⊢
      rcases h with h | h
      · simp [lsum]; omega
      · subst h; simp at hf
    · rw [if_neg h] at hf ⊢
      have hxa : ¬ x < a := fun e => h (.inl e)
      have := ih (x - a) (by omega) (by simp at hf; omega)
      have e : lsum ((a :: l).take (find l (x - a) + 1 + 1)) = a + lsum (l.take (find l (x - a) + 1)) := by simp [lsum]
      omega
set_option maxHeartbeats 1000000 in
theorem RFind_calls {w : World} {m h cap : Nat} {L : List Int} {f : Bool} (a : IsR w m h cap L f) (good : Good L) (x : Int) (h0 : 0 ≤ x) (h1 : x < 4294967296) :
    Calls Try.prog 72 #[.pointer (some ⟨m, 0, none⟩), .int .i64 x] w fun e w' => e = .returned (.int .i64 (find L x)) ∧ w' = w := by
  have d0 := a.blk.cell (i := 0) rfl
  have hl2 := good.len2
  have hl1 := good.len1
  have A := Lib.hid a
  have G := Lib.hid good
  clear a good
  obtain ⟨n, hn⟩ : ∃ n, L.length = n := ⟨_, rfl⟩
  have HN := Lib.hid hn
  have hfl := find_lt L x (by omega)
  have HB := Lib.hid (find_before L x)
  have HT := Lib.hid (find_at L x h0)
  rw [hn] at d0 hl1 hl2 hfl HT
  generalize find L x = r at *
  clear hn
  go_enter Try.func72, Try.ntmps72
  go_wp2
  go_loopw [5] (fun i wr => ∃ k : Nat, k ≤ n ∧ i = .int .i64 (k : Int) ∧ (k ≤ r ∨ k = n ∧ r + 1 = n) ∧ wr = w) (fun i _ => n - (intOf i).toNat)
  case atStart => exact ⟨0, by omega, rfl, .inl (by omega), rfl⟩
  case round =>
    obtain ⟨k, hk, rfl, hkr, rfl⟩ := hrel
    by_cases hlt : k < n
    · have hkr2 : k ≤ r := by omega
      have hall := G.out.all
      have nn := G.out.nonneg
      have HSn := Lib.hid (RSum_calls A.out nn (by omega) (k + 1) (by rw [HN.out]; omega) (by rw [HN.out]; omega))
      have h2 := lsum_take_le L nn (k + 1)
      have b1 : k < r → lsum (L.take (k + 1)) ≤ x := HB.out k
      have b2 : k = r → r + 1 < n → x < lsum (L.take (k + 1)) := by rintro rfl hh; exact HT.out hh
      clear nn hkr
      obtain ⟨sm, hsm⟩ : ∃ sm, lsum (L.take (k + 1)) = sm := ⟨_, rfl⟩
      rw [hsm] at h2 b1 b2 HSn
      clear hsm
      have e1 : IntKind.i64.wrap ((k : Int) + 1) = ((k + 1 : Nat) : Int) := by rw [wrapI64 (by omega) (by omega)]; rfl
      by_cases hc : x < sm
      · have hrk : r = k := by
          rcases Nat.lt_or_ge k r with h | h
          · have := b1 h; omega
          · omega
        clear b1 b2
        subst hrk
        go_wp2_with (go_at_call 63; refine HSn.out.mono ?_; rintro e w' ⟨rfl, rfl⟩)
        go_ret
        exact ⟨rfl, rfl⟩
      · have hrk : k < r ∨ (k = r ∧ r + 1 = n) := by
          rcases Nat.lt_or_ge k r with h | h
          · exact .inl h
          · refine .inr ⟨by omega, ?_⟩
            rcases Nat.lt_or_ge (r + 1) n with h3 | h3
            · have := b2 (by omega) h3; omega
            · omega
        clear b1 b2
        go_wp2_with (go_at_call 63; refine HSn.out.mono ?_; rintro e w' ⟨rfl, rfl⟩)
        go_roundw
        case rel => exact ⟨k + 1, by omega, by push_cast; rfl, by omega, trivial⟩
        case measure => simp [intOf]; omega
    · obtain rfl : k = n := by omega
      have hr : r = k - 1 := by omega
      go_wp2
      go_ret
      exact ⟨by rw [Int.natCast_sub hl1]; rfl, rfl⟩
theorem RLearn_fixed {w : World} {m h cap : Nat} {L : List Int} (a : IsR w m h cap L true) (s : Nat) :
    Calls Try.prog 64 #[.pointer (some ⟨m, 0, none⟩), .int .i64 s] w fun e w' => e = .returned (.tuple #[]) ∧ w' = w := by
  have d1 := a.blk.cell (i := 1) rfl
  go_enter Try.func64, Try.ntmps64
  go_wp2
  exact bodyPost_ret (results_none rfl _ _ _) rfl ⟨rfl, rfl⟩
set_option maxHeartbeats 2000000 in
set_option maxRecDepth 100000 in
theorem RLearn_yes {w : World} {m h cap : Nat} {L : List Int} (a : IsR w m h cap L false) (good : Good L) (s : Nat) (hs : s < L.length) :
    Calls Try.prog 64 #[.pointer (some ⟨m, 0, none⟩), .int .i64 s] w fun e w' => e = .returned (.tuple #[]) ∧ IsR w' m h cap (learn L s) false ∧ Only (fun k => k = m ∨ k = h) w w' := by
  have d0 := a.blk.cell (i := 0) rfl
  have d1 := a.blk.cell (i := 1) rfl
  have d3 := a.row.cell hs
  have f3 := a.row.free s
  have hne := a.ne
  have hl2 := good.len2
  have hall := good.all
  have hb := good.at hs
  have HS := Lib.hid (lsum_bump L s hs)
  have HBL := Lib.hid (bump_len L s)
  have HBP := Lib.hid (bump_pos L s good.pos hs)
  have HW := Lib.hid a
  have HBset : Hid (bump L s = L.set s (L[s] + 32)) := Lib.hid (by unfold bump; rw [List.getD_eq_getElem?_getD, List.getElem?_eq_getElem hs]; rfl)
  have HLn : Hid (learn L s = if lsum (bump L s) > 8192 then halve (bump L s) else bump L s) := Lib.hid rfl
  obtain ⟨B, hB⟩ : ∃ B, bump L s = B := ⟨_, rfl⟩
  rw [hB] at HS HBL HBP HBset HLn
  obtain ⟨n, hn⟩ : ∃ n, L.length = n := ⟨_, rfl⟩
  rw [hn] at d0 hs hl2 HBL
  have i0 : (s : Int) < n := by omega
  have HN := Lib.hid hn
  generalize L[s]'(by omega) = x at *
  clear hB hn
  have HA := Lib.hid (Eq.refl (lsum L))
  clear a good
  have hrow : RowI (w.setCell ⟨h, s, none⟩ (.int .i64 (x + 32))) 3 .i64 h cap B := by
    rw [HBset.out]; exact HW.out.row.set s (x + 32)
  have hblk : Blk (w.setCell ⟨h, s, none⟩ (.int .i64 (x + 32))) m 116 #[.slice (some ⟨h, 0, none⟩) n cap, .bool false] := by
    have := HW.out.blk.other (a := ⟨h, s, none⟩) hne (.int .i64 (x + 32))
    rwa [HN.out] at this
  have honly : Only (fun k => k = m ∨ k = h) w (w.setCell ⟨h, s, none⟩ (.int .i64 (x + 32))) := (Only.refl _ w).set (p := ⟨h, s, none⟩) (.inl (.inr rfl)) _
  have HR := Lib.hid hrow.drew
  have HK := Lib.hid hblk.drew
  have HO := Lib.hid honly.drew
  clear hrow hblk honly
  go_enter Try.func64, Try.ntmps64
  go_wp2
  go_still_tail 14, (by kernel_rfl)
  go_wp2_with fail
  clear d0 d1 d3 f3
  generalize (w.setCell ⟨h, s, none⟩ (.int .i64 (x + 32))).drew = wm at *
  have HI : Hid (IsR wm m h cap B false) := Lib.hid ⟨by rw [HBL.out]; exact HK.out, HR.out, hne⟩
  have hsum := RSum_calls HI.out (fun x hx => by have := HBP.out x hx; omega) (by rw [HS.out]; omega) n (by rw [HBL.out]; omega) (by rw [HBL.out]; omega)
  rw [List.take_of_length_le (by rw [HBL.out]; omega)] at hsum
  have HSm := Lib.hid hsum
  have hS2 := HS.out
  clear hsum
  obtain ⟨sm, hsm⟩ : ∃ sm, lsum B = sm := ⟨_, rfl⟩
  rw [hsm] at HSm hS2 HLn
  obtain ⟨al, hal⟩ : ∃ al, lsum L = al := ⟨_, rfl⟩
  rw [hal] at hS2 hall
  have hsm9 : sm ≤ 8224 := by omega
  have hsmB : Hid (lsum B ≤ 8224) := Lib.hid (by rw [hsm]; omega)
  clear hal hS2 hsm HA HS
  have d0 := HK.out.cell (i := 0) rfl
  by_cases hc : 8192 < sm
  · refine HSm.out.mono ?_
    rintro e w' ⟨rfl, rfl⟩
    go_wp2
    go_loopw [4] (fun v wr => ∃ k : Nat, k ≤ n ∧ v = .int .i64 (k : Int) ∧ Hid (Blk wr m 116 #[.slice (some ⟨h, 0, none⟩) n cap, .bool false]) ∧ Hid (RowI wr 3 .i64 h cap (mix (halve B) B k)) ∧ Hid (Only (fun k => k = m ∨ k = h) w wr)) (fun v _ => n - (intOf v).toNat)
    case atStart => exact ⟨0, by omega, rfl, HK, by rw [mix_zero]; exact HR, HO⟩
    case round =>
      clear HI HSm d0 HR HK HO
      obtain ⟨k, hk, rfl, HK, HR, HO⟩ := hrel
      have e0 := HK.out.cell (i := 0) rfl
      by_cases hlt : k < n
      · have hlen : (halve B).length = B.length := halve_len B
        have e3 := HR.out.cell (i := k) (by rw [mix_len _ _ _ hlen (by rw [hlen, HBL.out]; omega), HBL.out]; omega)
        rw [mix_get _ _ _ hlen (by rw [HBL.out]; omega)] at e3
        have g3 := HR.out.free k
        have HM := Lib.hid (mix_set (halve B) B k hlen (by rw [hlen, HBL.out]; omega))
        have hg := halve_get B k (by rw [HBL.out]; omega) (h' := by rw [hlen, HBL.out]; omega)
        rw [hg] at HM
        have hy1 := HBP.out _ (List.getElem_mem (show k < B.length by rw [HBL.out]; omega))
        have hset : B = L.set s (x + 32) := HBset.out
        have i1 : (k : Int) < n := by omega
        have hy2 : B[k]'(by rw [HBL.out]; omega) ≤ 1000000 := by
          have h1 := lsum_take_le B (fun x hx => by have := HBP.out x hx; omega) k
          have h2 := lsum_take_le B (fun x hx => by have := HBP.out x hx; omega) (k + 1)
          rw [lsum_take_succ B k (by rw [HBL.out]; omega)] at h2
          have := hsmB.out
          omega
        clear hset hg
        generalize B[k]'(by rw [HBL.out]; omega) = y at *
        go_wp2
        go_still_tail 15, (by kernel_rfl)
        go_wp2
        go_roundw
        case rel => exact ⟨k + 1, by omega, by push_cast; rfl, (HK.out.other (a := ⟨h, k, none⟩) hne (.int .i64 ((y + 1) / 2))).drew, by rw [← HM.out]; exact (HR.out.set k _).drew, (HO.out.set (p := ⟨h, k, none⟩) (.inl (.inr rfl)) _).drew⟩
        case measure => simp [intOf]; omega
      · obtain rfl : k = n := by omega
        go_wp2
        rw [HLn.out, if_pos hc]
        have hlen : (halve B).length = B.length := halve_len B
        have hfin : IsR wr m h cap (halve B) false := ⟨by rw [hlen, HBL.out]; exact HK.out, by
          have := HR.out
          rw [← HBL.out, mix_all _ _ hlen] at this
          exact this, hne⟩
        exact bodyPost_end (results_none rfl _ _ _) rfl ⟨rfl, hfin, HO.out⟩
  · refine HSm.out.mono ?_
    rintro e w' ⟨rfl, rfl⟩
    go_wp2
    rw [HLn.out, if_neg (by omega)]
    exact bodyPost_end (results_none rfl _ _ _) rfl ⟨rfl, HI.out, HO.out⟩
set_option maxHeartbeats 2000000 in
set_option maxRecDepth 100000 in
theorem Fixed_yes (L : List Int) (good : Good L) (A0 : Option Addr) (c0 : Nat) (w : World) (hr : Kd.C (Kd.int .u32) w A0 L.length L) (hc : L.length ≤ c0) :
    Calls Try.prog 24 #[.slice A0 L.length c0] w fun e w' => ∃ m h cap, e = .returned (.tuple #[.pointer (some ⟨m, 0, none⟩), .int .i64 0]) ∧ w.heap.size ≤ m ∧ w.heap.size ≤ h ∧ Is w' m h cap L true ∧ Below w.heap.size w w' := by
  have HR := Lib.hid hr
  have G := Lib.hid good
  have h1 := good.len1
  have h2 := good.len2
  obtain ⟨n, hn⟩ : ∃ n, L.length = n := ⟨_, rfl⟩
  have HN := Lib.hid hn
  rw [hn] at h1 h2 hc ⊢
  clear hn hr good
  go_enter Try.func24, Try.ntmps24
  go_wp2
  go_loopw [19] (fun i wr => ∃ (k : Nat) (v : Value), k ≤ n ∧ i = .int .i64 (k : Int) ∧ Hid (Blk wr w.heap.size 107 #[v, .int .u32 (lsum (L.take k)), .bool true]) ∧ Hid (Sl wr 22 .u32 v (L.take k)) ∧ Hid (∀ g, v.ownBlock = some g → w.heap.size < g) ∧ Hid (Below w.heap.size w wr)) (fun v _ => n - (intOf v).toNat)
  case atStart => exact ⟨0, .slice none 0 0, by omega, rfl, Blk.new _ _ _, Sl.nil _ _ _, fun g hg => (by cases hg), ((Below.refl _ _).alloc (Nat.le_refl _) _ : Below _ _ _)⟩
  case round =>
    obtain ⟨k, v, hk, rfl, HM, HS, HNw, HB⟩ := hrel
    by_cases hlt : k < n
    · have d0 := HM.out.cell (i := 0) rfl
      have d1 := HM.out.cell (i := 1) rfl
      have hwr := HM.out.lt
      obtain ⟨ad, rfl, dk⟩ := cell_C HR.out (i := k) (by rw [HN.out]; omega)
      have had : (ad.add k).block < w.heap.size := World.block_lt_of_cell? w _ dk
      rw [← HB.out.cell had] at dk
      have hgk := G.out.at (k := k) (by rw [HN.out]; omega)
      have hall := G.out.all
      have HSum := Lib.hid (lsum_take_succ L k (by rw [HN.out]; omega))
      have HTk := Lib.hid (List.take_succ_eq_append_getElem (show k < L.length by rw [HN.out]; omega))
      have hlk : (L.take k).length = k := by rw [List.length_take, HN.out]; omega
      have HLk := Lib.hid hlk
      generalize L[k]'(by rw [HN.out]; omega) = y at *
      generalize lsum (L.take k) = sm at *
      generalize lsum L = al at *
      clear hlk
      go_wp2
      have f0 := HM.out.free 0
      have f1 := HM.out.free 1
      go_region_law ((refine step_push _ _ _ 22 .u32 0 4 (by rfl) (by rfl) Try.underlying45 info_u32 v (L.take k) k y ⟨wr.heap.size, 0, none⟩ (wr.heap.size + 1) (by rfl) (by rfl) ?_ HLk.out ?_ ?_ ?_ ?_ ?_
                      · exact (HS.out.alloc _).drew
                      · exact (Blk.new wr _ _).cell (i := 0) rfl
                      · simp
                      · omega
                      · omega
                      intro g cap w1 hp
                      have HM1 := Lib.hid ((HM.out.alloc (.cells #[.int .u32 y] 22)).drew.of_same (hp.block (by simp; omega) (fun e => by have := HNw.out _ e; simp at this)))
                      have d0' := HM1.out.cell (i := 0) rfl
                      have d1' := HM1.out.cell (i := 1) rfl
                      have f0' := HM1.out.free 0
                      have f1' := HM1.out.free 1
                      have HP := Lib.hid hp
                      clear hp))
      all_goals
        go_wp2
        go_roundw
        case rel =>
          have hgw : w.heap.size < g := by
            rcases HP.out.at_ with h | h
            · exact HNw.out g h
            · omega
          refine ⟨k + 1, .slice (some ⟨g, 0, none⟩) (k + 1) cap, by omega, by push_cast; rfl, ?_, ?_, fun g' hg' => ?_, ?_⟩
          · rw [HSum.out]
            exact (HM1.out.set 0 _).set 1 _
          · have hrow := HP.out.row
            rw [← HTk.out] at hrow
            have := Sl.row ((hrow.other (a := ⟨w.heap.size, 0, none⟩) (by simp; omega) (.slice (some ⟨g, 0, none⟩) (k + 1) cap)).other (a := ⟨w.heap.size, 1, none⟩) (by simp; omega) (.int .u32 (sm + y)))
            have hl : (L.take (k + 1)).length = k + 1 := by rw [List.length_take, HN.out]; omega
            rw [hl] at this
            exact this
          · have e : g = g' := Option.some.inj hg'
            omega
          · have hA : Below w.heap.size w (wr.alloc (.cells #[.int .u32 y] 22)).drew := (HB.out.alloc HB.out.size _).drew
            exact (((hA.trans (HP.out.only.below (B := w.heap.size) (by simp; omega) (fun i hi => by have := HNw.out i hi; omega))).setCell (p := ⟨w.heap.size, 0, none⟩) (Nat.le_refl _) _).setCell (p := ⟨w.heap.size, 1, none⟩) (Nat.le_refl _) _ : Below _ _ _)
        case measure => simp [intOf]; omega
    · obtain rfl : k = n := by omega
      rw [List.take_of_length_le (by rw [HN.out]; omega)] at HM HS
      have hs := HS.out
      rcases hs with ⟨_, h0⟩ | ⟨g, cap, rfl, hr⟩
      · have := congrArg List.length h0
        rw [HN.out] at this
        simp at this; omega
      · have hg := HNw.out g rfl
        have HRw := Lib.hid hr
        clear hr
        rw [HN.out] at HM
        go_wp2
        go_ret2
        exact ⟨w.heap.size, g, cap, rfl, Nat.le_refl _, by omega, ⟨by rw [HN.out]; exact HM.out, HRw.out, by omega⟩, HB.out⟩
set_option maxHeartbeats 2000000 in
set_option maxRecDepth 100000 in
theorem RFixed_yes (L : List Int) (good : Good L) (A0 : Option Addr) (c0 : Nat) (w : World) (hr : Kd.C (Kd.int .u32) w A0 L.length L) (hc : L.length ≤ c0) :
    Calls Try.prog 25 #[.slice A0 L.length c0] w fun e w' => ∃ m h cap, e = .returned (.tuple #[.pointer (some ⟨m, 0, none⟩), .bool true]) ∧ w.heap.size ≤ m ∧ w.heap.size ≤ h ∧ IsR w' m h cap L true ∧ Below w.heap.size w w' := by
  have HR := Lib.hid hr
  have G := Lib.hid good
  have h1 := good.len1
  have h2 := good.len2
  obtain ⟨n, hn⟩ : ∃ n, L.length = n := ⟨_, rfl⟩
  have HN := Lib.hid hn
  rw [hn] at h1 h2 hc ⊢
  clear hn hr good
  go_enter Try.func25, Try.ntmps25
  go_wp2
  go_loopw [5] (fun i wr => ∃ (k : Nat) (v : Value), k ≤ n ∧ i = .int .i64 (k : Int) ∧ Hid (Blk wr w.heap.size 116 #[v, .bool true]) ∧ Hid (Sl wr 3 .i64 v (L.take k)) ∧ Hid (∀ g, v.ownBlock = some g → w.heap.size < g) ∧ Hid (Below w.heap.size w wr)) (fun v _ => n - (intOf v).toNat)
  case atStart => exact ⟨0, .slice none 0 0, by omega, rfl, Blk.new _ _ _, Sl.nil _ _ _, fun g hg => (by cases hg), ((Below.refl _ _).alloc (Nat.le_refl _) _ : Below _ _ _)⟩
  case round =>
    obtain ⟨k, v, hk, rfl, HM, HS, HNw, HB⟩ := hrel
    by_cases hlt : k < n
    · have d0 := HM.out.cell (i := 0) rfl
      have f0 := HM.out.free 0
      have hwr := HM.out.lt
      obtain ⟨ad, rfl, dk⟩ := cell_C HR.out (i := k) (by rw [HN.out]; omega)
      have had : (ad.add k).block < w.heap.size := World.block_lt_of_cell? w _ dk
      rw [← HB.out.cell had] at dk
      have hgk := G.out.at (k := k) (by rw [HN.out]; omega)
      have hall := G.out.all
      have HTk := Lib.hid (List.take_succ_eq_append_getElem (show k < L.length by rw [HN.out]; omega))
      have hlk : (L.take k).length = k := by rw [List.length_take, HN.out]; omega
      have HLk := Lib.hid hlk
      generalize L[k]'(by rw [HN.out]; omega) = y at *
      generalize lsum (L.take k) = sm at *
      generalize lsum L = al at *
      have hyz : (y == 0) = false := by rw [beq_eq_false_iff_ne]; omega
      have ik : (k : Int) < n := by omega
      have hbk : ad.block < w.heap.size := by rw [add_block] at had; exact had
      have hbk2 : ad.block ≠ w.heap.size := by omega
      have ew : IntKind.i64.wrap y = y := wrapI64 (by omega) (by omega)
      clear hlk
      go_wp2
      go_region_law ((refine step_push _ _ _ 3 .i64 0 8 (by rfl) (by rfl) Try.underlying54 info_int v (L.take k) k y ⟨wr.heap.size, 0, none⟩ (wr.heap.size + 1) (by rfl) (by rfl) ?_ HLk.out ?_ ?_ ?_ ?_ ?_
                      · exact (HS.out.alloc _).drew
                      · exact (Blk.new wr _ _).cell (i := 0) rfl
                      · simp
                      · omega
                      · omega
                      intro g cap w1 hp
                      have HM1 := Lib.hid ((HM.out.alloc (.cells #[.int .i64 y] 3)).drew.of_same (hp.block (by simp; omega) (fun e => by have := HNw.out _ e; simp at this)))
                      have d0' := HM1.out.cell (i := 0) rfl
                      have f0' := HM1.out.free 0
                      have hk' : w1.cell? (ad.add k) = wr.cell? (ad.add k) := (hp.grown.cell_far (ad.add k) (by simp; omega) (fun e => by have := HNw.out _ e.symm; omega)).trans ((((Below.refl _ _).alloc (Nat.le_refl _) _).drew : Below wr.heap.size wr (wr.alloc (.cells #[.int .i64 y] 3)).drew).cell (by omega))
                      rw [dk] at hk'
                      have hk2 : (w1.setCell ⟨w.heap.size, 0, none⟩ (.slice (some ⟨g, 0, none⟩) (k + 1) cap)).cell? (ad.add k) = some (.int .u32 y) := (World.cell?_of_block (Below.heap_setCell w1 ⟨w.heap.size, 0, none⟩ _ _ (by rw [add_block]; exact hbk2))).trans hk'
                      have HP := Lib.hid hp
                      clear hp))
      all_goals
        go_wp2
        go_roundw
        case rel =>
          have hgw : w.heap.size < g := by
            rcases HP.out.at_ with h | h
            · exact HNw.out g h
            · omega
          refine ⟨k + 1, .slice (some ⟨g, 0, none⟩) (k + 1) cap, by omega, by push_cast; rfl, ?_, ?_, fun g' hg' => ?_, ?_⟩
          · exact HM1.out.set 0 _
          · have hrow := HP.out.row
            rw [← HTk.out] at hrow
            have := Sl.row (hrow.other (a := ⟨w.heap.size, 0, none⟩) (by simp; omega) (.slice (some ⟨g, 0, none⟩) (k + 1) cap))
            have hl : (L.take (k + 1)).length = k + 1 := by rw [List.length_take, HN.out]; omega
            rw [hl] at this
            exact this
          · have e : g = g' := Option.some.inj hg'
            omega
          · have hA : Below w.heap.size w (wr.alloc (.cells #[.int .i64 y] 3)).drew := (HB.out.alloc HB.out.size _).drew
            exact ((hA.trans (HP.out.only.below (B := w.heap.size) (by simp; omega) (fun i hi => by have := HNw.out i hi; omega))).setCell (p := ⟨w.heap.size, 0, none⟩) (Nat.le_refl _) _ : Below _ _ _)
        case measure => simp [intOf]; omega
    · obtain rfl : k = n := by omega
      rw [List.take_of_length_le (by rw [HN.out]; omega)] at HS
      have hs := HS.out
      rcases hs with ⟨_, h0⟩ | ⟨g, cap, rfl, hr⟩
      · have := congrArg List.length h0
        rw [HN.out] at this
        simp at this; omega
      · have hg := HNw.out g rfl
        have HRw := Lib.hid hr
        clear hr
        have HI : Hid (IsR wr w.heap.size g cap L true) := Lib.hid ⟨HM.out, HRw.out, by omega⟩
        have hsum := RSum_calls HI.out G.out.nonneg (by have := G.out.all; omega) k (by rw [HN.out]; omega) (by rw [HN.out]; omega)
        rw [List.take_of_length_le (by rw [HN.out]; omega)] at hsum
        have hall := G.out.all
        have HSm := Lib.hid hsum
        clear hsum
        generalize lsum L = al at *
        rw [HN.out] at HM
        go_wp2_with (go_at_call 63; refine HSm.out.mono ?_; rintro e w' ⟨rfl, rfl⟩)
        go_ret2
        exact ⟨w.heap.size, g, cap, rfl, Nat.le_refl _, by omega, HI.out, HB.out⟩
theorem RLearn_any {w : World} {m h cap : Nat} {L : List Int} {f : Bool} (a : IsR w m h cap L f) (good : Good L) (s : Nat) (hs : s < L.length) :
    Calls Try.prog 64 #[.pointer (some ⟨m, 0, none⟩), .int .i64 s] w fun e w' => e = .returned (.tuple #[]) ∧ IsR w' m h cap (next f L s) f ∧ Only (fun k => k = m ∨ k = h) w w' := by
  cases f with
  | true =>
    refine (RLearn_fixed a s).mono ?_
    rintro e w' ⟨rfl, rfl⟩
    exact ⟨rfl, a, Only.refl _ _⟩
  | false => exact RLearn_yes a good s hs
end Go.Proofs.Ytlbjoflmfboeeaa.Mdl
