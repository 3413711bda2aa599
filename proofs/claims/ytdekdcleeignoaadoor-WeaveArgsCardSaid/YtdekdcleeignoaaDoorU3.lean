/-
  Words: slices of whole numbers that own their block, and grow one by one. Plain theorems; no condition.
-/
import Derived.Test.YtdekdcleeignoaaDoorU2
import Derived.Deep.AppendLies
import Derived.Maps.AppendAt
set_option linter.unusedVariables false
namespace Go.Proofs.YtdekdcleeignoaaDoor
open Go.RowKit

theorem add_nought (a : Addr) : a.add 0 = a := by
  unfold Addr.add
  split
  · rename_i h; cases a; simp_all
  · rename_i h; cases a; simp_all
/-- v is a slice of these numbers at the head of a block of its own, or nil. -/
def Sl (w : World) (e : TypeId) (k : IntKind) (v : Value) (xs : List Int) : Prop :=
  (v = .slice none 0 0 ∧ xs = []) ∨ ∃ g cap, v = .slice (some ⟨g, 0, none⟩) xs.length cap ∧ RowI w e k g cap xs
section
variable {w w' : World} {e : TypeId} {k : IntKind} {v : Value} {xs : List Int}
theorem Sl.nil (w : World) (e : TypeId) (k : IntKind) : Sl w e k (.slice none 0 0) [] := .inl ⟨rfl, rfl⟩
theorem Sl.row {g cap : Nat} (h : RowI w e k g cap xs) : Sl w e k (.slice (some ⟨g, 0, none⟩) xs.length cap) xs := .inr ⟨g, cap, rfl, h⟩
theorem Sl.lt (h : Sl w e k v xs) {g : Nat} (hg : v.ownBlock = some g) : g < w.heap.size := by
  rcases h with ⟨rfl, _⟩ | ⟨g', cap, rfl, h⟩
  · cases hg
  · injection hg with e; subst e; exact h.lt
theorem Sl.of_same (h : Sl w e k v xs) (hs : ∀ g, v.ownBlock = some g → w'.heap[g]? = w.heap[g]?) : Sl w' e k v xs := by
  rcases h with h | ⟨g, cap, rfl, h⟩
  · exact .inl h
  · exact .inr ⟨g, cap, rfl, h.of_same (hs g rfl)⟩
theorem Sl.drew (h : Sl w e k v xs) : Sl w.drew e k v xs := h
theorem Sl.drewN (h : Sl w e k v xs) (n : Nat) : Sl (w.drewN n) e k v xs := h
theorem Sl.alloc (h : Sl w e k v xs) (o : Obj) : Sl (w.alloc o) e k v xs := h.of_same fun g hg => Below.heap_alloc w o g (h.lt hg)
theorem Sl.other (h : Sl w e k v xs) {a : Addr} (hne : v.ownBlock ≠ some a.block) (u : Value) : Sl (w.setCell a u) e k v xs :=
  h.of_same fun g hg => Below.heap_setCell w a u g (by rintro rfl; exact hne hg)
theorem Sl.only {S : Nat → Prop} (h : Sl w e k v xs) (o : Only S w w') (hn : ∀ g, v.ownBlock = some g → ¬ S g) : Sl w' e k v xs := h.of_same fun g hg => o.block g (h.lt hg) (hn g hg)
theorem Sl.below {B : Nat} (h : Sl w e k v xs) (hb : Below B w w') (hg : ∀ g, v.ownBlock = some g → g < B) : Sl w' e k v xs := h.of_same fun g hb' => hb.block g (hg g hb')
theorem Sl.form (h : Sl w e k v xs) : ∃ A cap, v = .slice A xs.length cap ∧ xs.length ≤ cap := by
  rcases h with ⟨rfl, rfl⟩ | ⟨g, cap, rfl, h⟩
  · exact ⟨none, 0, rfl, Nat.le_refl _⟩
  · exact ⟨_, cap, rfl, h.len.1⟩
theorem Sl.owns (h : Sl w e k v xs) : w.ownsRow 0 e 1 v xs.length (xs.map (Value.int k)) := by
  refine ⟨by simp, ?_⟩
  rcases h with ⟨rfl, rfl⟩ | ⟨g, cap, rfl, cs, hb, h1, h2, h3, h4⟩
  · exact .inl ⟨rfl, rfl⟩
  · refine .inr ⟨g, cap, cs, rfl, Nat.zero_le _, hb, h1, h2, by omega, ?_⟩
    apply List.ext_getElem?
    intro i
    rw [List.getElem?_take]
    by_cases hi : i < xs.length
    · rw [if_pos (by omega), Array.getElem?_toList, h4 i hi, List.getElem?_map, List.getElem?_eq_getElem hi]; rfl
    · rw [if_neg (by omega), List.getElem?_eq_none (by simpa using hi)]
theorem RowI.of_owns {g cap : Nat} (h : w.ownsRow 0 e 1 (.slice (some ⟨g, 0, none⟩) xs.length cap) xs.length (xs.map (Value.int k))) : RowI w e k g cap xs := by
  rcases h.2 with ⟨h1, _⟩ | ⟨g', cap', cur, h1, _, hb, h2, h3, h4, h5⟩
  · cases h1
  · injection h1 with e1 _ e3
    injection e1 with e1
    injection e1 with e1
    subst e1 e3
    refine ⟨cur, hb, h2, h3, by omega, fun i hi => ?_⟩
    have e1 : (cur.toList.take (xs.length * 1))[i]? = some (.int k xs[i]) := by rw [h5]; simp [hi]
    rw [List.getElem?_take, if_pos (by omega)] at e1
    simpa using e1
/-- Where one more is appended. -/
structure Pushed (w w' : World) (e : TypeId) (k : IntKind) (v : Value) (g cap : Nat) (ys : List Int) (H : Nat) : Prop where
  row : RowI w' e k g cap ys
  grown : w.grownBy w' v.ownBlock
  at_ : v.ownBlock = some g ∨ g = H
theorem Pushed.lt {g cap H : Nat} {ys : List Int} (h : Pushed w w' e k v g cap ys H) : g < w'.heap.size := h.row.lt
theorem Pushed.size {g cap H : Nat} {ys : List Int} (h : Pushed w w' e k v g cap ys H) : w.heap.size ≤ w'.heap.size := h.grown.size
theorem Pushed.block {g cap H : Nat} {ys : List Int} (h : Pushed w w' e k v g cap ys H) {i : Nat} (hi : i < w.heap.size) (hn : v.ownBlock ≠ some i) : w'.heap[i]? = w.heap[i]? := h.grown.block i hi (fun e => hn e.symm)
theorem Pushed.only {g cap H : Nat} {ys : List Int} (h : Pushed w w' e k v g cap ys H) : Only (fun i => v.ownBlock = some i) w w' :=
  ⟨h.grown.os, h.grown.tape, h.grown.output, h.grown.size, fun i hi hn => h.grown.block i hi (fun e => hn e.symm)⟩
end
section
variable {P : Program} {w : World}
theorem wpList_push {ops : Array Oper} {rest : List Oper} {o : Oper} {a : Act} {Q : Exit → Act → World → Prop} (s x : Operand) (t e : TypeId) (k : IntKind) (z : Int) (bytes : Nat) (hgd : o.guard = none)
    (ho : o.op = .call { callee := .builtin .append, args := #[s, x], argTypes := #[t, t] })
    (ht : P.underlying t = some (.slice e)) (hinfo : (P.info? e).map (fun i => (i.zero, i.size, i.bytes)) = some (some (.int k z), 1, bytes))
    (v : Value) (xs : List Int) (n : Nat) (y : Int) (ad : Addr) (H : Nat) (hs : a.eval s = v) (hx : a.eval x = .slice (some ad) 1 1) (hsl : Sl w e k v xs) (hn : xs.length = n) (hc : w.cell? ad = some (.int k y)) (hH : w.heap.size = H)
    (hb : (n + 1) * bytes ≤ 140737488355328) (hm : n < 140737488355328)
    (h : ∀ g cap w', Pushed w w' e k v g cap (xs ++ [y]) H → wpList P ops Q rest (a.put o.dst (.slice (some ⟨g, 0, none⟩) (n + 1) cap)) w') : wpList P ops Q (o :: rest) a w := by
  obtain ⟨i0, hi, hzz⟩ := Option.map_eq_some_iff.1 hinfo
  simp only [Prod.mk.injEq] at hzz
  obtain ⟨hz0, hz1, hz2⟩ := hzz
  subst hn
  refine wpList_append_lies (w := w) hgd s x t ho 0 e i0 (.int k z) 1 bytes ht hi hz0 hz1 hz2 rfl (by decide) v xs.length (xs.map (Value.int k)) hs hsl.owns ad 1 1 [.int k y] hx (by simp) ?_ (by simp [Value.oneCell']) (by decide) (by simp only [maxLen]; omega) hb (Nat.zero_le _) H hH ?_
  · intro j u hj
    match j, hj with
    | 0, hj => simp at hj; subst hj; rw [add_nought]; exact hc
    | j + 1, hj => simp at hj
  · intro g cap w' h1 h2 h3 h4
    refine h g cap w' ⟨RowI.of_owns ?_, h2, h3⟩
    have e1 : (xs ++ [y]).length = xs.length + 1 := by simp
    have e2 : (xs ++ [y]).map (Value.int k) = xs.map (Value.int k) ++ [.int k y] := by simp
    rw [e1, e2]; exact h1
theorem step_push {ops : Array Oper} {o : Oper} {a : Act} {K : Act → World → Prop} {Q : Exit → Act → World → Prop} {E : Prop} (s x : Operand) (t e : TypeId) (k : IntKind) (z : Int) (bytes : Nat) (hgd : o.guard = none)
    (ho : o.op = .call { callee := .builtin .append, args := #[s, x], argTypes := #[t, t] })
    (ht : P.underlying t = some (.slice e)) (hinfo : (P.info? e).map (fun i => (i.zero, i.size, i.bytes)) = some (some (.int k z), 1, bytes))
    (v : Value) (xs : List Int) (n : Nat) (y : Int) (ad : Addr) (H : Nat) (hs : a.eval s = v) (hx : a.eval x = .slice (some ad) 1 1) (hsl : Sl w e k v xs) (hn : xs.length = n) (hc : w.cell? ad = some (.int k y)) (hH : w.heap.size = H)
    (hb : (n + 1) * bytes ≤ 140737488355328) (hm : n < 140737488355328)
    (h : ∀ g cap w', Pushed w w' e k v g cap (xs ++ [y]) H → K (a.put o.dst (.slice (some ⟨g, 0, none⟩) (n + 1) cap)) w') :
    if Region.wanted o (yielded ops a.tmps) = true then Oper.wp P o a w K Q else E := by
  obtain ⟨i0, hi, hzz⟩ := Option.map_eq_some_iff.1 hinfo
  simp only [Prod.mk.injEq] at hzz
  obtain ⟨hz0, hz1, hz2⟩ := hzz
  subst hn
  refine step_append_lies (w := w) hgd s x t ho 0 e i0 (.int k z) 1 bytes ht hi hz0 hz1 hz2 rfl (by decide) v xs.length (xs.map (Value.int k)) hs hsl.owns ad 1 1 [.int k y] hx (by simp) ?_ (by simp [Value.oneCell']) (by decide) (by simp only [maxLen]; omega) hb (Nat.zero_le _) H hH ?_
  · intro j u hj
    match j, hj with
    | 0, hj => simp at hj; subst hj; rw [add_nought]; exact hc
    | j + 1, hj => simp at hj
  · intro g cap w' h1 h2 h3 h4
    refine h g cap w' ⟨RowI.of_owns ?_, h2, h3⟩
    have e1 : (xs ++ [y]).length = xs.length + 1 := by simp
    have e2 : (xs ++ [y]).map (Value.int k) = xs.map (Value.int k) ++ [.int k y] := by simp
    rw [e1, e2]; exact h1
/-- u is a slice of these numbers, wherever they lie. -/
def Src (w : World) (k : IntKind) (u : Value) (ys : List Int) : Prop :=
  ∃ A c, u = .slice A ys.length c ∧ (0 < ys.length → ∃ ad, A = some ad ∧ ∀ j (h : j < ys.length), w.cell? (ad.add j) = some (.int k ys[j]))
theorem Src.of_sl {w : World} {e : TypeId} {k : IntKind} {v : Value} {xs : List Int} (h : Sl w e k v xs) : Src w k v xs := by
  rcases h with ⟨rfl, rfl⟩ | ⟨g, cap, rfl, h⟩
  · exact ⟨none, 0, rfl, fun h => by simp at h⟩
  · refine ⟨_, cap, rfl, fun _ => ⟨_, rfl, fun j hj => ?_⟩⟩
    have e1 : (Addr.add ⟨g, 0, none⟩ j) = ⟨g, j, none⟩ := by unfold Addr.add; split <;> simp_all
    rw [e1]; exact h.cell hj
theorem Src.of_C {w : World} {k : IntKind} {A : Option Addr} {c : Nat} {ys : List Int} (h : (Go.Proofs.YtdekdcleeignoaaDoorW.PrintWords.Kd.int k).C w A ys.length ys) : Src w k (.slice A ys.length c) ys := by
  refine ⟨A, c, rfl, fun h0 => ?_⟩
  obtain ⟨ad, e, _⟩ := cell_C h h0
  subst e
  refine ⟨ad, rfl, fun j hj => ?_⟩
  obtain ⟨ad', e', hc⟩ := cell_C h hj
  injection e' with e'
  subst e'
  exact hc
theorem Src.same {w w' : World} {k : IntKind} {u : Value} {ys : List Int} (h : Src w k u ys) (hs : ∀ g, u.ownBlock = some g → 0 < ys.length → w'.heap[g]? = w.heap[g]?) : Src w' k u ys := by
  obtain ⟨A, c, rfl, h⟩ := h
  refine ⟨A, c, rfl, fun h0 => ?_⟩
  obtain ⟨ad, rfl, hc⟩ := h h0
  refine ⟨ad, rfl, fun j hj => ?_⟩
  rw [← hc j hj]
  exact World.cell?_of_block (by rw [add_block]; exact hs ad.block rfl h0)
theorem Src.drew {w : World} {k : IntKind} {u : Value} {ys : List Int} (h : Src w k u ys) : Src w.drew k u ys := h
theorem Src.lt {w : World} {k : IntKind} {u : Value} {ys : List Int} (h : Src w k u ys) {g : Nat} (hg : u.ownBlock = some g) (h0 : 0 < ys.length) : g < w.heap.size := by
  obtain ⟨A, c, rfl, h⟩ := h
  obtain ⟨ad, rfl, hc⟩ := h h0
  have e : ad.block = g := Option.some.inj hg
  have := World.block_lt_of_cell? w _ (hc 0 h0)
  rw [add_block, e] at this
  exact this
theorem Src.below {w w' : World} {k : IntKind} {u : Value} {ys : List Int} (h : Src w k u ys) (b : Below w.heap.size w w') : Src w' k u ys := h.same fun g hg h0 => b.block g (h.lt hg h0)
/-- Where many are appended. -/
structure Added (w w' : World) (e : TypeId) (k : IntKind) (v v' : Value) (ys : List Int) (H : Nat) : Prop where
  sl : Sl w' e k v' ys
  grown : w.grownBy w' v.ownBlock
  at_ : v'.ownBlock = v.ownBlock ∨ v'.ownBlock = some H
theorem Added.only {w w' : World} {e : TypeId} {k : IntKind} {v v' : Value} {ys : List Int} {H : Nat} (h : Added w w' e k v v' ys H) : Only (fun i => v.ownBlock = some i) w w' :=
  ⟨h.grown.os, h.grown.tape, h.grown.output, h.grown.size, fun i hi hn => h.grown.block i hi (fun e => hn e.symm)⟩
theorem Sl.of_owns {w : World} {e : TypeId} {k : IntKind} {v : Value} {xs : List Int} {n : Nat} (h : w.ownsRow 0 e 1 v n (xs.map (Value.int k))) : Sl w e k v xs := by
  have hn : xs.length = n := by have := h.1; simpa using this
  subst hn
  rcases h.2 with ⟨rfl, h0⟩ | ⟨g, cap, cur, rfl, r⟩
  · exact .inl ⟨rfl, List.eq_nil_of_length_eq_zero h0⟩
  · exact Sl.row (RowI.of_owns h)
theorem run_add (t ty e : TypeId) (k : IntKind) (z : Int) (bytes : Nat) (ht : P.underlying t = some (.slice e)) (hinfo : (P.info? e).map (fun i => (i.zero, i.size, i.bytes)) = some (some (.int k z), 1, bytes))
    (v u : Value) (xs ys : List Int) (hsl : Sl w e k v xs) (hx : Src w k u ys) (hb : (xs.length + ys.length) * bytes ≤ 140737488355328) (hm : xs.length + ys.length ≤ 140737488355328) :
    ∃ v' w', (Builtin.append_ #[t, t] ty #[v, u]).run P w = .ok v' w' ∧ Added w w' e k v v' (xs ++ ys) w.heap.size := by
  obtain ⟨i0, hi, hzz⟩ := Option.map_eq_some_iff.1 hinfo
  simp only [Prod.mk.injEq] at hzz
  obtain ⟨hz0, hz1, hz2⟩ := hzz
  obtain ⟨A, c, rfl, hy⟩ := hx
  by_cases h0 : 0 < ys.length
  · obtain ⟨ad, rfl, hc⟩ := hy h0
    obtain ⟨v', w', h1, h2, h3, _, h5⟩ := run_append_own_at (P := P) w 0 t ty e i0 (.int k z) 1 bytes ht hi hz0 hz1 hz2 rfl (by decide) v xs.length (xs.map (Value.int k)) hsl.owns ad ys.length c (ys.map (Value.int k)) (by simp) (fun j q hj => by
      rw [List.getElem?_map] at hj
      have hjl : j < ys.length := by
        rcases Nat.lt_or_ge j ys.length with h | h
        · exact h
        · rw [List.getElem?_eq_none h] at hj; cases hj
      rw [List.getElem?_eq_getElem hjl] at hj
      rw [hc j hjl]; exact hj) (fun q hq => by obtain ⟨y, _, rfl⟩ := List.mem_map.1 hq; rfl) (by simp only [maxLen]; omega) hb (Nat.zero_le _)
    refine ⟨v', w', h1, ⟨Sl.of_owns (n := xs.length + ys.length) (by rw [List.map_append]; exact h2), h3, h5⟩⟩
  · have hn : ys = [] := List.eq_nil_of_length_eq_zero (by omega)
    subst hn
    rw [List.append_nil]
    have refl : w.grownBy w v.ownBlock := ⟨rfl, rfl, rfl, Nat.le_refl _, fun _ _ _ => rfl⟩
    cases A with
    | none =>
      refine ⟨v, w, ?_, ⟨hsl, refl, .inl rfl⟩⟩
      rcases hsl with ⟨rfl, rfl⟩ | ⟨g, cap, rfl, h⟩
      · simp [Builtin.append_, run_underlying ht, sizeOf, typeInfo, hi, Builtin.lenOf, Builtin.firstCells]
      · simp [Builtin.append_, run_underlying ht, sizeOf, typeInfo, hi, Builtin.lenOf, Builtin.firstCells, h.len.1, storeCells]
    | some ad =>
      obtain ⟨v', w', h1, h2, h3, _, h5⟩ := run_append_own_at (P := P) w 0 t ty e i0 (.int k z) 1 bytes ht hi hz0 hz1 hz2 rfl (by decide) v xs.length (xs.map (Value.int k)) hsl.owns ad 0 c [] (by simp) (fun j q hj => by simp at hj) (fun q hq => by cases hq) (by simp only [maxLen]; omega) (by simpa using hb) (Nat.zero_le _)
      rw [List.append_nil] at h2
      exact ⟨v', w', h1, ⟨Sl.of_owns h2, h3, h5⟩⟩
theorem wpList_add {ops : Array Oper} {rest : List Oper} {o : Oper} {a : Act} {Q : Exit → Act → World → Prop} (s x : Operand) (t e : TypeId) (k : IntKind) (z : Int) (bytes : Nat) (hgd : o.guard = none)
    (ho : o.op = .call { callee := .builtin .append, args := #[s, x], argTypes := #[t, t] })
    (ht : P.underlying t = some (.slice e)) (hinfo : (P.info? e).map (fun i => (i.zero, i.size, i.bytes)) = some (some (.int k z), 1, bytes))
    (v u : Value) (xs ys : List Int) (hs : a.eval s = v) (hx : a.eval x = u) (hsl : Sl w e k v xs) (hsrc : Src w k u ys) (hb : (xs.length + ys.length) * bytes ≤ 140737488355328) (hm : xs.length + ys.length ≤ 140737488355328)
    (h : ∀ v' w', Added w w' e k v v' (xs ++ ys) w.heap.size → wpList P ops Q rest (a.put o.dst v') w') : wpList P ops Q (o :: rest) a w := by
  refine wpList_plain hgd fun K hK => ?_
  obtain ⟨v', w', hr, h2⟩ := run_add (P := P) (w := w) t o.type e k z bytes ht hinfo v u xs ys hsl hsrc hb hm
  unfold Oper.wp execOp
  simp only [ho, resolve, invoke, builtin, Sem.run_bind, Sem.run_pure, Result.andThen_ok, List.map_toArray, List.map_cons, List.map_nil, hs, hx, hr]
  exact hK _ _ (h v' w' h2)
theorem step_add {ops : Array Oper} {o : Oper} {a : Act} {K : Act → World → Prop} {Q : Exit → Act → World → Prop} {E : Prop} (s x : Operand) (t e : TypeId) (k : IntKind) (z : Int) (bytes : Nat) (hgd : o.guard = none)
    (ho : o.op = .call { callee := .builtin .append, args := #[s, x], argTypes := #[t, t] })
    (ht : P.underlying t = some (.slice e)) (hinfo : (P.info? e).map (fun i => (i.zero, i.size, i.bytes)) = some (some (.int k z), 1, bytes))
    (v u : Value) (xs ys : List Int) (hs : a.eval s = v) (hx : a.eval x = u) (hsl : Sl w e k v xs) (hsrc : Src w k u ys) (hb : (xs.length + ys.length) * bytes ≤ 140737488355328) (hm : xs.length + ys.length ≤ 140737488355328)
    (h : ∀ v' w', Added w w' e k v v' (xs ++ ys) w.heap.size → K (a.put o.dst v') w') :
    if Region.wanted o (yielded ops a.tmps) = true then Oper.wp P o a w K Q else E := by
  have hw : Region.wanted o (yielded ops a.tmps) = true := by simp [Region.wanted, hgd]
  rw [if_pos hw]
  obtain ⟨v', w', hr, h2⟩ := run_add (P := P) (w := w) t o.type e k z bytes ht hinfo v u xs ys hsl hsrc hb hm
  unfold Oper.wp execOp
  simp only [ho, resolve, invoke, builtin, Sem.run_bind, Sem.run_pure, Result.andThen_ok, List.map_toArray, List.map_cons, List.map_nil, hs, hx, hr]
  exact h v' w' h2
end
theorem RowI.take {w : World} {e : TypeId} {k : IntKind} {g cap : Nat} {xs : List Int} (h : RowI w e k g cap xs) (n : Nat) : RowI w e k g cap (xs.take n) := by
  obtain ⟨cs, h1, h2, h3, h4, h5⟩ := h
  refine ⟨cs, h1, by rw [List.length_take]; omega, h3, h4, fun i hi => ?_⟩
  rw [List.length_take] at hi
  rw [h5 i (by omega), List.getElem_take]
end Go.Proofs.YtdekdcleeignoaaDoor
