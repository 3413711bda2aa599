/-
  Rows of any values that grow. Words over the worlds; no condition but those told.
-/
import Derived.Test.YtdekdcleeignoaaU7
import Derived.Maps.AppendAt
set_option linter.unusedVariables false
set_option linter.unusedSimpArgs false
namespace Go.Proofs.Ytdekdcleeignoaa
open Go.RowKit Go.Proofs.YtdekdcleeignoaaW.PrintWords
/-- A slice that owns its block, or is nil: of elements of some cells each. -/
def vsA (t : TypeId) (size : Nat) (v : Value) (n : Nat) (xs : List Value) : Ast where
  holds w F := w.ownsRow 0 t size v n xs ∧ F = fun i => v.ownBlock = some i
  lt := fun ⟨h, e⟩ hk => by subst e; exact (h.lt _ hk).2
  move := fun ⟨h, e⟩ hs => by
    subst e
    refine ⟨⟨h.1, ?_⟩, rfl⟩
    rcases h.2 with hn | ⟨g, cap, cur, rfl, hb, hg, rest⟩
    · exact .inl hn
    · exact .inr ⟨g, cap, cur, rfl, hb, (hs g rfl).trans hg, rest⟩
theorem ownsRow_of_same {w w' : World} {t : TypeId} {size : Nat} {v : Value} {n : Nat} {xs : List Value} (h : w.ownsRow 0 t size v n xs) (hs : ∀ g, v.ownBlock = some g → w'.heap[g]? = w.heap[g]?) : w'.ownsRow 0 t size v n xs := by
  refine ⟨h.1, ?_⟩
  rcases h.2 with hn | ⟨g, cap, cur, rfl, hb, hg, rest⟩
  · exact .inl hn
  · exact .inr ⟨g, cap, cur, rfl, hb, (hs g rfl).trans hg, rest⟩
theorem Hp.vs {W w : World} {l : List Ast} {t : TypeId} {size : Nat} {v : Value} {n : Nat} {xs : List Value} (h : Hp W w (vsA t size v n xs :: l)) : w.ownsRow 0 t size v n xs := by obtain ⟨F, h1, _⟩ := h.open1; exact h1.1
theorem Hp.vs_nil {W w : World} {l : List Ast} (h : Hp W w l) (t : TypeId) (size : Nat) : Hp W w (vsA t size (.slice none 0 0) 0 [] :: l) :=
  h.new (Below.refl _ _) (A' := vsA t size (.slice none 0 0) 0 []) ⟨World.ownsRow_nil _ _ _ _, rfl⟩ (fun i e => by cases e)
theorem ownsRow_form {w : World} {t : TypeId} {size : Nat} {v : Value} {n : Nat} {xs : List Value} (h : w.ownsRow 0 t size v n xs) : ∃ A cap, v = .slice A n cap ∧ n ≤ cap := by
  rcases h.2 with ⟨rfl, rfl⟩ | ⟨g, cap, cur, rfl, _, _, h1, _⟩
  · exact ⟨_, _, rfl, Nat.le_refl _⟩
  · exact ⟨_, _, rfl, h1⟩
theorem ownsRow_some {w : World} {t : TypeId} {size : Nat} {v : Value} {n : Nat} {xs : List Value} (h : w.ownsRow 0 t size v n xs) (hn : 0 < n) : ∃ g cap, v = .slice (some ⟨g, 0, none⟩) n cap ∧ n ≤ cap ∧ ∀ j u, xs[j]? = some u → w.cell? ⟨g, j, none⟩ = some u := by
  have hc := fun g (hg : v.ownBlock = some g) => h.cells hg
  rcases h.2 with ⟨rfl, rfl⟩ | ⟨g, cap, cur, rfl, _, _, h1, _⟩
  · omega
  · refine ⟨g, cap, rfl, h1, fun j u hu => ?_⟩
    have := hc g rfl j u hu
    have e1 : (Addr.add ⟨g, 0, none⟩ j) = ⟨g, j, none⟩ := by unfold Addr.add; split <;> simp_all
    rw [← e1]; exact this
/-- A slice that may be read: its cells. -/
def SrcV (w : World) (u : Value) (m size : Nat) (ys : List Value) : Prop :=
  ∃ A c, u = .slice A m c ∧ ys.length = m * size ∧ (0 < m → ∃ ad, A = some ad ∧ ∀ j y, ys[j]? = some y → w.cell? (ad.add j) = some y)
theorem SrcV.of_own {w : World} {t : TypeId} {size : Nat} {v : Value} {n : Nat} {xs : List Value} (h : w.ownsRow 0 t size v n xs) : SrcV w v n size xs := by
  have hc := fun g (hg : v.ownBlock = some g) => h.cells hg
  have h1 := h.1
  rcases h.2 with ⟨rfl, rfl⟩ | ⟨g, cap, cur, rfl, _⟩
  · exact ⟨none, 0, rfl, h1, fun h => by omega⟩
  · exact ⟨_, cap, rfl, h1, fun _ => ⟨_, rfl, hc g rfl⟩⟩
theorem SrcV.nil (w : World) (size : Nat) : SrcV w (.slice none 0 0) 0 size [] := ⟨none, 0, rfl, by simp, fun h => by omega⟩
/-- A row just built. -/
theorem SrcV.built (w : World) (t : TypeId) (cs : List Value) (m size c : Nat) (hl : cs.length = m * size) : SrcV (w.alloc (.cells cs.toArray t)) (.slice (some ⟨w.heap.size, 0, none⟩) m c) m size cs := by
  refine ⟨_, c, rfl, hl, fun _ => ⟨_, rfl, fun j y hy => ?_⟩⟩
  have e1 : (Addr.add ⟨w.heap.size, 0, none⟩ j) = ⟨w.heap.size, j, none⟩ := by unfold Addr.add; split <;> simp_all
  rw [e1]
  exact (Blk.new w t cs.toArray).cell (by simpa using hy)
/-- Where many are appended. -/
structure AddedV (w w' : World) (e : TypeId) (size : Nat) (v v' : Value) (n : Nat) (ys : List Value) (H : Nat) : Prop where
  own : w'.ownsRow 0 e size v' n ys
  grown : w.grownBy w' v.ownBlock
  at_ : v'.ownBlock = v.ownBlock ∨ v'.ownBlock = some H
section
variable {P : Program} {w : World}
theorem AddedV.only {w w' : World} {e : TypeId} {size n : Nat} {v v' : Value} {ys : List Value} {H : Nat} (h : AddedV w w' e size v v' n ys H) : Only (fun i => v.ownBlock = some i) w w' :=
  ⟨h.grown.os, h.grown.tape, h.grown.output, h.grown.size, fun i hi hn => h.grown.block i hi (fun e => hn e.symm)⟩
theorem run_addV (t ty e : TypeId) (z : Value) (size bytes : Nat) (ht : P.underlying t = some (.slice e)) (hinfo : (P.info? e).map (fun i => (i.zero, i.size, i.bytes)) = some (some z, size, bytes)) (hzs : z.cells.size = size) (hsz : 0 < size)
    (v u : Value) (n m : Nat) (xs ys : List Value) (hsl : w.ownsRow 0 e size v n xs) (hx : SrcV w u m size ys) (h1 : ∀ u ∈ ys, u.oneCell' = true) (hb : (n + m) * bytes ≤ 140737488355328) (hm : n + m ≤ 140737488355328) :
    ∃ v' w', (Builtin.append_ #[t, t] ty #[v, u]).run P w = .ok v' w' ∧ AddedV w w' e size v v' (n + m) (xs ++ ys) w.heap.size := by
  obtain ⟨i0, hi, hzz⟩ := Option.map_eq_some_iff.1 hinfo
  simp only [Prod.mk.injEq] at hzz
  obtain ⟨hz0, hz1, hz2⟩ := hzz
  obtain ⟨A, c, rfl, hyl, hy⟩ := hx
  by_cases h0 : 0 < m
  · obtain ⟨ad, rfl, hc⟩ := hy h0
    obtain ⟨v', w', h1, h2, h3, _, h5⟩ := run_append_own_at (P := P) w 0 t ty e i0 z size bytes ht hi hz0 hz1 hz2 hzs hsz v n xs hsl ad m c ys hyl hc h1 (by simp only [maxLen]; omega) hb (Nat.zero_le _)
    exact ⟨v', w', h1, ⟨h2, h3, h5⟩⟩
  · obtain rfl : m = 0 := by omega
    have hn : ys = [] := List.eq_nil_of_length_eq_zero (by omega)
    subst hn
    rw [List.append_nil, Nat.add_zero]
    have refl : w.grownBy w v.ownBlock := ⟨rfl, rfl, rfl, Nat.le_refl _, fun _ _ _ => rfl⟩
    cases A with
    | none =>
      refine ⟨v, w, ?_, ⟨hsl, refl, .inl rfl⟩⟩
      rcases hsl.2 with ⟨rfl, rfl⟩ | ⟨g, cap, cur, rfl, _, _, h2, _⟩
      · simp [Builtin.append_, run_underlying ht, sizeOf, typeInfo, hi, Builtin.lenOf, Builtin.firstCells]
      · simp [Builtin.append_, run_underlying ht, sizeOf, typeInfo, hi, Builtin.lenOf, Builtin.firstCells, h2, storeCells]
    | some ad =>
      obtain ⟨v', w', h1, h2, h3, _, h5⟩ := run_append_own_at (P := P) w 0 t ty e i0 z size bytes ht hi hz0 hz1 hz2 hzs hsz v n xs hsl ad 0 c [] (by simp) (fun j q hj => by simp at hj) (fun q hq => by cases hq) (by simp only [maxLen]; omega) (by simpa using hb) (Nat.zero_le _)
      rw [List.append_nil] at h2
      exact ⟨v', w', h1, ⟨h2, h3, h5⟩⟩
theorem wpList_addV {ops : Array Oper} {rest : List Oper} {o : Oper} {a : Act} {Q : Exit → Act → World → Prop} (s x : Operand) (t e : TypeId) (z : Value) (size bytes : Nat) (hgd : o.guard = none)
    (ho : o.op = .call { callee := .builtin .append, args := #[s, x], argTypes := #[t, t] })
    (ht : P.underlying t = some (.slice e)) (hinfo : (P.info? e).map (fun i => (i.zero, i.size, i.bytes)) = some (some z, size, bytes)) (hzs : z.cells.size = size) (hsz : 0 < size)
    (v u : Value) (n m : Nat) (xs ys : List Value) (hs : a.eval s = v) (hx : a.eval x = u) (hsl : w.ownsRow 0 e size v n xs) (hsrc : SrcV w u m size ys) (h1 : ∀ u ∈ ys, u.oneCell' = true) (hb : (n + m) * bytes ≤ 140737488355328) (hm : n + m ≤ 140737488355328)
    (h : ∀ v' w', AddedV w w' e size v v' (n + m) (xs ++ ys) w.heap.size → wpList P ops Q rest (a.put o.dst v') w') : wpList P ops Q (o :: rest) a w := by
  refine wpList_plain hgd fun K hK => ?_
  obtain ⟨v', w', hr, h2⟩ := run_addV (P := P) (w := w) t o.type e z size bytes ht hinfo hzs hsz v u n m xs ys hsl hsrc h1 hb hm
  unfold Oper.wp execOp
  simp only [ho, resolve, invoke, builtin, Sem.run_bind, Sem.run_pure, Result.andThen_ok, List.map_toArray, List.map_cons, List.map_nil, hs, hx, hr]
  exact hK _ _ (h v' w' h2)
theorem step_addV {ops : Array Oper} {o : Oper} {a : Act} {K : Act → World → Prop} {Q : Exit → Act → World → Prop} {E : Prop} (s x : Operand) (t e : TypeId) (z : Value) (size bytes : Nat) (hgd : o.guard = none)
    (ho : o.op = .call { callee := .builtin .append, args := #[s, x], argTypes := #[t, t] })
    (ht : P.underlying t = some (.slice e)) (hinfo : (P.info? e).map (fun i => (i.zero, i.size, i.bytes)) = some (some z, size, bytes)) (hzs : z.cells.size = size) (hsz : 0 < size)
    (v u : Value) (n m : Nat) (xs ys : List Value) (hs : a.eval s = v) (hx : a.eval x = u) (hsl : w.ownsRow 0 e size v n xs) (hsrc : SrcV w u m size ys) (h1 : ∀ u ∈ ys, u.oneCell' = true) (hb : (n + m) * bytes ≤ 140737488355328) (hm : n + m ≤ 140737488355328)
    (h : ∀ v' w', AddedV w w' e size v v' (n + m) (xs ++ ys) w.heap.size → K (a.put o.dst v') w') :
    if Region.wanted o (yielded ops a.tmps) = true then Oper.wp P o a w K Q else E := by
  have hw : Region.wanted o (yielded ops a.tmps) = true := by simp [Region.wanted, hgd]
  rw [if_pos hw]
  obtain ⟨v', w', hr, h2⟩ := run_addV (P := P) (w := w) t o.type e z size bytes ht hinfo hzs hsz v u n m xs ys hsl hsrc h1 hb hm
  unfold Oper.wp execOp
  simp only [ho, resolve, invoke, builtin, Sem.run_bind, Sem.run_pure, Result.andThen_ok, List.map_toArray, List.map_cons, List.map_nil, hs, hx, hr]
  exact h v' w' h2
end
theorem Hp.addedV {W w w' : World} {l : List Ast} {t : TypeId} {size n m : Nat} {v v' : Value} {xs ys : List Value} {H : Nat} (h : Hp W w (vsA t size v n xs :: l)) (a : AddedV w w' t size v v' m ys H) (hH : w.heap.size ≤ H) : Hp W w' (vsA t size v' m ys :: l) :=
  h.turn fun F ⟨h1, h2⟩ => ⟨by subst h2; exact a.only, _, ⟨a.own, rfl⟩, fun i e => by
    subst h2
    rcases a.at_ with hv | hv
    · left; show v.ownBlock = some i; rw [← hv]; exact e
    · right
      have : some i = some H := by rw [← hv]; exact e.symm
      injection this with this
      omega⟩
/-- An object that holds beside one that is turned where it stands. -/
theorem Ast.keep_only {A : Ast} {w w' : World} {F S : Nat → Prop} (h : A.holds w F) (o : Only S w w') (hn : ∀ k, F k → ¬ S k) : A.holds w' F := A.move h fun k hk => o.block k (A.lt h hk) (hn k hk)
end Go.Proofs.Ytdekdcleeignoaa
