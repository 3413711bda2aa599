/-
  Words: noughts appended to a slice that owns its block ('append(x, make([]T, n)...)'). Plain theorems; no condition.
-/
import Derived.Test.YtdekdcleeignoaaDoorU3
import Derived.Lib.AppendZerosOnto
set_option linter.unusedVariables false
namespace Go.Proofs.YtdekdcleeignoaaDoor
open Go.RowKit

theorem zeroCells_list (z : Value) (n : Nat) : Builtin.zeroCells #[z] n = (List.replicate n z).toArray := by
  apply Array.ext
  · simp [Builtin.zeroCells]
  · intro i h1 h2
    simp [Builtin.zeroCells, Nat.mod_one]
section
variable {P : Program} {w : World}
theorem run_zeros (t tn ty e : TypeId) (k kq kn : IntKind) (bytes : Nat) (ht : P.underlying t = some (.slice e)) (htn : P.underlying tn = some (.int kn)) (hinfo : (P.info? e).map (fun i => (i.zero, i.size, i.bytes)) = some (some (.int k 0), 1, bytes))
    (v : Value) (xs : List Int) (n : Nat) (hsl : Sl w e k v xs) (hb : (xs.length + n) * bytes ≤ 140737488355328) (hm : xs.length + n ≤ 140737488355328) :
    ∃ v' w', (Builtin.append_ #[t, tn] ty #[v, .int kq n]).run P w = .ok v' w' ∧ Added w w' e k v v' (xs ++ List.replicate n 0) w.heap.size := by
  obtain ⟨i0, hi, hzz⟩ := Option.map_eq_some_iff.1 hinfo
  simp only [Prod.mk.injEq] at hzz
  obtain ⟨hz0, hz1, hz2⟩ := hzz
  have hmap : (xs ++ List.replicate n 0).map (Value.int k) = xs.map (Value.int k) ++ List.replicate n (.int k 0) := by simp
  have hzc : (Value.int k 0).cells = #[.int k 0] := rfl
  have hnb : n * bytes ≤ 140737488355328 := by
    have := Nat.mul_le_mul_right bytes (show n ≤ xs.length + n by omega)
    omega
  have hw : IntKind.i64.wrap (n : Int) = n := by rw [IntKind.wrap_i64]; omega
  have refl : w.grownBy w v.ownBlock := ⟨rfl, rfl, rfl, Nat.le_refl _, fun _ _ _ => rfl⟩
  have hlen : (xs.map (Value.int k) ++ List.replicate n (Value.int k 0)).length = (xs.length + n) * 1 := by simp
  have grown : ∀ (old : Nat), old < xs.length + n → ∀ (row : Option Nat),
      (w.drew.alloc (.cells ((xs.map (Value.int k)).toArray ++ Builtin.zeroCells #[.int k 0] n ++ Builtin.zeroCells #[.int k 0] (grownCap w (xs.length + n) old e - (xs.length + n))) e)).ownsRow 0 e 1
        (.slice (some ⟨w.heap.size, 0, none⟩) (xs.length + n) (grownCap w (xs.length + n) old e)) (xs.length + n) (xs.map (Value.int k) ++ List.replicate n (Value.int k 0)) ∧
      w.grownBy (w.drew.alloc (.cells ((xs.map (Value.int k)).toArray ++ Builtin.zeroCells #[.int k 0] n ++ Builtin.zeroCells #[.int k 0] (grownCap w (xs.length + n) old e - (xs.length + n))) e)) row := by
    intro old ho row
    have hge := grownCap_ge w (xs.length + n) old e
    have hcm : grownCap w (xs.length + n) old e ≤ maxLen := grownCap_le_maxLen w (xs.length + n) old e (by simp only [maxLen]; omega)
    refine ⟨⟨hlen, .inr ⟨w.heap.size, _, _, rfl, Nat.zero_le _, heap_alloc_new w.drew _, hge, hcm, ?_, ?_⟩⟩, ⟨rfl, rfl, rfl, by simp, fun i hi _ => heap_alloc_old w.drew _ hi⟩⟩
    · simp only [Array.size_append, List.size_toArray, size_zeroCells, List.length_map, List.size_toArray, List.length_singleton]
      simp
      omega
    · rw [zeroCells_list (.int k 0) n]
      simp only [Array.toList_append, List.append_assoc]
      rw [← List.append_assoc, ← hlen]
      exact List.take_left
  by_cases h0 : n = 0
  · subst h0
    rw [show (List.replicate 0 (0 : Int)) = [] from rfl, List.append_nil]
    refine ⟨v, w, ?_, ⟨hsl, refl, .inl rfl⟩⟩
    rcases hsl with ⟨rfl, rfl⟩ | ⟨g, cap, rfl, h⟩
    · simp [Builtin.append_, run_underlying ht, run_underlying htn, sizeOf, typeInfo, hi, asInt, asIntOf, IntKind.wrap_i64, zeroValue, hz0]
    · simp [Builtin.append_, run_underlying ht, run_underlying htn, sizeOf, typeInfo, hi, asInt, asIntOf, IntKind.wrap_i64, zeroValue, hz0, h.len.1, storeCells]
  · rcases hsl.owns with ⟨hl0, hform⟩
    rcases hsl with ⟨rfl, rfl⟩ | ⟨g, cap, rfl, h⟩
    · have hr := Lib.run_append_nil_zeros (P := P) w t tn ty e i0 (.int k 0) kq kn ht htn hi hz0 n (by omega) (by omega) (by omega) (by rw [hz2]; omega)
      have hgr := grown 0 (by simp; omega) (Value.ownBlock (.slice none 0 0))
      simp only [List.length_nil, Nat.zero_add, List.map_nil, List.nil_append, Array.empty_append] at hgr
      rw [hzc] at hr
      exact ⟨_, _, hr, ⟨Sl.of_owns (n := n) (by simpa using hgr.1), hgr.2, .inr rfl⟩⟩
    · by_cases hroom : xs.length + n ≤ cap
      · obtain ⟨cur, hg, h1, h2, h3, h4⟩ := h
        have hst := run_storeCells_at P g (xs.length * 1) e (List.replicate n (.int k 0)) 0 cur w hg (by simp; omega) (fun u hu => by rw [List.eq_of_mem_replicate hu]; rfl)
        simp only [Nat.add_zero] at hst
        have htake : cur.toList.take (xs.length * 1) = xs.map (Value.int k) := by
          rcases hform with ⟨hx, _⟩ | ⟨g', cap', cur', hx, _, hb', _, _, _, h5⟩
          · cases hx
          · injection hx with hx _ _
            injection hx with hx
            injection hx with hx
            subst hx
            rw [hg] at hb'
            injection hb' with hb'
            injection hb' with hb'
            subst hb'
            exact h5
        have hr : (Builtin.append_ #[t, tn] ty #[.slice (some ⟨g, 0, none⟩) xs.length cap, .int kq n]).run P w =
            .ok (.slice (some ⟨g, 0, none⟩) (xs.length + n) cap) (w.setRow g (cur.toList.take (xs.length * 1) ++ List.replicate n (Value.int k 0) ++ cur.toList.drop (xs.length * 1 + (List.replicate n (Value.int k 0)).length)).toArray) := by
          have hneg : ¬ ((n : Int) < 0) := by omega
          have h48i : ¬ (281474976710656 < (n : Int) * (i0.bytes : Int)) := by
            rw [← Int.natCast_mul, hz2]
            omega
          rw [Nat.mul_one] at hst ⊢
          simp [Builtin.append_, run_underlying ht, run_underlying htn, sizeOf, typeInfo, zeroValue, hi, hz0, hz1, asInt, asIntOf, hw, hneg, h48i, hroom, h0, Addr.add_lit]
          simp at hst
          have hzl : (Builtin.zeroCells (Value.int k 0).cells n).toList = List.replicate n (Value.int k 0) := by rw [hzc, zeroCells_list]
          rw [hzl, hst]
          simp
        refine ⟨_, _, hr, ⟨Sl.of_owns (n := xs.length + n) ?_, ⟨rfl, rfl, rfl, by simp, fun k _ hk => setRow_other w g k _ (fun e => hk (by simp [Value.ownBlock, e]))⟩, .inl rfl⟩⟩
        rw [hmap]
        refine ⟨hlen, .inr ⟨g, cap, _, rfl, Nat.zero_le _, setRow_heap w g cur _ e _ hg, hroom, h2, ?_, ?_⟩⟩
        · simp only [List.size_toArray, List.length_append, List.length_take, List.length_drop, Array.length_toList, List.length_replicate]
          omega
        · rw [htake, ← hlen]
          exact List.take_left
      · have holds : ∀ j u, (xs.map (Value.int k))[j]? = some u → w.drew.cell? ((⟨g, 0, none⟩ : Addr).add j) = some u := by
          have hown := (Sl.row h).owns
          exact hown.cells (g := g) rfl
        have hold := run_firstCells_some (P := P) w.drew 1 xs.length ⟨g, 0, none⟩ xs.length cap (xs.map (Value.int k)) (by simp) holds
        have hr := Lib.run_append_grow_zeros (P := P) w t tn ty e i0 (.int k 0) kq kn ht htn hi hz0 (some ⟨g, 0, none⟩) xs.length cap (xs.map (Value.int k)) (by rw [hz1]; exact hold) n (by omega) (by omega) (by omega) (by omega) (by rw [hz2]; omega)
          (by rw [hz2]; exact growslice_fits (by omega) hb)
        have hgr := grown cap (by omega) (Value.ownBlock (.slice (some ⟨g, 0, none⟩) xs.length cap))
        rw [hzc] at hr
        exact ⟨_, _, hr, ⟨Sl.of_owns (n := xs.length + n) (by rw [hmap]; exact hgr.1), hgr.2, .inr rfl⟩⟩
theorem wpList_zeros {ops : Array Oper} {rest : List Oper} {o : Oper} {a : Act} {Q : Exit → Act → World → Prop} (s x : Operand) (t tn e : TypeId) (k kq kn : IntKind) (bytes : Nat) (hgd : o.guard = none)
    (ho : o.op = .call { callee := .builtin .append, args := #[s, x], argTypes := #[t, tn] })
    (ht : P.underlying t = some (.slice e)) (htn : P.underlying tn = some (.int kn)) (hinfo : (P.info? e).map (fun i => (i.zero, i.size, i.bytes)) = some (some (.int k 0), 1, bytes))
    (v : Value) (xs : List Int) (n : Nat) (hs : a.eval s = v) (hx : a.eval x = .int kq n) (hsl : Sl w e k v xs) (hb : (xs.length + n) * bytes ≤ 140737488355328) (hm : xs.length + n ≤ 140737488355328)
    (h : ∀ v' w', Added w w' e k v v' (xs ++ List.replicate n 0) w.heap.size → wpList P ops Q rest (a.put o.dst v') w') : wpList P ops Q (o :: rest) a w := by
  refine wpList_plain hgd fun K hK => ?_
  obtain ⟨v', w', hr, h2⟩ := run_zeros (P := P) (w := w) t tn o.type e k kq kn bytes ht htn hinfo v xs n hsl hb hm
  unfold Oper.wp execOp
  simp only [ho, resolve, invoke, builtin, Sem.run_bind, Sem.run_pure, Result.andThen_ok, List.map_toArray, List.map_cons, List.map_nil, hs, hx, hr]
  exact hK _ _ (h v' w' h2)
end
end Go.Proofs.YtdekdcleeignoaaDoor
