/-
  The walks of the program's encoder: Symbol, Bits, Len; no condition but those told.
-/
import Derived.Test.YtlbjoflmfboeeaaEnp
set_option linter.unusedVariables false
set_option linter.unusedSimpArgs false
namespace Go.Proofs.Ytlbjoflmfboeeaa.Enc
open Go.RowKit Go.Proofs.Ytlbjoflmfboeeaa Go.Proofs.YtlbjoflmfboeeaaW.PrintWords

/-- What a model's part is. -/
theorem may_of {L : List Int} (good : Mdl.Good L) (k : Nat) (hk : k < L.length) : May (Mdl.lsum (L.take k)) (L.getD k 0) (Mdl.lsum L) := by
  have h := good.at hk
  have e : L.getD k 0 = L[k] := by rw [List.getD_eq_getElem?_getD, List.getElem?_eq_getElem hk]; rfl
  rw [e]
  exact ⟨h.2.2, h.1, h.2.1, good.all⟩
/-- The encoder's state behind a model's symbol. -/
def symS (s : St) (L : List Int) (k : Nat) : St := putS s (Mdl.lsum (L.take k)) (L.getD k 0) (Mdl.lsum L)
set_option maxHeartbeats 2000000 in
set_option maxRecDepth 100000 in
theorem Symbol_yes {w : World} {e m h cap : Nat} {s : St} {v : Value} {L : List Int} {f : Bool} (a : Is w e s v) (ok : s.Ready) (small : s.k ≤ 900000000) (b : Mdl.Is w m h cap L f) (good : Mdl.Good L) (k : Nat) (hk : k < L.length)
    (n1 : e ≠ m) (n2 : e ≠ h) (n3 : v.ownBlock ≠ some m) (n4 : v.ownBlock ≠ some h) :
    Calls Try.prog 19 #[.pointer (some ⟨e, 0, none⟩), .pointer (some ⟨m, 0, none⟩), .int .i64 k] w fun en w' => ∃ v', en = .returned (.int .i64 0) ∧ Is w' e (symS s L k) v' ∧ Mdl.Is w' m h cap (Mdl.next f L k) f ∧
      Only (fun i => (i = e ∨ v.ownBlock = some i) ∨ (i = m ∨ i = h)) w w' ∧ (∀ g, v'.ownBlock = some g → v.ownBlock = some g ∨ w.heap.size ≤ g) := by
  have A := Lib.hid a
  have B := Lib.hid b
  have G := Lib.hid good
  have HK := Lib.hid hk
  have MY := Lib.hid (may_of good k hk)
  have RD := Lib.hid ok
  have N3 := Lib.hid n3
  have N4 := Lib.hid n4
  have lm := b.blk.lt
  have lh := b.row.lt
  have le := a.blk.lt
  have HSy : Hid (symS s L k = putS s (Mdl.lsum (L.take k)) (L.getD k 0) (Mdl.lsum L)) := Lib.hid rfl
  have P1 := Lib.hid (Mdl.Part_some b good k hk)
  clear a b good ok hk n3 n4
  generalize Mdl.lsum (L.take k) = lo at *
  generalize L.getD k 0 = ow at *
  generalize Mdl.lsum L = al at *
  unfold Mdl.part at P1
  go_enter Try.func19, Try.ntmps19
  go_wp2_with (first
    | (go_at_call 61; refine P1.out.mono ?_; rintro e1 w1 ⟨rfl, hb1⟩; have hs1 := hb1.size; have HB1 := Lib.hid hb1; clear hb1)
    | (go_at_call 17
       have hb2 : Below w.heap.size w (w1.alloc (.cells #[.int .u32 lo, .int .u32 ow, .int .u32 al] 31)) := HB1.out.alloc hs1 _
       refine (Put_yes (A.out.below hb2) RD.out small lo ow al MY.out).mono ?_
       rintro e2 w2 ⟨v2, rfl, a2, s2⟩
       have A2 := Lib.hid a2
       have S2 := Lib.hid s2
       have O2 : Hid (Only (fun i => (i = e ∨ v.ownBlock = some i) ∨ (i = m ∨ i = h)) w w2) := Lib.hid ((Only.of_below hb2 : Only (fun i => (i = e ∨ v.ownBlock = some i) ∨ (i = m ∨ i = h)) _ _).then s2.only (fun i hi => .inl (.inl hi)))
       have W2 : Hid (∀ g, v2.ownBlock = some g → v.ownBlock = some g ∨ w.heap.size ≤ g) := Lib.hid (fun g hg => (s2.own g hg).imp id (fun hh => Nat.le_trans hb2.size hh))
       have B2 : Hid (Mdl.Is w2 m h cap L f) := Lib.hid ((B.out.only (Only.of_below hb2 : Only (fun _ => False) _ _) (fun x => x) (fun x => x)).only s2.only (fun hh => by rcases hh with hh | hh; exact n1 hh.symm; exact N3.out hh) (fun hh => by rcases hh with hh | hh; exact n2 hh.symm; exact N4.out hh))
       have L2 := s2.only.size
       clear a2 s2 hb2)
    | (go_at_call 62
       refine (Mdl.Learn_any B2.out G.out k HK.out).mono ?_
       rintro e3 w3 ⟨rfl, b3, o3⟩
       have B3 := Lib.hid b3
       have A3 : Hid (Is w3 e (putS s lo ow al) v2) := Lib.hid (A2.out.only o3 (fun hh => by rcases hh with hh | hh; exact n1 hh; exact n2 hh) (fun g hg hh => by
         rcases W2.out g hg with h1 | h1
         · rcases hh with hh | hh
           · subst hh; exact N3.out h1
           · subst hh; exact N4.out h1
         · rcases hh with hh | hh
           · omega
           · omega))
       have O3 : Hid (Only (fun i => (i = e ∨ v.ownBlock = some i) ∨ (i = m ∨ i = h)) w w3) := Lib.hid (O2.out.then o3 (fun i hi => .inl (.inr hi)))
       clear b3 o3))
  go_ret
  rw [HSy.out]
  exact ⟨v2, rfl, A3.out, B3.out, O3.out, W2.out⟩
theorem Symbol_bad {w : World} {e m h cap : Nat} {L : List Int} {f : Bool} (b : Mdl.Is w m h cap L f) (k : Int) (hk : k < 0 ∨ (L.length : Int) ≤ k) :
    Calls Try.prog 19 #[.pointer (some ⟨e, 0, none⟩), .pointer (some ⟨m, 0, none⟩), .int .i64 k] w fun en w' => en = .returned (.int .i64 1) ∧ Below w.heap.size w w' := by
  have P1 := Lib.hid (Mdl.Part_bad b k hk)
  clear b hk
  unfold Mdl.part at P1
  go_enter Try.func19, Try.ntmps19
  go_wp2_with (first
    | (go_at_call 61; refine P1.out.mono ?_; rintro e1 w1 ⟨rfl, hb1⟩; have hs1 := hb1.size; have HB1 := Lib.hid hb1; clear hb1))
  go_ret
  exact ⟨rfl, HB1.out.alloc hs1 _⟩
theorem Symbol_nomodel (e : Nat) (k : Value) (w : World) :
    Calls Try.prog 19 #[.pointer (some ⟨e, 0, none⟩), .pointer none, k] w fun en w' => en = .returned (.int .i64 1) ∧ Below w.heap.size w w' := by
  have P1 := Lib.hid (Mdl.Part_none k w)
  unfold Mdl.part at P1
  go_enter Try.func19, Try.ntmps19
  go_wp2_with (first
    | (go_at_call 61; refine P1.out.mono ?_; rintro e1 w1 ⟨rfl, hb1⟩; have hs1 := hb1.size; have HB1 := Lib.hid hb1; clear hb1))
  go_ret
  exact ⟨rfl, HB1.out.alloc hs1 _⟩
theorem Symbol_none {w : World} {m h cap : Nat} {L : List Int} {f : Bool} (b : Mdl.Is w m h cap L f) (good : Mdl.Good L) (k : Int) :
    Calls Try.prog 19 #[.pointer none, .pointer (some ⟨m, 0, none⟩), .int .i64 k] w fun en w' => en = .returned (.int .i64 1) ∧ Below w.heap.size w w' := by
  have P1 : Hid (Calls Try.prog 61 #[.pointer (some ⟨m, 0, none⟩), .int .i64 k] w fun en w' => ∃ x y z q : Int, en = .returned (.tuple #[.agg #[.int .u32 x, .int .u32 y, .int .u32 z], .int .i64 q]) ∧ Below w.heap.size w w') := by
    apply Lib.hid
    by_cases hk : k < 0 ∨ (L.length : Int) ≤ k
    · refine (Mdl.Part_bad b k hk).mono ?_
      rintro en w' ⟨rfl, hb⟩
      exact ⟨0, 0, 0, 1, rfl, hb⟩
    · obtain ⟨n, rfl⟩ := Int.eq_ofNat_of_zero_le (show 0 ≤ k by omega)
      refine (Mdl.Part_some b good n (by omega)).mono ?_
      rintro en w' ⟨rfl, hb⟩
      exact ⟨_, _, _, 0, rfl, hb⟩
  clear b good
  go_enter Try.func19, Try.ntmps19
  go_wp2_with (first
    | (go_at_call 61; refine P1.out.mono ?_; rintro e1 w1 ⟨x, y, z, q, rfl, hb1⟩; have hs1 := hb1.size; have HB1 := Lib.hid hb1; clear hb1))
  go_ret
  exact ⟨rfl, HB1.out.alloc hs1 _⟩
/-- The encoder's state behind a number's bits. -/
def bitsS (s : St) (n : Int) (w : Nat) : St :=
  if w = 0 then s else if w ≤ 12 then putS s (n % 2 ^ w) 1 (2 ^ w) else putS (putS s (n / 2 ^ (w - 12) % 4096) 1 4096) (n % 2 ^ (w - 12)) 1 (2 ^ (w - 12))
theorem bits_step (t : St) (n : Int) (j i : Nat) (hi : j = i + 12) (h0 : 0 < i) (h12 : i ≤ 12) : bitsS t n j = bitsS (putS t (n / 2 ^ i % 4096) 1 4096) n i := by
  unfold bitsS
  rw [if_neg (by omega), if_neg (by omega), if_neg (by omega), if_pos (by omega), show j - 12 = i from by omega]
theorem bits_last (t : St) (n : Int) (j : Nat) (h0 : 0 < j) (h12 : j ≤ 12) : bitsS t n j = putS t (n % 2 ^ j) 1 (2 ^ j) := by
  unfold bitsS
  rw [if_neg (by omega), if_pos h12]
theorem bits_nought (t : St) (n : Int) : bitsS t n 0 = t := by unfold bitsS; rw [if_pos rfl]
attribute [local irreducible] bitsS putS symS norm shiftS
theorem Is.drew {w : World} {m : Nat} {s : St} {v : Value} (a : Is w m s v) : Is w.drew m s v := ⟨a.blk.drew, a.sl.drew, a.ne⟩
set_option maxHeartbeats 2000000 in
set_option maxRecDepth 100000 in
theorem Bits_yes {w : World} {e : Nat} {s : St} {v : Value} (a : Is w e s v) (ok : s.Ready) (small : s.k ≤ 800000000) (n : Int) (wide : Nat) (h0 : 0 ≤ n) (h1 : n < 2 ^ wide) (h2 : wide ≤ 24) :
    Calls Try.prog 18 #[.pointer (some ⟨e, 0, none⟩), .int .u32 n, .int .i64 wide] w fun en w' => ∃ v', en = .returned (.int .i64 0) ∧ Is w' e (bitsS s n wide) v' ∧ Step e v v' w w' := by
  have nm : min wide 32 = wide := by omega
  have z0 : n / 2 ^ wide = 0 := Int.ediv_eq_zero_of_lt h0 h1
  have z1 : (n / 2 ^ wide == 0) = true := by rw [z0]; rfl
  have z2 : (n / 2 ^ wide != 0) = false := by rw [z0]; rfl
  have y1 : decide ((wide : Int) < 0) = false := decide_eq_false (by omega)
  have y2 : decide ((24 : Int) < (wide : Int)) = false := decide_eq_false (by omega)
  have A := Lib.hid a
  have R0 := Lib.hid ok
  clear a ok
  go_enter Try.func18, Try.ntmps18
  go_wp2
  clear z0 z1 z2 y1 y2 nm
  go_loopw [2] (fun u wr => ∃ (j : Nat) (t : St) (v' : Value), j ≤ 24 ∧ u = .int .i64 (j : Int) ∧ Hid (bitsS t n j = bitsS s n wide) ∧ Hid t.Ready ∧ t.k + 2 * j ≤ 800000048 ∧ Hid (Is wr e t v') ∧ Hid (Step e v v' w wr)) (fun u _ => (intOf u).toNat)
  case atStart => exact ⟨wide, s, v, h2, rfl, rfl, R0, by omega, A, Step.refl e v w⟩
  case round =>
    clear A R0
    obtain ⟨j, t, v', hj, rfl, HN, R0, hkk, A, S0⟩ := hrel
    have hm := A.out.blk.lt
    have u1 : (1 : Int) % 4294967296 = 1 := by decide
    by_cases hc : 12 < j
    · obtain ⟨i, hi⟩ : ∃ i : Nat, j = i + 12 := ⟨j - 12, by omega⟩
      have hji : (j : Int) - 12 = (i : Int) := by omega
      have nm : min i 32 = i := by omega
      have k1 : ¬ ((i : Int) < 0) := by omega
      have k2 : decide ((i : Int) < 0) = false := decide_eq_false k1
      have w1 : IntKind.u32.wrap 4096 = 4096 := by decide
      have w2 : IntKind.u32.wrap 4095 = 4095 := by decide
      have hp : (1 : Int) ≤ 2 ^ i := by have : (0 : Int) < 2 ^ i := Int.pow_pos (by omega); omega
      have hn32 : n < 4294967296 := by
        have : (2 : Int) ^ wide ≤ 2 ^ 24 := by
          have := Nat.pow_le_pow_right (show 0 < 2 by decide) h2
          exact_mod_cast this
        have e24 : (2 : Int) ^ 24 = 16777216 := by decide
        omega
      have hx0 : 0 ≤ n / 2 ^ i := Int.ediv_nonneg h0 (by omega)
      have hx1 : n / 2 ^ i ≤ n := Int.ediv_le_self _ h0
      have em : bits .and .u32 (n / 2 ^ i) 4095 = n / 2 ^ i % 4096 := bits_mask .u32 32 (by decide) wraps_u32 12 (by decide) _ hx0 (by show n / 2 ^ i < 4294967296; omega)
      have MY : Hid (May (n / 2 ^ i % 4096) 1 4096) := Lib.hid ⟨by omega, by omega, by omega, by omega⟩
      have HP := Lib.hid (put_ready R0.out MY.out)
      have HSt := Lib.hid (bits_step t n j i hi (by omega) (by omega))
      clear hi hx0 hx1 hp hn32
      go_wp2
      go_still_tail 11, (by kernel_rfl)
      go_wp2_with (first
        | (go_at_call 17
           refine (Put_yes A.out.drew R0.out (by omega) _ _ _ MY.out).mono ?_
           rintro e4 w4 ⟨v4, rfl, a4, s4⟩
           have A4 := Lib.hid a4
           have S4 := Lib.hid s4
           clear a4 s4))
      go_roundw
      case rel => exact ⟨i, putS t (n / 2 ^ i % 4096) 1 4096, v4, by omega, rfl, HSt.out.symm.trans HN.out, HP.out.1, by have := HP.out.2.2; omega, A4, S0.out.drew.trans S4.out⟩
      case measure => simp [intOf]; omega
    · by_cases hz : 0 < j
      · have m1 : min (j : Int) 12 = (j : Int) := by omega
        have m2 : mn (j : Int) 12 = (j : Int) := by unfold mn; omega
        have hp : (1 : Int) ≤ 2 ^ j ∧ (2 : Int) ^ j ≤ 4096 := by
          have h3 : (0 : Int) < 2 ^ j := Int.pow_pos (by omega)
          have h4 := Nat.pow_le_pow_right (show 0 < 2 by decide) (show j ≤ 12 by omega)
          have h5 : (2 : Int) ^ j ≤ 2 ^ 12 := by exact_mod_cast h4
          have e12 : (2 : Int) ^ 12 = 4096 := by decide
          omega
        have hn32 : n < 4294967296 := by
          have h4 := Nat.pow_le_pow_right (show 0 < 2 by decide) h2
          have h5 : (2 : Int) ^ wide ≤ 2 ^ 24 := by exact_mod_cast h4
          have e24 : (2 : Int) ^ 24 = 16777216 := by decide
          omega
        have w1 : IntKind.u32.wrap (2 ^ j) = 2 ^ j := wraps_u32 _ (by omega) (by omega)
        have w2 : IntKind.u32.wrap (2 ^ j - 1) = 2 ^ j - 1 := wraps_u32 _ (by omega) (by omega)
        have em : bits .and .u32 n (2 ^ j - 1) = n % 2 ^ j := bits_mask .u32 32 (by decide) wraps_u32 j (by show j ≤ 32; omega) _ h0 (by show n < 4294967296; omega)
        have hq0 := Int.emod_nonneg n (show (2 : Int) ^ j ≠ 0 by omega)
        have hq1 := Int.emod_lt_of_pos n (show (0 : Int) < 2 ^ j by omega)
        have MY : Hid (May (n % 2 ^ j) 1 (2 ^ j)) := Lib.hid ⟨hq0, by omega, by omega, by omega⟩
        have HP := Lib.hid (put_ready R0.out MY.out)
        have HSt := Lib.hid (bits_last t n j hz (by omega))
        have k4 : ¬ ((j : Int) < 0) := by omega
        have k5 : decide ((j : Int) < 0) = false := decide_eq_false k4
        clear hq0 hq1 hp hn32
        go_wp2
        go_still_tail 11, (by kernel_rfl)
        go_wp2_with (first
          | (go_at_call 17
             refine (Put_yes A.out.drew R0.out (by omega) _ _ _ MY.out).mono ?_
             rintro e4 w4 ⟨v4, rfl, a4, s4⟩
             have A4 := Lib.hid a4
             have S4 := Lib.hid s4
             clear a4 s4))
        go_roundw
        case rel => exact ⟨0, putS t (n % 2 ^ j) 1 (2 ^ j), v4, by omega, rfl, (bits_nought _ _).trans (HSt.out.symm.trans HN.out), HP.out.1, by have := HP.out.2.2; omega, A4, S0.out.drew.trans S4.out⟩
        case measure => simp [intOf]; omega
      · obtain rfl : j = 0 := by omega
        rw [bits_nought] at HN
        have HN2 := HN.out.symm
        have HF := Lib.hid HN2
        clear HN HN2
        go_wp2
        go_ret
        rw [HF.out]
        exact ⟨v', rfl, A.out, S0.out⟩
theorem Bits_none (n wide : Value) (w : World) : Calls Try.prog 18 #[.pointer none, n, wide] w fun en w' => en = .returned (.int .i64 1) ∧ w' = w := by
  go_enter Try.func18, Try.ntmps18
  go_wp2
  go_ret
  exact ⟨rfl, rfl⟩
theorem Bits_bad (e : Nat) (n : Int) (wide : Int) (h0 : 0 ≤ n) (hb : wide < 0 ∨ 24 < wide ∨ (2 : Int) ^ wide.toNat ≤ n) (w : World) :
    Calls Try.prog 18 #[.pointer (some ⟨e, 0, none⟩), .int .u32 n, .int .i64 wide] w fun en w' => en = .returned (.int .i64 1) ∧ w' = w := by
  by_cases h1 : wide < 0
  · clear hb
    go_enter Try.func18, Try.ntmps18
    go_wp2
    go_ret
    exact ⟨rfl, rfl⟩
  by_cases h2 : 24 < wide
  · clear hb
    go_enter Try.func18, Try.ntmps18
    go_wp2
    go_ret
    exact ⟨rfl, rfl⟩
  obtain ⟨k, rfl⟩ := Int.eq_ofNat_of_zero_le (show 0 ≤ wide by omega)
  have h3 : (2 : Int) ^ k ≤ n := by
    rcases hb with h | h | h
    · omega
    · omega
    · simpa using h
  have nm : min k 32 = k := by omega
  have hp : (0 : Int) < 2 ^ k := Int.pow_pos (by omega)
  have z0 : ¬ (n / 2 ^ k = 0) := by
    have : 1 ≤ n / 2 ^ k := (Int.le_ediv_iff_mul_le hp).2 (by omega)
    omega
  have z1 : (n / 2 ^ k == 0) = false := by rw [beq_eq_false_iff_ne]; exact z0
  have z2 : (n / 2 ^ k != 0) = true := by rw [bne_iff_ne]; exact z0
  clear hb h3 hp
  go_enter Try.func18, Try.ntmps18
  go_wp2
  go_ret
  exact ⟨rfl, rfl⟩
end Go.Proofs.Ytlbjoflmfboeeaa.Enc
