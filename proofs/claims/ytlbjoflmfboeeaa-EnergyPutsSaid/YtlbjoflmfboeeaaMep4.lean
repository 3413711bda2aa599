/- Texts of this session, merged. -/
import Derived.Test.YtlbjoflmfboeeaaMep3
import Derived.Test.YtlbjoflmfboeeaaU1
import Derived.Test.YtlbjoflmfboeeaaPLen32x1
import Derived.Test.YtlbjoflmfboeeaaPQuantNearx1
/-
  Encoders, decoders and models as objects that lie apart, and their functions' walks told over these. Plain theorems; no condition but those told.
-/
set_option linter.unusedVariables false
set_option linter.unusedSimpArgs false
namespace Go.Proofs.Ytlbjoflmfboeeaa
open Go.RowKit Go.Proofs.YtlbjoflmfboeeaaW.PrintWords

/-- The program's encoder. -/
def encA (e : Nat) (s : Enc.St) : Ast where
  holds w F := ∃ v, Enc.Is w e s v ∧ F = fun i => i = e ∨ v.ownBlock = some i
  lt := fun ⟨v, h, e⟩ hk => by
    subst e
    rcases hk with hk | hk
    · subst hk; exact h.blk.lt
    · exact h.sl.lt hk
  move := fun ⟨v, h, e⟩ hs => by
    subst e
    exact ⟨v, ⟨h.blk.of_same (hs _ (.inl rfl)), h.sl.of_same fun g hg => hs g (.inr hg), h.ne⟩, rfl⟩
/-- The document's encoder. -/
def rencA (e : Nat) (R : Enc.RSt) : Ast where
  holds w F := ∃ g cap, Enc.RIs w e R g cap ∧ F = fun i => i = e ∨ i = g
  lt := fun ⟨g, cap, h, e⟩ hk => by
    subst e
    rcases hk with hk | hk
    · subst hk; exact h.blk.lt
    · subst hk; exact h.row.lt
  move := fun ⟨g, cap, h, e⟩ hs => by
    subst e
    exact ⟨g, cap, ⟨h.blk.of_same (hs _ (.inl rfl)), h.row.of_same (hs _ (.inr rfl)), h.ne⟩, rfl⟩
/-- The program's model. -/
def mdlA (m : Nat) (L : List Int) (f : Bool) : Ast where
  holds w F := ∃ h cap, Mdl.Is w m h cap L f ∧ F = fun i => i = m ∨ i = h
  lt := fun ⟨g, cap, h, e⟩ hk => by
    subst e
    rcases hk with hk | hk
    · subst hk; exact h.blk.lt
    · subst hk; exact h.row.lt
  move := fun ⟨g, cap, h, e⟩ hs => by
    subst e
    exact ⟨g, cap, ⟨h.blk.of_same (hs _ (.inl rfl)), h.row.of_same (hs _ (.inr rfl)), h.ne⟩, rfl⟩
/-- The document's model. -/
def rmdlA (m : Nat) (L : List Int) (f : Bool) : Ast where
  holds w F := ∃ h cap, Mdl.IsR w m h cap L f ∧ F = fun i => i = m ∨ i = h
  lt := fun ⟨g, cap, h, e⟩ hk => by
    subst e
    rcases hk with hk | hk
    · subst hk; exact h.blk.lt
    · subst hk; exact h.row.lt
  move := fun ⟨g, cap, h, e⟩ hs => by
    subst e
    exact ⟨g, cap, ⟨h.blk.of_same (hs _ (.inl rfl)), h.row.of_same (hs _ (.inr rfl)), h.ne⟩, rfl⟩
/-- A decoder. -/
def decA (t : TypeId) (k : IntKind) (d : Nat) (s : Deco.DSt) : Ast where
  holds w F := ∃ v, Deco.Is w d t k s v ∧ F = fun i => i = d ∨ v.ownBlock = some i
  lt := fun ⟨v, h, e⟩ hk => by
    subst e
    rcases hk with hk | hk
    · subst hk; exact h.blk.lt
    · exact h.sl.lt hk
  move := fun ⟨v, h, e⟩ hs => by
    subst e
    exact ⟨v, ⟨h.blk.of_same (hs _ (.inl rfl)), h.sl.of_same fun g hg => hs g (.inr hg), h.ne⟩, rfl⟩
abbrev pdecA := decA 120 .u32
abbrev ddecA := decA 69 .i64
section
variable {W w : World} {l : List Ast}
theorem Enc.New_h (H : Hp W w l) : Calls Try.prog 22 #[] w fun en w' => ∃ e, en = .returned (.pointer (some ⟨e, 0, none⟩)) ∧ Hp W w' (encA e fresh :: l) := by
  refine (Enc.New_calls w).mono ?_
  rintro en w' ⟨rfl, i, b⟩
  exact ⟨_, rfl, H.new b (A' := encA _ fresh) ⟨_, i, rfl⟩ (fun k hk => by
    rcases hk with hk | hk
    · omega
    · cases hk)⟩
theorem Enc.RNew_h (H : Hp W w l) : Calls Try.prog 26 #[] w fun en w' => ∃ e, en = .returned (.pointer (some ⟨e, 0, none⟩)) ∧ Hp W w' (rencA e rfresh :: l) := by
  refine (Enc.RNew_calls w).mono ?_
  rintro en w' ⟨rfl, i, b⟩
  exact ⟨_, rfl, H.new b (A' := rencA _ rfresh) ⟨_, _, i, rfl⟩ (fun k hk => by omega)⟩
theorem Mdl.New_h (H : Hp W w l) (n : Nat) (h1 : 1 ≤ n) (h2 : n ≤ 64) : Calls Try.prog 16 #[.int .i64 n] w fun en w' => ∃ m, en = .returned (.tuple #[.pointer (some ⟨m, 0, none⟩), .int .i64 0]) ∧ Hp W w' (mdlA m (List.replicate n 1) false :: l) := by
  refine (Mdl.New_yes n h1 h2 w).mono ?_
  rintro en w' ⟨m, h, rfl, hm, hh, i, b⟩
  exact ⟨m, rfl, H.new b (A' := mdlA m _ false) ⟨h, _, i, rfl⟩ (fun k hk => by omega)⟩
theorem Mdl.RNew_h (H : Hp W w l) (n : Nat) (h1 : 1 ≤ n) (h2 : n ≤ 64) : Calls Try.prog 23 #[.int .i64 n] w fun en w' => ∃ m, en = .returned (.tuple #[.pointer (some ⟨m, 0, none⟩), .bool true]) ∧ Hp W w' (rmdlA m (List.replicate n 1) false :: l) := by
  refine (Mdl.RNew_yes n h1 h2 w).mono ?_
  rintro en w' ⟨m, h, cap, rfl, hm, hh, i, b⟩
  exact ⟨m, rfl, H.new b (A' := rmdlA m _ false) ⟨h, _, i, rfl⟩ (fun k hk => by omega)⟩
theorem Mdl.Fixed_h (H : Hp W w l) (L : List Int) (good : Good L) (A0 : Option Addr) (c0 : Nat) (hr : Kd.C (Kd.int .u32) w A0 L.length L) (hc : L.length ≤ c0) :
    Calls Try.prog 24 #[.slice A0 L.length c0] w fun en w' => ∃ m, en = .returned (.tuple #[.pointer (some ⟨m, 0, none⟩), .int .i64 0]) ∧ Hp W w' (mdlA m L true :: l) := by
  refine (Mdl.Fixed_yes L good A0 c0 w hr hc).mono ?_
  rintro en w' ⟨m, h, cap, rfl, hm, hh, i, b⟩
  exact ⟨m, rfl, H.new b (A' := mdlA m _ true) ⟨h, _, i, rfl⟩ (fun k hk => by omega)⟩
theorem Mdl.RFixed_h (H : Hp W w l) (L : List Int) (good : Good L) (A0 : Option Addr) (c0 : Nat) (hr : Kd.C (Kd.int .u32) w A0 L.length L) (hc : L.length ≤ c0) :
    Calls Try.prog 25 #[.slice A0 L.length c0] w fun en w' => ∃ m, en = .returned (.tuple #[.pointer (some ⟨m, 0, none⟩), .bool true]) ∧ Hp W w' (rmdlA m L true :: l) := by
  refine (Mdl.RFixed_yes L good A0 c0 w hr hc).mono ?_
  rintro en w' ⟨m, h, cap, rfl, hm, hh, i, b⟩
  exact ⟨m, rfl, H.new b (A' := rmdlA m _ true) ⟨h, _, i, rfl⟩ (fun k hk => by omega)⟩
theorem Enc.step_h {e : Nat} {s s' : Enc.St} {v v' : Value} {w' : World} (H : ∀ {w' : World} {A' : Ast} {F' : Nat → Prop}, Only (fun i => i = e ∨ v.ownBlock = some i) w w' → A'.holds w' F' → (∀ k, F' k → (k = e ∨ v.ownBlock = some k) ∨ w.heap.size ≤ k) → Hp W w' (A' :: l)) (a : Enc.Is w' e s' v') (t : Enc.Step e v v' w w') : Hp W w' (encA e s' :: l) :=
  H (A' := encA e s') t.only ⟨v', a, rfl⟩ (fun k hk => by
    rcases hk with hk | hk
    · exact .inl (.inl hk)
    · rcases t.own k hk with h | h
      · exact .inl (.inr h)
      · exact .inr h)
theorem Enc.Put_h {e : Nat} {s : Enc.St} (H : Hp W w (encA e s :: l)) (ok : s.Ready) (small : s.k ≤ 900000000) (lo ow al : Int) (may : May lo ow al) :
    Calls Try.prog 17 #[.pointer (some ⟨e, 0, none⟩), Mdl.part lo ow al] w fun en w' => en = .returned (.int .i64 0) ∧ Hp W w' (encA e (putS s lo ow al) :: l) := by
  obtain ⟨_, ⟨v, i, rfl⟩, _, K⟩ := H.open1
  refine (Enc.Put_yes i ok small lo ow al may).mono ?_
  rintro en w' ⟨v', rfl, a, t⟩
  exact ⟨rfl, Enc.step_h (s := s) K a t⟩
theorem Enc.Bits_h {e : Nat} {s : Enc.St} (H : Hp W w (encA e s :: l)) (ok : s.Ready) (small : s.k ≤ 800000000) (n : Int) (wide : Nat) (h0 : 0 ≤ n) (h1 : n < 2 ^ wide) (h2 : wide ≤ 24) :
    Calls Try.prog 18 #[.pointer (some ⟨e, 0, none⟩), .int .u32 n, .int .i64 wide] w fun en w' => en = .returned (.int .i64 0) ∧ Hp W w' (encA e (bitsS s n wide) :: l) := by
  obtain ⟨_, ⟨v, i, rfl⟩, _, K⟩ := H.open1
  refine (Enc.Bits_yes i ok small n wide h0 h1 h2).mono ?_
  rintro en w' ⟨v', rfl, a, t⟩
  exact ⟨rfl, Enc.step_h (s := s) K a t⟩
theorem Enc.Symbol_h {e m : Nat} {s : Enc.St} {L : List Int} {f : Bool} (H : Hp W w (encA e s :: mdlA m L f :: l)) (ok : s.Ready) (small : s.k ≤ 900000000) (good : Mdl.Good L) (k : Nat) (hk : k < L.length) :
    Calls Try.prog 19 #[.pointer (some ⟨e, 0, none⟩), .pointer (some ⟨m, 0, none⟩), .int .i64 k] w fun en w' => en = .returned (.int .i64 0) ∧ Hp W w' (encA e (symS s L k) :: mdlA m (Mdl.next f L k) f :: l) := by
  obtain ⟨_, _, ⟨v, i, rfl⟩, ⟨h, cap, j, rfl⟩, g1, g2, ne, K⟩ := H.open2
  have n1 := ne m (.inl rfl)
  have n2 := ne h (.inr rfl)
  refine (Enc.Symbol_yes i ok small j good k hk (fun x => n1 (.inl x.symm)) (fun x => n2 (.inl x.symm)) (fun x => n1 (.inr x)) (fun x => n2 (.inr x))).mono ?_
  rintro en w' ⟨v', rfl, a, b, o, own⟩
  refine ⟨rfl, K (A1' := encA e _) (A2' := mdlA m _ f) o ⟨v', a, rfl⟩ ⟨h, cap, b, rfl⟩ (fun k hk => ?_) (fun k hk => .inl hk) (fun k hk e => ?_)⟩
  · rcases hk with hk | hk
    · exact .inl (.inl hk)
    · exact (own k hk).imp .inr id
  · rcases e with e | e
    · exact ne k hk (.inl e)
    · rcases own k e with h1 | h1
      · exact ne k hk (.inr h1)
      · have := (g2 k hk).2; omega
theorem Enc.RBits_h {e : Nat} {R : Enc.RSt} (H : Hp W w (rencA e R :: l)) (ok : RGood R) (small : R.K ≤ 800000000) (n : Int) (wide : Nat) (h0 : 0 ≤ n) (h1 : n < 2 ^ wide) (h2 : wide ≤ 24) :
    Calls Try.prog 28 #[.pointer (some ⟨e, 0, none⟩), .int .i64 n, .int .i64 wide] w fun en w' => en = .returned (.tuple #[]) ∧ Hp W w' (rencA e (rbitsS R n wide) :: l) := by
  obtain ⟨_, ⟨g, c, i, rfl⟩, _, K⟩ := H.open1
  refine (Enc.RBits_yes i ok small n wide h0 h1 h2).mono ?_
  rintro en w' ⟨g', c', rfl, a, t⟩
  exact ⟨rfl, K (A' := rencA e _) t.only ⟨g', c', a, rfl⟩ (fun k hk => by
    rcases hk with hk | hk
    · exact .inl (.inl hk)
    · subst hk
      exact t.own.imp .inr id)⟩
theorem Enc.RPut_h {e : Nat} {R : Enc.RSt} (H : Hp W w (rencA e R :: l)) (ok : RGood R) (small : R.K ≤ 900000000) (lo ow al : Int) (may : May lo ow al) :
    Calls Try.prog 30 #[.pointer (some ⟨e, 0, none⟩), .int .i64 lo, .int .i64 ow, .int .i64 al] w fun en w' => en = .returned (.tuple #[]) ∧ Hp W w' (rencA e (rputS R lo ow al) :: l) := by
  obtain ⟨_, ⟨g, c, i, rfl⟩, _, K⟩ := H.open1
  refine (Enc.RPut_yes i ok small lo ow al may).mono ?_
  rintro en w' ⟨g', c', rfl, a, t⟩
  exact ⟨rfl, K (A' := rencA e _) t.only ⟨g', c', a, rfl⟩ (fun k hk => by
    rcases hk with hk | hk
    · exact .inl (.inl hk)
    · subst hk
      exact t.own.imp .inr id)⟩
theorem Enc.RSymbol_h {e m : Nat} {R : Enc.RSt} {L : List Int} {f : Bool} (H : Hp W w (rencA e R :: rmdlA m L f :: l)) (ok : RGood R) (small : R.K ≤ 900000000) (good : Mdl.Good L) (k : Nat) (hk : k < L.length) :
    Calls Try.prog 27 #[.pointer (some ⟨e, 0, none⟩), .pointer (some ⟨m, 0, none⟩), .int .i64 k] w fun en w' => en = .returned (.tuple #[]) ∧ Hp W w' (rencA e (rsymS R L k) :: rmdlA m (Mdl.next f L k) f :: l) := by
  obtain ⟨_, _, ⟨ge, ce, i, rfl⟩, ⟨h, cap, j, rfl⟩, g1, g2, ne, K⟩ := H.open2
  have n1 := ne m (.inl rfl)
  have n2 := ne h (.inr rfl)
  refine (Enc.RSymbol_yes i ok small j good k hk (fun x => n1 (.inl x.symm)) (fun x => n2 (.inl x.symm)) (fun x => n1 (.inr x.symm)) (fun x => n2 (.inr x.symm))).mono ?_
  rintro en w' ⟨g', c', rfl, a, b, o, own⟩
  refine ⟨rfl, K (A1' := rencA e _) (A2' := rmdlA m _ f) o ⟨g', c', a, rfl⟩ ⟨h, cap, b, rfl⟩ (fun k hk => ?_) (fun k hk => .inl hk) (fun k hk e => ?_)⟩
  · rcases hk with hk | hk
    · exact .inl (.inl hk)
    · subst hk; exact own.imp .inr id
  · rcases e with e | e
    · exact ne k hk (.inl e)
    · rcases own with h1 | h1
      · exact ne k hk (.inr (e.trans h1))
      · have := (g2 k hk).2; omega
/-- An encoder's bytes. -/
theorem Enc.Bytes_h {e : Nat} {s : Enc.St} (H : Hp W w (encA e s :: l)) (ok : s.Ready) (small : s.k ≤ 800000000) :
    Calls Try.prog 21 #[.pointer (some ⟨e, 0, none⟩)] w fun en w' => ∃ v, en = .returned v ∧ Hp W w' (slA 5 .u8 v (bytesS s) :: encA e s :: l) := by
  obtain ⟨_, ⟨v, i, rfl⟩, _, _⟩ := H.open1
  refine (Enc.Bytes_some i ok small).mono ?_
  rintro en w' ⟨v', rfl, sl, ho, b⟩
  exact ⟨v', rfl, H.add_sl b sl ho⟩
theorem Enc.RBytes_h {e : Nat} {R : Enc.RSt} (H : Hp W w (rencA e R :: l)) (dig : ∀ x ∈ R.D, 0 ≤ x ∧ x ≤ 255) (small : R.D.length ≤ 900000000) :
    Calls Try.prog 31 #[.pointer (some ⟨e, 0, none⟩)] w fun en w' => ∃ v, en = .returned v ∧ Hp W w' (slA 5 .u8 v (strip R.D) :: rencA e R :: l) := by
  obtain ⟨_, ⟨g, c, i, rfl⟩, _, _⟩ := H.open1
  refine (Enc.RBytes_calls i dig small).mono ?_
  rintro en w' ⟨v', rfl, sl, ho, b⟩
  exact ⟨v', rfl, H.add_sl b sl ho⟩
theorem Enc.Len_h {e : Nat} {s : Enc.St} (H : Hp W w (encA e s :: l)) (he : 1 ≤ s.he) (small : s.k ≤ 900000000) :
    Calls Try.prog 20 #[.pointer (some ⟨e, 0, none⟩)] w fun en w' => en = .returned (.int .i64 ((s.k + 4 : Nat) : Int)) ∧ Hp W w' (encA e s :: l) := by
  obtain ⟨_, ⟨v, i, rfl⟩, _, _⟩ := H.open1
  refine (Enc.Len_some i he small).mono ?_
  rintro en w' ⟨rfl, b⟩
  exact ⟨rfl, H.keep b⟩
theorem Deco.New_h (H : Hp W w l) {u : Value} {bs : List Int} (src : Src w .u8 u bs) (hb : Byt bs) :
    Calls Try.prog 33 #[u] w fun en w' => ∃ d, en = .returned (.pointer (some ⟨d, 0, none⟩)) ∧ Hp W w' (pdecA d (openS bs) :: l) := by
  refine (Deco.New_calls src hb).mono ?_
  rintro en w' ⟨d, v, rfl, hd, ho, i, b⟩
  exact ⟨d, rfl, H.new b (A' := pdecA d _) ⟨v, i, rfl⟩ (fun k hk => by
    rcases hk with hk | hk
    · omega
    · exact ho k hk)⟩
theorem Deco.Open_h (H : Hp W w l) {u : Value} {bs : List Int} (src : Src w .u8 u bs) (hb : Byt bs) :
    Calls Try.prog 34 #[u] w fun en w' => ∃ d, en = .returned (.pointer (some ⟨d, 0, none⟩)) ∧ Hp W w' (ddecA d (openS bs) :: l) := by
  refine (Deco.Open_calls src hb).mono ?_
  rintro en w' ⟨d, v, rfl, hd, ho, i, b⟩
  exact ⟨d, rfl, H.new b (A' := ddecA d _) ⟨v, i, rfl⟩ (fun k hk => by
    rcases hk with hk | hk
    · omega
    · exact ho k hk)⟩
theorem Deco.Symbol_h {d m : Nat} {s : DSt} {L : List Int} {f : Bool} (H : Hp W w (pdecA d s :: mdlA m L f :: l)) (ok : s.Ready) (hn : s.n ≤ 900000000000) (good : Mdl.Good L) :
    Calls Try.prog 35 #[.pointer (some ⟨d, 0, none⟩), .pointer (some ⟨m, 0, none⟩)] w fun en w' => en = .returned (.tuple #[.int .i64 (symK s L), .int .i64 0]) ∧ Hp W w' (pdecA d (symS s L) :: mdlA m (Mdl.next f L (symK s L)) f :: l) := by
  obtain ⟨_, _, ⟨v, i, rfl⟩, ⟨h, cap, j, rfl⟩, g1, g2, ne, K⟩ := H.open2
  have n1 := ne m (.inl rfl)
  have n2 := ne h (.inr rfl)
  refine (Deco.Symbol_yes i ok hn j good (fun x => n1 (.inl x.symm)) (fun x => n2 (.inl x.symm)) (fun x => n1 (.inr x)) (fun x => n2 (.inr x))).mono ?_
  rintro en w' ⟨rfl, a, b, o⟩
  exact ⟨rfl, K (A1' := pdecA d _) (A2' := mdlA m _ f) (o.mono fun k hk => hk.imp .inl id) ⟨v, a, rfl⟩ ⟨h, cap, b, rfl⟩ (fun k hk => .inl hk) (fun k hk => .inl hk) ne⟩
theorem Deco.RSymbol_h {d m : Nat} {s : DSt} {L : List Int} {f : Bool} (H : Hp W w (ddecA d s :: rmdlA m L f :: l)) (ok : s.Ready) (hn : s.n ≤ 900000000000) (good : Mdl.Good L) :
    Calls Try.prog 36 #[.pointer (some ⟨d, 0, none⟩), .pointer (some ⟨m, 0, none⟩)] w fun en w' => en = .returned (.int .i64 (symK s L)) ∧ Hp W w' (ddecA d (symS s L) :: rmdlA m (Mdl.next f L (symK s L)) f :: l) := by
  obtain ⟨_, _, ⟨v, i, rfl⟩, ⟨h, cap, j, rfl⟩, g1, g2, ne, K⟩ := H.open2
  have n1 := ne m (.inl rfl)
  have n2 := ne h (.inr rfl)
  refine (Deco.RSymbol_yes i ok hn j good (fun x => n1 (.inl x.symm)) (fun x => n2 (.inl x.symm)) (fun x => n1 (.inr x)) (fun x => n2 (.inr x))).mono ?_
  rintro en w' ⟨rfl, a, b, o⟩
  exact ⟨rfl, K (A1' := ddecA d _) (A2' := rmdlA m _ f) (o.mono fun k hk => hk.imp .inl id) ⟨v, a, rfl⟩ ⟨h, cap, b, rfl⟩ (fun k hk => .inl hk) (fun k hk => .inl hk) ne⟩
theorem Deco.Bits_h {d : Nat} {s : DSt} (H : Hp W w (pdecA d s :: l)) (ok : s.Ready) (hn : s.n ≤ 800000000000) (wide : Nat) (h2 : wide ≤ 24) :
    Calls Try.prog 37 #[.pointer (some ⟨d, 0, none⟩), .int .i64 wide] w fun en w' => en = .returned (.tuple #[.int .u32 (bitsD s 0 wide).1, .int .i64 0]) ∧ Hp W w' (pdecA d (bitsD s 0 wide).2 :: l) := by
  obtain ⟨_, ⟨v, i, rfl⟩, _, K⟩ := H.open1
  refine (Deco.Bits_yes i ok hn wide h2).mono ?_
  rintro en w' ⟨rfl, a, o⟩
  exact ⟨rfl, K (A' := pdecA d _) (o.mono fun k hk => .inl hk) ⟨v, a, rfl⟩ (fun k hk => .inl hk)⟩
theorem Deco.RBits_h {d : Nat} {s : DSt} (H : Hp W w (ddecA d s :: l)) (ok : s.Ready) (hn : s.n ≤ 800000000000) (wide : Nat) (h2 : wide ≤ 24) :
    Calls Try.prog 38 #[.pointer (some ⟨d, 0, none⟩), .int .i64 wide] w fun en w' => en = .returned (.int .i64 (bitsD s 0 wide).1) ∧ Hp W w' (ddecA d (bitsD s 0 wide).2 :: l) := by
  obtain ⟨_, ⟨v, i, rfl⟩, _, K⟩ := H.open1
  refine (Deco.RBits_yes i ok hn wide h2).mono ?_
  rintro en w' ⟨rfl, a, o⟩
  exact ⟨rfl, K (A' := ddecA d _) (o.mono fun k hk => .inl hk) ⟨v, a, rfl⟩ (fun k hk => .inl hk)⟩
end
end Go.Proofs.Ytlbjoflmfboeeaa

/-
  Decoding is the inverse of encoding. Plain theorems; no condition but those told.
-/
set_option linter.unusedVariables false
namespace Go.Proofs.Ytlbjoflmfboeeaa.Deco
open Go.RowKit Go.Proofs.Ytlbjoflmfboeeaa Go.Proofs.Ytlbjoflmfboeeaa.Dig

/-- The number that the first n bytes hold, noughts behind. -/
def X (bs : List Int) : Nat → Int
  | 0 => 0
  | n + 1 => X bs n * 256 + bs.getD n 0
theorem X_congr (a b : List Int) (n : Nat) (h : ∀ i, i < n → a.getD i 0 = b.getD i 0) : X a n = X b n := by
  induction n with
  | zero => rfl
  | succ n ih => show X a n * 256 + a.getD n 0 = X b n * 256 + b.getD n 0; rw [ih (fun i hi => h i (by omega)), h n (by omega)]
theorem X_vl (D : List Int) (n : Nat) (h : n ≤ D.length) : X D n = vl (D.take n) := by
  induction n with
  | zero => simp [X, vl]
  | succ n ih =>
    show X D n * 256 + D.getD n 0 = _
    rw [ih (by omega), List.take_succ_eq_append_getElem (show n < D.length by omega), vl_snoc, getD_get D n (by omega)]
theorem X_all (D : List Int) : X D D.length = vl D := by rw [X_vl D _ (Nat.le_refl _), List.take_of_length_le (Nat.le_refl _)]
theorem getD_pre (a t : List Int) (i : Nat) (h : i < a.length) : (a ++ t).getD i 0 = a.getD i 0 := by
  rw [List.getD_eq_getElem?_getD, List.getD_eq_getElem?_getD, List.getElem?_append_left h]
theorem getD_zeros (a : List Int) (n i : Nat) : (a ++ List.replicate n 0).getD i 0 = a.getD i 0 := by
  rw [List.getD_eq_getElem?_getD, List.getD_eq_getElem?_getD]
  by_cases h : i < a.length
  · rw [List.getElem?_append_left h]
  · rw [List.getElem?_append_right (by omega), List.getElem?_eq_none (l := a) (by omega)]
    by_cases h2 : i - a.length < n
    · rw [List.getElem?_replicate_of_lt h2]; rfl
    · rw [List.getElem?_eq_none (by simp; omega)]
/-- The bytes lie in what the encoder told. -/
def Inside (bs : List Int) (R : Enc.RSt) : Prop := vl R.D ≤ X bs (R.K + 4) ∧ X bs (R.K + 4) < vl R.D + R.S
/-- The decoder stands where the encoder stood. -/
structure DRel (d : DSt) (R : Enc.RSt) : Prop where
  n : d.n = R.K + 4
  sz : d.sz = R.S
  co : d.co = X d.bs (R.K + 4) - vl R.D
theorem open_rel (bs : List Int) : DRel (openS bs) Enc.rfresh := by
  refine ⟨rfl, rfl, ?_⟩
  show _ = X bs 4 - 0
  show (((0 * 256 + bs.getD 0 0) * 256 + bs.getD 1 0) * 256 + bs.getD 2 0) * 256 + bs.getD 3 0 = (((0 * 256 + bs.getD 0 0) * 256 + bs.getD 1 0) * 256 + bs.getD 2 0) * 256 + bs.getD 3 0 - 0
  omega
theorem byte_at {bs : List Int} (h : ∀ x ∈ bs, 0 ≤ x ∧ x ≤ 255) (n : Nat) : 0 ≤ bs.getD n 0 ∧ bs.getD n 0 ≤ 255 := by
  rw [List.getD_eq_getElem?_getD]
  by_cases hn : n < bs.length
  · rw [List.getElem?_eq_getElem hn]; exact h _ (List.getElem_mem hn)
  · rw [List.getElem?_eq_none (by omega)]; decide
theorem norm_inside (bs : List Int) (hb : ∀ x ∈ bs, 0 ≤ x ∧ x ≤ 255) (n : Nat) : ∀ R : Enc.RSt, Inside bs (Enc.rnorm n R) → Inside bs R := by
  induction n with
  | zero => intro R h; exact h
  | succ n ih =>
    intro R h
    unfold Enc.rnorm at h
    by_cases hc : R.S < 16777216
    · rw [if_pos hc] at h
      have h2 := ih _ h
      unfold Inside at h2 ⊢
      have e1 : vl (Enc.rstep R).D = vl R.D * 256 := by show vl (R.D ++ [0]) = _; rw [vl_snoc]; omega
      have e2 : (Enc.rstep R).S = R.S * 256 := rfl
      have e3 : X bs ((Enc.rstep R).K + 4) = X bs (R.K + 4) * 256 + bs.getD (R.K + 4) 0 := by
        show X bs (R.K + 1 + 4) = _
        rw [show R.K + 1 + 4 = R.K + 4 + 1 from by omega, X]
      have hx := byte_at hb (R.K + 4)
      rw [e1, e2, e3] at h2
      omega
    · rw [if_neg hc] at h; exact h
theorem dnorm_rel (n : Nat) : ∀ (d : DSt) (R : Enc.RSt), DRel d R → DRel (dnorm n d) (Enc.rnorm n R) ∧ (dnorm n d).bs = d.bs := by
  induction n with
  | zero => intro d R h; exact ⟨h, rfl⟩
  | succ n ih =>
    intro d R h
    unfold dnorm Enc.rnorm
    rw [h.sz]
    by_cases hc : R.S < 16777216
    · rw [if_pos hc, if_pos hc]
      have h2 : DRel (nextS ⟨d.bs, d.n, d.co, R.S * 256⟩) (Enc.rstep R) := by
        refine ⟨?_, rfl, ?_⟩
        · show d.n + 1 = R.K + 1 + 4
          rw [h.n]
        · show d.co * 256 + d.bs.getD d.n 0 = X d.bs (R.K + 1 + 4) - vl (R.D ++ [0])
          rw [show R.K + 1 + 4 = R.K + 4 + 1 from by omega, vl_snoc, h.co, h.n]
          show _ = X d.bs (R.K + 4) * 256 + d.bs.getD (R.K + 4) 0 - _
          omega
      exact ih _ _ h2
    · rw [if_neg hc, if_neg hc]; exact ⟨h, rfl⟩
theorem put_vl {R : Enc.RSt} (g : Enc.RGood R) {lo ow al : Int} (may : Enc.May lo ow al) : vl (carF (R.K + 3) (addF 4 R.D R.K (R.S / al * lo)) R.K) = vl R.D + R.S / al * lo := by
  obtain ⟨p0, p1, p2, p3⟩ := may
  have s0 := g.s0
  have s1 := g.s1
  have b1 := Enc.mul_bd (R.S / al) lo al R.S rfl (by omega) p0 (by omega) (by omega)
  have hv : vl (addF 4 R.D R.K (R.S / al * lo)) = vl R.D + R.S / al * lo := by
    have := addF_vl 4 (by omega) R.D R.K (R.S / al * lo) g.len b1.1 (by show R.S / al * lo < 4294967296; omega)
    simpa using this
  rw [carF_vl (R.K + 3) (addF 4 R.D R.K (R.S / al * lo)) R.K (by rw [addF_len, g.len]; omega), hv]
/-- Behind a part the bytes lie in the part. -/
theorem put_inside {bs : List Int} (hb : ∀ x ∈ bs, 0 ≤ x ∧ x ≤ 255) {R : Enc.RSt} (g : Enc.RGood R) {lo ow al : Int} (may : Enc.May lo ow al) (h : Inside bs (Enc.rputS R lo ow al)) :
    R.S / al * lo ≤ X bs (R.K + 4) - vl R.D ∧ X bs (R.K + 4) - vl R.D < R.S / al * lo + R.S / al * ow := by
  have h2 := norm_inside bs hb 2 _ h
  unfold Inside at h2
  simp only [put_vl g may] at h2
  omega
theorem put_back {bs : List Int} (hb : ∀ x ∈ bs, 0 ≤ x ∧ x ≤ 255) {R : Enc.RSt} (g : Enc.RGood R) {lo ow al : Int} (may : Enc.May lo ow al) (h : Inside bs (Enc.rputS R lo ow al)) : Inside bs R := by
  have h2 := put_inside hb g may h
  obtain ⟨p0, p1, p2, p3⟩ := may
  have s0 := g.s0
  have b1 := Enc.mul_bd (R.S / al) lo al R.S rfl (by omega) p0 (by omega) (by omega)
  have b2 := Enc.mul_bd (R.S / al) (lo + ow) al R.S rfl (by omega) (by omega) (by omega) (by omega)
  rw [Int.mul_add] at b2
  unfold Inside
  omega
theorem take_rel {d : DSt} {R : Enc.RSt} (h : DRel d R) (g : Enc.RGood R) {lo ow al : Int} (may : Enc.May lo ow al) (hb : ∀ x ∈ d.bs, 0 ≤ x ∧ x ≤ 255) (hi : Inside d.bs (Enc.rputS R lo ow al)) :
    (lo ≤ atS d al ∧ atS d al < lo + ow) ∧ DRel (takeS d lo ow al) (Enc.rputS R lo ow al) ∧ (takeS d lo ow al).bs = d.bs := by
  have h2 := put_inside hb g may hi
  rw [← h.co] at h2
  have hpv := put_vl g may
  obtain ⟨p0, p1, p2, p3⟩ := may
  have s0 := g.s0
  have b3 := Enc.each_lo al R.S (by omega) p3 s0
  constructor
  · unfold atS
    rw [h.sz]
    obtain ⟨e, he⟩ : ∃ e, R.S / al = e := ⟨_, rfl⟩
    rw [he] at h2 b3 ⊢
    have h3 : lo ≤ d.co / e := (Int.le_ediv_iff_mul_le (by omega)).2 (by rw [Int.mul_comm]; exact h2.1)
    have h4 : d.co / e < lo + ow := (Int.ediv_lt_iff_lt_mul (by omega)).2 (by rw [Int.mul_comm, Int.mul_add]; exact h2.2)
    omega
  · unfold takeS Enc.rputS
    rw [h.sz]
    have e : min (d.co - R.S / al * lo) (R.S / al * ow - 1) = d.co - R.S / al * lo := by omega
    rw [e]
    refine dnorm_rel 2 _ _ ⟨h.n, rfl, ?_⟩
    show d.co - R.S / al * lo = X d.bs (R.K + 4) - vl (carF (R.K + 3) (addF 4 R.D R.K (R.S / al * lo)) R.K)
    rw [hpv, h.co]
    omega
theorem find_is (L : List Int) (hp : ∀ x ∈ L, 0 ≤ x) : ∀ (k : Nat) (x : Int), (hk : k < L.length) → Mdl.lsum (L.take k) ≤ x → x < Mdl.lsum (L.take k) + L[k] → Mdl.find L x = k := by
  induction L with
  | nil => intro k x hk; simp at hk
  | cons a l ih =>
    intro k x hk h1 h2
    rw [Mdl.find_cons]
    cases k with
    | zero =>
      rw [if_pos (.inl (by simp [Mdl.lsum] at h2; exact h2))]
    | succ k =>
      have e : Mdl.lsum ((a :: l).take (k + 1)) = a + Mdl.lsum (l.take k) := by simp [Mdl.lsum]
      rw [e] at h1 h2
      have hn := Mdl.lsum_nonneg (l.take k) (fun y hy => hp y (List.mem_cons_of_mem _ (List.mem_of_mem_take hy)))
      have hk2 : k < l.length := by simp at hk; exact hk
      rw [if_neg (by rintro (h | h); omega; subst h; simp at hk2)]
      have e2 : (a :: l)[k + 1] = l[k] := rfl
      rw [e2] at h2
      rw [ih (fun y hy => hp y (List.mem_cons_of_mem _ hy)) k (x - a) hk2 (by omega) (by omega)]
theorem sym_inv {d : DSt} {R : Enc.RSt} (h : DRel d R) (g : Enc.RGood R) {L : List Int} (good : Mdl.Good L) {k : Nat} (hk : k < L.length) (hb : ∀ x ∈ d.bs, 0 ≤ x ∧ x ≤ 255) (hi : Inside d.bs (Enc.rsymS R L k)) :
    symK d L = k ∧ DRel (symS d L) (Enc.rsymS R L k) ∧ (symS d L).bs = d.bs := by
  have h2 := take_rel h g (Enc.may_of good k hk) hb hi
  have e : symK d L = k := by
    unfold symK
    refine find_is L good.nonneg k _ hk h2.1.1 ?_
    have := h2.1.2
    rw [getD_get L k hk] at this
    exact this
  refine ⟨e, ?_⟩
  unfold symS
  rw [e]
  exact h2.2
theorem sym_back {bs : List Int} (hb : ∀ x ∈ bs, 0 ≤ x ∧ x ≤ 255) {R : Enc.RSt} (g : Enc.RGood R) {L : List Int} (good : Mdl.Good L) {k : Nat} (hk : k < L.length) (h : Inside bs (Enc.rsymS R L k)) : Inside bs R :=
  put_back hb g (Enc.may_of good k hk) h
theorem bits_back {bs : List Int} (hb : ∀ x ∈ bs, 0 ≤ x ∧ x ≤ 255) {R : Enc.RSt} (g : Enc.RGood R) (n : Int) (w : Nat) (hw : w ≤ 24) (h : Inside bs (Enc.rbitsS R n w)) : Inside bs R := by
  unfold Enc.rbitsS at h
  split at h
  · exact h
  · split at h
    · rename_i h0 h1
      exact put_back hb g (Enc.may_bits n h1) h
    · rename_i h0 h1
      exact put_back hb g (Enc.may_bits12 _) (put_back hb (Enc.rput_good g (Enc.may_bits12 _)).1 (Enc.may_bits n (show w - 12 ≤ 12 by omega)) h)
theorem bits_inv {d : DSt} {R : Enc.RSt} (h : DRel d R) (g : Enc.RGood R) {n : Int} {w : Nat} (n0 : 0 ≤ n) (n1 : n < 2 ^ w) (hw : w ≤ 24) (hb : ∀ x ∈ d.bs, 0 ≤ x ∧ x ≤ 255) (hi : Inside d.bs (Enc.rbitsS R n w)) :
    (bitsD d 0 w).1 = n ∧ DRel (bitsD d 0 w).2 (Enc.rbitsS R n w) ∧ (bitsD d 0 w).2.bs = d.bs := by
  unfold Enc.rbitsS at hi ⊢
  unfold bitsD
  by_cases h0 : w = 0
  · subst h0
    simp only [if_pos]
    refine ⟨by have : (2 : Int) ^ 0 = 1 := rfl; omega, ?_⟩
    simp only [if_pos] at hi
    exact ⟨h, trivial⟩
  · rw [if_neg h0] at hi
    rw [if_neg h0, if_neg h0]
    by_cases h1 : w ≤ 12
    · rw [if_pos h1] at hi
      rw [if_pos h1, if_pos h1]
      have h2 := take_rel h g (Enc.may_bits n h1) hb hi
      rw [Int.emod_eq_of_lt n0 n1] at h2 ⊢
      have e : atS d (2 ^ w) = n := by omega
      rw [e]
      exact ⟨by simp only; omega, h2.2⟩
    · rw [if_neg h1] at hi
      rw [if_neg h1, if_neg h1]
      have hw2 : w - 12 ≤ 12 := by omega
      have my1 := Enc.may_bits12 (n / 2 ^ (w - 12))
      have g1 := (Enc.rput_good g my1).1
      have my2 := Enc.may_bits n hw2
      have hi1 := put_back hb g1 my2 hi
      have h2 := take_rel h g my1 hb hi1
      have hp : (0 : Int) < 2 ^ (w - 12) := Int.pow_pos (by omega)
      have ep : (2 : Int) ^ w = 4096 * 2 ^ (w - 12) := by
        have : w = 12 + (w - 12) := by omega
        conv => lhs; rw [this, Int.pow_add]
        rfl
      have eq : n / 2 ^ (w - 12) % 4096 = n / 2 ^ (w - 12) := by
        refine Int.emod_eq_of_lt (Int.ediv_nonneg n0 (by omega)) ?_
        refine (Int.ediv_lt_iff_lt_mul hp).2 ?_
        rw [← ep]; exact n1
      rw [eq] at h2 g1 hi ⊢
      have e : atS d 4096 = n / 2 ^ (w - 12) := by omega
      have h3 := take_rel h2.2.1 g1 my2 (by rw [h2.2.2]; exact hb) (by rw [h2.2.2]; exact hi)
      simp only [e]
      have e2 : atS (takeS d (n / 2 ^ (w - 12)) 1 4096) (2 ^ (w - 12)) = n % 2 ^ (w - 12) := by omega
      rw [e2]
      refine ⟨?_, h3.2.1, by rw [h3.2.2, h2.2.2]⟩
      have := Int.ediv_mul_add_emod n (2 ^ (w - 12))
      rw [Int.zero_mul, Int.zero_add]
      exact this
end Go.Proofs.Ytlbjoflmfboeeaa.Deco

/-
  Words: slices of numbers that come in as arguments. Plain theorems; no condition.
-/
set_option linter.unusedVariables false
namespace Go.Proofs.Ytlbjoflmfboeeaa
open Go.RowKit

/-- A slice of numbers as it comes in: cap cells, of which the first len are told. -/
def IsRow (k : IntKind) (w : World) (a : Option Addr) (len cap : Nat) (zs : List Int) : Prop :=
  (a = none ∧ len = 0 ∧ cap = 0 ∧ zs = []) ∨
  ∃ x, a = some x ∧ len ≤ cap ∧ cap ≤ maxLen ∧ zs.length = cap ∧ (∀ i, i < zs.length → w.cell? (x.add i) = some (.int k (zs.getD i 0))) ∧ ∀ n ∈ zs, (Lit.int k n).wf = true
theorem IsRow.take_len {k : IntKind} {w : World} {a : Option Addr} {len cap : Nat} {zs : List Int} (h : IsRow k w a len cap zs) : (zs.take len).length = len := by
  rw [List.length_take]
  rcases h with ⟨_, rfl, _, rfl⟩ | ⟨x, _, h1, _, h2, _⟩
  · rfl
  · omega
theorem IsRow.src {k : IntKind} {w : World} {a : Option Addr} {len cap : Nat} {zs : List Int} (h : IsRow k w a len cap zs) : Src w k (.slice a len cap) (zs.take len) := by
  have hl := h.take_len
  rcases h with ⟨rfl, rfl, rfl, rfl⟩ | ⟨x, rfl, h1, _, h2, h3, _⟩
  · exact ⟨none, 0, rfl, fun h => by simp at h⟩
  · refine ⟨some x, cap, by rw [hl], fun _ => ⟨x, rfl, fun j hj => ?_⟩⟩
    rw [h3 j (by omega)]
    congr 2
    rw [List.getElem_take, List.getD_eq_getElem?_getD, List.getElem?_eq_getElem (by omega)]; rfl
theorem IsRow.wf {k : IntKind} {w : World} {a : Option Addr} {len cap : Nat} {zs : List Int} (h : IsRow k w a len cap zs) : ∀ n ∈ zs.take len, (Lit.int k n).wf = true := by
  intro n hn
  have hn := List.mem_of_mem_take hn
  rcases h with ⟨_, _, _, rfl⟩ | ⟨x, _, _, _, _, _, h⟩
  · cases hn
  · exact h n hn
theorem wf_u8 {n : Int} (h : (Lit.int .u8 n).wf = true) : 0 ≤ n ∧ n ≤ 255 := by
  simp only [Lit.wf, Bool.and_eq_true, decide_eq_true_eq] at h
  have e1 : IntKind.min .u8 = 0 := by decide
  have e2 : IntKind.max .u8 = 255 := by decide
  rw [e1, e2] at h
  exact h
/-- What lies at the j-th place of a slice that came in. -/
theorem Src.cell {w : World} {k : IntKind} {A : Option Addr} {n c : Nat} {ys : List Int} (h : Src w k (.slice A n c) ys) {j : Nat} (hj : j < ys.length) : ∃ ad, A = some ad ∧ w.cell? (ad.add j) = some (.int k ys[j]) := by
  obtain ⟨A', c', e, h⟩ := h
  injection e with e1 e2 e3
  subst e1
  obtain ⟨ad, e4, h⟩ := h (by omega)
  exact ⟨ad, e4, h j hj⟩
end Go.Proofs.Ytlbjoflmfboeeaa

/-
  Symbols and bits, one behind the other: encoder and decoder. Plain theorems; no condition but those told.
-/
set_option linter.unusedVariables false
namespace Go.Proofs.Ytlbjoflmfboeeaa.Deco
open Go.RowKit Go.Proofs.Ytlbjoflmfboeeaa Go.Proofs.Ytlbjoflmfboeeaa.Dig

/-- One act: a symbol, and sixteen bits, if it is divisible by three. -/
def stp (n : Nat) (P : Enc.RSt × List Int) (c : Int) : Enc.RSt × List Int :=
  (if c % 3 = 0 then Enc.rbitsS (Enc.rsymS P.1 P.2 (c % n).toNat) c 16 else Enc.rsymS P.1 P.2 (c % n).toNat, Mdl.next false P.2 (c % n).toNat)
def run (n : Nat) (ls : List Int) : Enc.RSt × List Int := ls.foldl (stp n) (Enc.rfresh, List.replicate n 1)
theorem run_nil (n : Nat) : run n [] = (Enc.rfresh, List.replicate n 1) := rfl
theorem run_succ (n : Nat) (ls : List Int) (k : Nat) (hk : k < ls.length) : run n (ls.take (k + 1)) = stp n (run n (ls.take k)) ls[k] := by
  unfold run
  rw [List.take_succ_eq_append_getElem hk, List.foldl_append]; rfl
theorem mod_lt {n : Nat} (h : 1 ≤ n) (c : Int) : (c % n).toNat < n := by
  have h1 := Int.emod_nonneg c (show (n : Int) ≠ 0 by omega)
  have h2 := Int.emod_lt_of_pos c (show (0 : Int) < n by omega)
  omega
structure Fine (n : Nat) (P : Enc.RSt × List Int) : Prop where
  g : Enc.RGood P.1
  good : Mdl.Good P.2
  len : P.2.length = n
theorem run_fine {n : Nat} (h1 : 1 ≤ n) (h2 : n ≤ 64) (ls : List Int) : Fine n (run n ls) ∧ (run n ls).1.K ≤ 6 * ls.length := by
  have key : ∀ (ls : List Int) (P : Enc.RSt × List Int), Fine n P → Fine n (ls.foldl (stp n) P) ∧ (ls.foldl (stp n) P).1.K ≤ P.1.K + 6 * ls.length := by
    intro ls
    induction ls with
    | nil => intro P h; exact ⟨h, by simp⟩
    | cons c l ih =>
      intro P h
      have hk : (c % n).toNat < P.2.length := by rw [h.len]; exact mod_lt h1 c
      have a := Enc.rsymS_good h.g h.good hk
      have b := Enc.rbitsS_good a.1 c 16 (by decide)
      have hf : Fine n (stp n P c) := by
        refine ⟨?_, h.good.next false _ hk, ?_⟩
        · show Enc.RGood (if c % 3 = 0 then _ else _)
          split
          · exact b.1
          · exact a.1
        · show (Mdl.next false P.2 _).length = n
          rw [Mdl.next_len, h.len]
      have hK : (stp n P c).1.K ≤ P.1.K + 6 := by
        show (if c % 3 = 0 then Enc.rbitsS (Enc.rsymS P.1 P.2 (c % n).toNat) c 16 else Enc.rsymS P.1 P.2 (c % n).toNat).K ≤ _
        split
        · have := b.2.2; have := a.2.2; omega
        · have := a.2.2; omega
      have r := ih _ hf
      refine ⟨r.1, ?_⟩
      have := r.2
      simp only [List.foldl_cons, List.length_cons]
      omega
  have := key ls (Enc.rfresh, List.replicate n 1) ⟨Enc.rfresh_good, Mdl.good_new n h1 h2, List.length_replicate⟩
  refine ⟨this.1, ?_⟩
  have h := this.2
  have e : (Enc.rfresh, List.replicate n (1 : Int)).1.K = 0 := rfl
  rw [e] at h
  unfold run
  omega
theorem stp_back {bs : List Int} (hb : ∀ x ∈ bs, 0 ≤ x ∧ x ≤ 255) {n : Nat} (h1 : 1 ≤ n) {P : Enc.RSt × List Int} (f : Fine n P) {c : Int} (h : Inside bs (stp n P c).1) :
    Inside bs (Enc.rsymS P.1 P.2 (c % n).toNat) ∧ Inside bs P.1 := by
  have hk : (c % n).toNat < P.2.length := by rw [f.len]; exact mod_lt h1 c
  have a := Enc.rsymS_good f.g f.good hk
  have hi : Inside bs (Enc.rsymS P.1 P.2 (c % n).toNat) := by
    have h' : Inside bs (if c % 3 = 0 then Enc.rbitsS (Enc.rsymS P.1 P.2 (c % n).toNat) c 16 else Enc.rsymS P.1 P.2 (c % n).toNat) := h
    split at h'
    · exact bits_back hb a.1 c 16 (by decide) h'
    · exact h'
  exact ⟨hi, sym_back hb f.g f.good hk hi⟩
theorem run_back {bs : List Int} (hb : ∀ x ∈ bs, 0 ≤ x ∧ x ≤ 255) {n : Nat} (h1 : 1 ≤ n) (h2 : n ≤ 64) (ls : List Int) (h : Inside bs (run n ls).1) (k : Nat) (hk : k ≤ ls.length) : Inside bs (run n (ls.take k)).1 := by
  obtain ⟨j, hj⟩ : ∃ j, k + j = ls.length := ⟨ls.length - k, by omega⟩
  induction j generalizing k with
  | zero => rw [List.take_of_length_le (by omega)]; exact h
  | succ j ih =>
    have := ih (k + 1) (by omega) (by omega)
    rw [run_succ n ls k (by omega)] at this
    exact (stp_back hb h1 (run_fine h1 h2 _).1 this).2
/-- The bytes themselves, with whatever behind. -/
theorem inside_own {R : Enc.RSt} (g : Enc.RGood R) (bs : List Int) (h : ∀ i, i < R.K + 4 → bs.getD i 0 = R.D.getD i 0) : Inside bs R := by
  unfold Inside
  rw [X_congr bs R.D _ h, show R.K + 4 = R.D.length from g.len.symm, X_all]
  have := g.s0
  omega
theorem strip_getD (l : List Int) (i : Nat) : (Enc.strip l).getD i 0 = l.getD i 0 := by
  obtain ⟨n, hn⟩ := Enc.strip_pre l
  conv => rhs; rw [hn]
  rw [getD_zeros]
theorem wf_u16 {n : Int} (h : (Lit.int .u16 n).wf = true) : 0 ≤ n ∧ n ≤ 65535 := by
  simp only [Lit.wf, Bool.and_eq_true, decide_eq_true_eq] at h
  have e1 : IntKind.min .u16 = 0 := by decide
  have e2 : IntKind.max .u16 = 65535 := by decide
  rw [e1, e2] at h
  exact h
end Go.Proofs.Ytlbjoflmfboeeaa.Deco

/-
  The walk of energy.Ceilings: the ceilings of 512 lines; ErrArg of any other number of them. No condition.
-/
set_option linter.unusedVariables false
set_option linter.unusedSimpArgs false
namespace Go.Proofs.Ytlbjoflmfboeeaa.Ceil
open Go.RowKit Go.Proofs.Ytlbjoflmfboeeaa Go.Proofs.YtlbjoflmfboeeaaW.PrintWords Go.Proofs.YtlbjoflmfboeeaaW.PrintLast Go.Proofs.YtlbjoflmfboeeaaW.PrintMore
open Go.Proofs.Ytlbjoflmfboeeaa.PLen32 (bits_Len32.f bits_Len32.calls)

theorem w64 {x : Int} (h0 : -9223372036854775808 ≤ x) (h1 : x < 9223372036854775808) : wrap64 x = x := by unfold wrap64; omega
theorem w32 {x : Int} (h0 : -2147483648 ≤ x) (h1 : x < 2147483648) : wrap32 x = x := by unfold wrap32; omega
theorem wf_i64 {x : Int} (h : (Lit.int .i64 x).wf = true) : -9223372036854775808 ≤ x ∧ x < 9223372036854775808 := by
  simp [Lit.wf, IntKind.min, IntKind.max, IntKind.signed, IntKind.bits] at h; omega
theorem wf_i32 {x : Int} (h : (Lit.int .i32 x).wf = true) : -2147483648 ≤ x ∧ x < 2147483648 := by
  simp [Lit.wf, IntKind.min, IntKind.max, IntKind.signed, IntKind.bits] at h; omega
theorem wf_u64 {x : Int} (h : (Lit.int .u64 x).wf = true) : 0 ≤ x ∧ x < 18446744073709551616 := by
  simp [Lit.wf, IntKind.min, IntKind.max, IntKind.signed, IntKind.bits] at h; omega
theorem wf_u32 {x : Int} (h : (Lit.int .u32 x).wf = true) : 0 ≤ x ∧ x < 4294967296 := by
  simp [Lit.wf, IntKind.min, IntKind.max, IntKind.signed, IntKind.bits] at h; omega
/-- Powers of two as whole numbers: the greatest that are asked. -/
theorem pw_pos (n : Nat) : (0 : Int) < 2 ^ n := Int.pow_pos (by omega)
theorem pw_succ (n : Nat) : (2 : Int) ^ (n + 1) = 2 * 2 ^ n := by rw [Int.pow_succ]; omega
theorem pw_le {a b : Nat} (h : a ≤ b) : (2 : Int) ^ a ≤ 2 ^ b := by
  induction h with
  | refl => exact Int.le_refl _
  | step _ ih => rw [pw_succ]; have := pw_pos a; omega
theorem pw62 {n : Nat} (h : n ≤ 62) : (2 : Int) ^ n ≤ 4611686018427387904 := pw_le (a := n) (b := 62) h
theorem and_one_i64 (x : Int) : Go.bits .and .i64 x 1 = x % 2 := by
  show IntKind.i64.wrap ((BitVec.ofInt 64 x &&& BitVec.ofInt 64 1).toNat : Int) = _
  have h1 : (BitVec.ofInt 64 1).toNat = 1 := by decide
  have h2 : ((BitVec.ofInt 64 x).toNat : Int) = x % 18446744073709551616 := by
    rw [BitVec.toNat_ofInt, Int.toNat_of_nonneg (Int.emod_nonneg _ (by decide))]; rfl
  rw [BitVec.toNat_and, h1, Nat.and_one_is_mod, IntKind.wrap_i64]
  omega
/-- n divided by 2^by to the nearest, halves upwards. -/
def rnd (n : Int) (by_ : Nat) : Int := if by_ = 0 then n else n / 2 ^ by_ + n / 2 ^ (by_ - 1) % 2
theorem div_bd (n d : Int) (hd : 1 ≤ d) (h0 : -9223372036854775808 ≤ n) (h1 : n < 9223372036854775808) : -9223372036854775808 ≤ n / d ∧ n / d < 9223372036854775808 := by
  constructor
  · rw [Int.le_ediv_iff_mul_le (by omega)]
    have : (-9223372036854775808 : Int) * d ≤ -9223372036854775808 * 1 := Int.mul_le_mul_of_nonpos_left (by decide) hd
    omega
  · rw [Int.ediv_lt_iff_lt_mul (by omega)]
    have : (9223372036854775808 : Int) * 1 ≤ 9223372036854775808 * d := Int.mul_le_mul_of_nonneg_left hd (by decide)
    omega
theorem div2_bd (n d : Int) (hd : 2 ≤ d) (h0 : -9223372036854775808 ≤ n) (h1 : n < 9223372036854775808) : -4611686018427387904 ≤ n / d ∧ n / d < 4611686018427387904 := by
  constructor
  · rw [Int.le_ediv_iff_mul_le (by omega)]
    have : (-4611686018427387904 : Int) * d ≤ -4611686018427387904 * 2 := Int.mul_le_mul_of_nonpos_left (by decide) hd
    omega
  · rw [Int.ediv_lt_iff_lt_mul (by omega)]
    have : (4611686018427387904 : Int) * 2 ≤ 4611686018427387904 * d := Int.mul_le_mul_of_nonneg_left hd (by decide)
    omega
theorem rnd_bd (n : Int) (b : Nat) (h0 : -9223372036854775808 ≤ n) (h1 : n < 9223372036854775808) : -9223372036854775808 ≤ rnd n b ∧ rnd n b < 9223372036854775808 := by
  unfold rnd
  by_cases hb : b = 0
  · rw [if_pos hb]; exact ⟨h0, h1⟩
  · rw [if_neg hb]
    obtain ⟨c, rfl⟩ : ∃ c, b = c + 1 := ⟨b - 1, by omega⟩
    have := div2_bd n (2 ^ (c + 1)) (by rw [pw_succ]; have := pw_pos c; omega) h0 h1
    omega
/-- The least number of so many bits, from 1 to 64. -/
def least (w : Nat) : Int := -2 ^ (w - 1)
/-- n held to w bits; 0, if there are no such bits. -/
def sat (n w : Int) : Int := if w < 1 ∨ 64 < w then 0 else if n < least w.toNat then least w.toNat else if n > -(least w.toNat + 1) then -(least w.toNat + 1) else n
theorem least_bd {w : Nat} (h0 : 1 ≤ w) (h1 : w ≤ 64) : -9223372036854775808 ≤ least w ∧ least w ≤ -1 := by
  unfold least
  have := pw_pos (w - 1)
  have : (2 : Int) ^ (w - 1) ≤ 2 ^ 63 := pw_le (by omega)
  omega
theorem sat_bd (n w : Int) (h0 : -9223372036854775808 ≤ n) (h1 : n < 9223372036854775808) : -9223372036854775808 ≤ sat n w ∧ sat n w < 9223372036854775808 := by
  unfold sat
  by_cases h : w < 1 ∨ 64 < w
  · rw [if_pos h]; omega
  · rw [if_neg h]
    have := least_bd (w := w.toNat) (by omega) (by omega)
    split
    · omega
    · split <;> omega

def TABL : ByteArray := ⟨#[0, 1, 2, 2, 3, 3, 3, 3, 4, 4, 4, 4, 4, 4, 4, 4, 5, 5, 5, 5, 5, 5, 5, 5, 5, 5, 5, 5, 5, 5, 5, 5, 6, 6, 6, 6, 6, 6, 6, 6, 6, 6, 6, 6, 6, 6, 6, 6, 6, 6, 6, 6, 6, 6, 6, 6, 6, 6, 6, 6, 6, 6, 6, 6, 7, 7, 7, 7, 7, 7, 7, 7, 7, 7, 7, 7, 7, 7, 7, 7, 7, 7, 7, 7, 7, 7, 7, 7, 7, 7, 7, 7, 7, 7, 7, 7, 7, 7, 7, 7, 7, 7, 7, 7, 7, 7, 7, 7, 7, 7, 7, 7, 7, 7, 7, 7, 7, 7, 7, 7, 7, 7, 7, 7, 7, 7, 7, 7, 8, 8, 8, 8, 8, 8, 8, 8, 8, 8, 8, 8, 8, 8, 8, 8, 8, 8, 8, 8, 8, 8, 8, 8, 8, 8, 8, 8, 8, 8, 8, 8, 8, 8, 8, 8, 8, 8, 8, 8, 8, 8, 8, 8, 8, 8, 8, 8, 8, 8, 8, 8, 8, 8, 8, 8, 8, 8, 8, 8, 8, 8, 8, 8, 8, 8, 8, 8, 8, 8, 8, 8, 8, 8, 8, 8, 8, 8, 8, 8, 8, 8, 8, 8, 8, 8, 8, 8, 8, 8, 8, 8, 8, 8, 8, 8, 8, 8, 8, 8, 8, 8, 8, 8, 8, 8, 8, 8, 8, 8, 8, 8, 8, 8, 8, 8, 8, 8, 8, 8, 8, 8, 8, 8, 8, 8, 8, 8]⟩
/-- How many bits a number has. -/
def blen (n : Int) : Int := if n ≤ 0 then 0 else (n.toNat.log2 : Int) + 1
theorem TABL_all : ∀ i : Fin 256, bt TABL (i.val : Int) = blen (i.val : Int) := by decide +kernel
theorem TABL_eq (x : Int) (h0 : 0 ≤ x) (h1 : x < 256) : bt TABL x = blen x := by
  have := TABL_all ⟨x.toNat, by omega⟩
  simpa [Int.toNat_of_nonneg h0] using this
theorem blen_small {x : Int} (h0 : 0 ≤ x) (h1 : x < 256) : 0 ≤ blen x ∧ blen x ≤ 8 := by
  unfold blen
  split
  · omega
  · have := (Nat.log2_lt (n := x.toNat) (k := 8) (by omega)).2 (by omega)
    omega
theorem blen_div (x : Int) (j : Nat) (h : (2 : Int) ^ j ≤ x) : blen x = j + blen (x / 2 ^ j) := by
  have hp := pw_pos j
  have hx : 1 ≤ x / 2 ^ j := by rw [Int.le_ediv_iff_mul_le hp]; omega
  unfold blen
  rw [if_neg (by omega), if_neg (by omega)]
  obtain ⟨n, rfl⟩ := Int.eq_ofNat_of_zero_le (show 0 ≤ x by omega)
  have e : ((n : Int) / 2 ^ j).toNat = n / 2 ^ j := by
    rw [show ((2 : Int) ^ j) = ((2 ^ j : Nat) : Int) from by rw [Int.natCast_pow]; rfl, ← Int.natCast_ediv, Int.toNat_natCast]
  have hn : n / 2 ^ j ≠ 0 := by
    intro h0
    rw [← e] at h0
    omega
  rw [e, Int.toNat_natCast]
  have k1 := Nat.log2_self_le hn
  have k2 := Nat.lt_log2_self (n := n / 2 ^ j)
  have : n.log2 = j + (n / 2 ^ j).log2 := by
    rw [Nat.log2_eq_iff (by omega)]
    constructor
    · rw [Nat.pow_add, Nat.mul_comm]
      exact (Nat.le_div_iff_mul_le (Nat.two_pow_pos j)).1 k1
    · rw [show j + (n / 2 ^ j).log2 + 1 = ((n / 2 ^ j).log2 + 1) + j from by omega, Nat.pow_add]
      exact (Nat.div_lt_iff_lt_mul (Nat.two_pow_pos j)).1 k2
  omega
theorem blen_lt {x : Int} (h0 : 0 ≤ x) : x < 2 ^ (blen x).toNat := by
  unfold blen
  split
  · rw [show x = 0 from by omega]; decide
  · obtain ⟨n, rfl⟩ := Int.eq_ofNat_of_zero_le h0
    rw [show (((n : Int).toNat.log2 : Int) + 1).toNat = n.log2 + 1 from by rw [Int.toNat_natCast]; omega]
    have := Nat.lt_log2_self (n := n)
    rw [show ((2 : Int) ^ (n.log2 + 1)) = ((2 ^ (n.log2 + 1) : Nat) : Int) from by rw [Int.natCast_pow]; rfl]
    omega
theorem blen_ge {x : Int} (h : 1 ≤ x) : 1 ≤ blen x ∧ 2 ^ ((blen x).toNat - 1) ≤ x := by
  unfold blen
  rw [if_neg (by omega)]
  obtain ⟨n, rfl⟩ := Int.eq_ofNat_of_zero_le (show 0 ≤ x by omega)
  refine ⟨by omega, ?_⟩
  rw [show (((n : Int).toNat.log2 : Int) + 1).toNat - 1 = n.log2 from by rw [Int.toNat_natCast]; omega]
  have := Nat.log2_self_le (n := n) (by omega)
  rw [show ((2 : Int) ^ n.log2) = ((2 ^ n.log2 : Nat) : Int) from by rw [Int.natCast_pow]; rfl]
  omega
theorem blen_le {x : Int} {j : Nat} (h0 : 0 ≤ x) (h : x < 2 ^ j) : 0 ≤ blen x ∧ blen x ≤ j := by
  unfold blen
  split
  · omega
  · obtain ⟨n, rfl⟩ := Int.eq_ofNat_of_zero_le h0
    rw [Int.toNat_natCast]
    have : n.log2 < j := (Nat.log2_lt (by omega)).2 (by rw [show ((2 : Int) ^ j) = ((2 ^ j : Nat) : Int) from by rw [Int.natCast_pow]; rfl] at h; omega)
    omega

theorem len32_eq (a0 : Int) : bits_Len32.f a0 = (if a0 ≥ 65536 then (if (a0 / 65536) ≥ 256 then (if 0 ≤ (((a0 / 65536) / 256) % 256) then (if (((a0 / 65536) / 256) % 256) < 256 then (some (wrap64 ((16 + 8) + (wrap64 (bt TABL (((a0 / 65536) / 256) % 256)))))) else (none)) else (none)) else (if 0 ≤ ((a0 / 65536) % 256) then (if ((a0 / 65536) % 256) < 256 then (some (wrap64 (16 + (wrap64 (bt TABL ((a0 / 65536) % 256)))))) else (none)) else (none))) else (if a0 ≥ 256 then (if 0 ≤ ((a0 / 256) % 256) then (if ((a0 / 256) % 256) < 256 then (some (wrap64 (8 + (wrap64 (bt TABL ((a0 / 256) % 256)))))) else (none)) else (none)) else (if 0 ≤ ((a0) % 256) then (if ((a0) % 256) < 256 then (some (wrap64 (0 + wrap64 (bt TABL ((a0) % 256))))) else (none)) else (none)))) := by
  first | rfl | (rw [Int.zero_add]; rfl)
theorem len32 (x : Int) (h0 : 0 ≤ x) (h1 : x < 4294967296) : bits_Len32.f x = some (blen x) := by
  have core : ∀ y t : Int, 0 ≤ y → y < 256 → 0 ≤ t → t ≤ 56 → (if 0 ≤ y % 256 then (if y % 256 < 256 then some (wrap64 (t + wrap64 (bt TABL (y % 256)))) else none) else none) = some (t + blen y) := by
    intro y t hy0 hy1 ht0 ht1
    have hb := blen_small hy0 hy1
    rw [if_pos (by omega), if_pos (by omega), show y % 256 = y from by omega, TABL_eq y hy0 hy1, w64 (x := blen y) (by omega) (by omega), w64 (by omega) (by omega)]
  rw [len32_eq]
  by_cases ha : x ≥ 65536
  · rw [if_pos ha]
    have d1 := blen_div x 16 (by omega)
    rw [show ((2 : Int) ^ 16) = 65536 from by decide] at d1
    by_cases hb : x / 65536 ≥ 256
    · rw [if_pos hb]
      have d2 := blen_div (x / 65536) 8 (by omega)
      rw [show ((2 : Int) ^ 8) = 256 from by decide] at d2
      refine (core (x / 65536 / 256) (16 + 8) (by omega) (by omega) (by omega) (by omega)).trans ?_
      congr 1; omega
    · rw [if_neg hb]
      refine (core (x / 65536) 16 (by omega) (by omega) (by omega) (by omega)).trans ?_
      congr 1; omega
  · rw [if_neg ha]
    by_cases hb : x ≥ 256
    · rw [if_pos hb]
      have d2 := blen_div x 8 (by omega)
      rw [show ((2 : Int) ^ 8) = 256 from by decide] at d2
      refine (core (x / 256) 8 (by omega) (by omega) (by omega) (by omega)).trans ?_
      congr 1; omega
    · rw [if_neg hb]
      refine (core x 0 h0 (by omega) (by omega) (by omega)).trans ?_
      congr 1; omega

/-- How many bits a number has, without its sign. -/
def mag (x : Int) : Int := blen (x.natAbs : Int)
def I32 (x : Int) : Prop := -2147483648 ≤ x ∧ x < 2147483648
theorem mag_mx (x : Int) (h : I32 x) : bits_Len32.f ((mx x (wrap32 (-x))) % 4294967296) = some (mag x) := by
  unfold I32 at h
  have e : (mx x (wrap32 (-x))) % 4294967296 = (x.natAbs : Int) := by unfold mx wrap32; split <;> omega
  rw [e, len32 _ (by omega) (by omega)]; rfl
theorem rd_nat (l : List Int) (i : Nat) (h : i < l.length) : rd l (i : Int) = l[i] := by
  unfold rd
  rw [Int.toNat_natCast, List.getD_eq_getElem?_getD, List.getElem?_eq_getElem h]; rfl
theorem set_same (l : List Int) (i : Nat) (h : i < l.length) : l.set i (rd l (i : Int)) = l := by
  rw [rd_nat l i h]; exact List.set_getElem_self h
theorem rd_set (l : List Int) (i : Nat) (v : Int) (h : i < l.length) : rd (l.set i v) (i : Int) = v := by
  rw [rd_nat _ i (by simpa using h)]; simp
/-- The greatest of some numbers' bits, from one on. -/
def most (l : List Int) (m : Int) : Int := l.foldl (fun m x => mx m (mag x)) m
/-- The bands' edges. -/
def edges : List Int := [0, 4, 8, 12, 16, 20, 24, 28, 32, 40, 48, 56, 64, 80, 96, 112, 128, 160, 192, 256, 352, 512]
def edge (i : Nat) : Nat := (edges.getD i 0).toNat
theorem edges_ok : ∀ i : Fin 22, rd edges (i.val : Int) = (edge i.val : Int) ∧ edge i.val ≤ 512 := by decide
theorem edges_up : ∀ i : Fin 21, edge i.val ≤ edge (i.val + 1) := by decide
/-- A band's ceiling, in its place. -/
def one (l : List Int) (out : List Int) (i : Nat) : List Int := out.set i (most ((l.take (edge (i + 1))).drop (edge i)) (rd out (i : Int)))
def ceilsFrom (l : List Int) : Nat → List Int → Nat → List Int
  | 0, out, _ => out
  | d + 1, out, i => ceilsFrom l d (one l out i) (i + 1)
/-- The ceilings of 512 lines. -/
def ceils (l : List Int) : List Int := ceilsFrom l 21 (List.replicate 21 0) 0
theorem most_bd (s : List Int) (hs : ∀ x ∈ s, I32 x) : ∀ m : Int, 0 ≤ m → m ≤ 32 → 0 ≤ most s m ∧ most s m ≤ 32 := by
  induction s with
  | nil => intro m h0 h1; exact ⟨h0, h1⟩
  | cons x s ih =>
    intro m h0 h1
    have hx := hs x (by simp)
    unfold I32 at hx
    have hb : 0 ≤ mag x ∧ mag x ≤ 32 := blen_le (j := 32) (by omega) (by omega)
    have : most (x :: s) m = most s (mx m (mag x)) := rfl
    rw [this]
    refine ih (fun y hy => hs y (by simp [hy])) _ ?_ ?_ <;> (unfold mx; split <;> omega)
theorem ceilsFrom_len (l : List Int) (d : Nat) : ∀ (out : List Int) (i : Nat), (ceilsFrom l d out i).length = out.length := by
  induction d with
  | zero => intro out i; rfl
  | succ d ih => intro out i; show (ceilsFrom l d (one l out i) (i + 1)).length = _; rw [ih]; unfold one; simp
theorem ceils_len (l : List Int) : (ceils l).length = 21 := by unfold ceils; rw [ceilsFrom_len]; simp

theorem len32_calls (x : Int) (h : I32 x) (w : World) : Calls Try.prog 89 #[.int .u32 ((mx x (wrap32 (-x))) % 4294967296)] w fun e w' => e = .returned (.int .i64 (mag x)) ∧ ∃ m, w' = w.drewN m :=
  (bits_Len32.calls _ (mag x) w (mag_mx x h)).mono fun _ _ ⟨he, m, hm⟩ => ⟨he, m, hm⟩
theorem len32_calls' (x : Int) (h : I32 x) (w : World) : Calls Try.prog 89 #[.int .u32 (IntKind.u32.wrap (if x < IntKind.i32.wrap (-x) then IntKind.i32.wrap (-x) else x))] w fun e w' => e = .returned (.int .i64 (mag x)) ∧ ∃ m, w' = w.drewN m := by
  have e : IntKind.u32.wrap (if x < IntKind.i32.wrap (-x) then IntKind.i32.wrap (-x) else x) = (mx x (wrap32 (-x))) % 4294967296 := by
    have h1 : IntKind.i32.wrap (-x) = wrap32 (-x) := by
      unfold IntKind.wrap wrap32
      simp only [IntKind.bits, IntKind.signed]
      simp
      split <;> omega
    have h2 : ∀ n : Int, IntKind.u32.wrap n = n % 4294967296 := fun n => rfl
    rw [h1, h2]; rfl
  rw [e]; exact len32_calls x h w
theorem edges_calls (w : World) : Calls Try.prog 85 #[] w fun e w' => ∃ g cap, e = .returned (.slice (some ⟨g, 0, none⟩) 22 cap) ∧ w.heap.size ≤ g ∧ RowI w' 3 .i64 g cap edges ∧ Below w.heap.size w w' :=
  (PQuantNear.bands_Edges.calls edges w rfl).mono fun e w' ⟨v, he, hr, hb⟩ => by
    obtain ⟨g, cap, hv, hg, hrow⟩ := rowI_of_R hr (by decide)
    exact ⟨g, cap, by rw [he, hv]; rfl, hg, hrow, hb⟩
theorem edges_lt : ∀ i : Fin 21, edge i.val < edge (i.val + 1) := by decide
/-- What the outer loop has: the ceilings of the first k bands. -/
def after (l : List Int) : Nat → List Int
  | 0 => List.replicate 21 0
  | k + 1 => one l (after l k) k
theorem after_len (l : List Int) (k : Nat) : (after l k).length = 21 := by
  induction k with
  | zero => simp [after]
  | succ k ih => show (one l (after l k) k).length = 21; unfold one; simpa using ih
theorem after_from (l : List Int) (d : Nat) : ∀ k, ceilsFrom l d (after l k) k = after l (k + d) := by
  induction d with
  | zero => intro k; rfl
  | succ d ih => intro k; show ceilsFrom l d (after l (k + 1)) (k + 1) = _; rw [ih, show k + 1 + d = k + (d + 1) from by omega]
theorem after_all (l : List Int) : after l 21 = ceils l := by
  have := after_from l 21 0
  rw [show (0 : Nat) + 21 = 21 from rfl] at this
  exact this.symm
theorem addr_block (a : Addr) (n : Nat) : (a.add n).block = a.block := by unfold Addr.add; split <;> rfl
theorem addr_add (a : Addr) (i j : Nat) : (a.add i).add j = a.add (i + j) := by
  unfold Addr.add
  by_cases hi : i = 0 <;> by_cases hj : j = 0 <;> simp [hi, hj, Nat.add_assoc]
/-- What the inner loop has behind j lines. -/
def inn (l : List Int) (lo hi : Nat) (out : List Int) (k j : Nat) : List Int := out.set k (most (((l.take hi).drop lo).take j) (rd out (k : Int)))
theorem inn_len (l : List Int) (lo hi : Nat) (out : List Int) (k j : Nat) : (inn l lo hi out k j).length = out.length := by unfold inn; simp
theorem inn_zero (l : List Int) (lo hi : Nat) (out : List Int) (k : Nat) (h : k < out.length) : inn l lo hi out k 0 = out := by
  unfold inn most
  rw [List.take_zero, List.foldl_nil, set_same _ _ h]
theorem inn_step (l : List Int) (lo hi : Nat) (out : List Int) (k j : Nat) (h1 : hi ≤ l.length) (h2 : j < hi - lo) (h3 : lo + j < l.length) (h4 : k < out.length) :
    (inn l lo hi out k j).set k (mx ((inn l lo hi out k j)[k]'(by rw [inn_len]; exact h4)) (mag l[lo + j])) = inn l lo hi out k (j + 1) := by
  unfold inn
  rw [List.set_set, List.getElem_set_self]
  congr 1
  have e : ((l.take hi).drop lo).take (j + 1) = ((l.take hi).drop lo).take j ++ [l[lo + j]] := by
    have hlen : j < ((l.take hi).drop lo).length := by rw [List.length_drop, List.length_take]; omega
    rw [List.take_succ_eq_append_getElem hlen]
    congr 2
    rw [List.getElem_drop, List.getElem_take]
  rw [e]
  unfold most
  rw [List.foldl_append]; rfl
theorem inn_all (l : List Int) (k : Nat) (h : edge (k + 1) ≤ l.length) (out : List Int) : inn l (edge k) (edge (k + 1)) out k (edge (k + 1) - edge k) = one l out k := by
  unfold inn one
  rw [List.take_of_length_le]
  rw [List.length_drop, List.length_take]; omega
attribute [local go_sem] max2_int min2_int max_two min_two
set_option maxHeartbeats 4000000 in
set_option maxRecDepth 100000 in
theorem Ceilings_yes (l : List Int) (hl : l.length = 512) (hi : ∀ x ∈ l, I32 x) (A : Option Addr) (c : Nat) (w : World) (hr : (Kd.int .i32).C w A l.length l) (hc : l.length ≤ c) :
    Calls Try.prog 75 #[.slice A l.length c] w fun e w' => ∃ g cap, e = .returned (.tuple #[.slice (some ⟨g, 0, none⟩) 21 cap, .int .i64 0]) ∧ w.heap.size ≤ g ∧ RowI w' 3 .i64 g cap (ceils l) ∧ Below w.heap.size w w' := by
  obtain ⟨ad, rfl, hx0⟩ := cell_C hr (i := 0) (by omega)
  have had : ad.block < w.heap.size := World.block_lt_of_cell? w _ hx0
  clear hx0
  have hm : ∀ w : World, (Instr.makeSlice 54 (.int .i64 21) (.int .i64 21)).run Try.prog w = .ok (.slice (some ⟨w.heap.size, 0, none⟩) 21 21) (w.alloc (.cells (madeCells #[.int .i64 0] 21) 3)) := fun w => run_make_row' 54 3 (.int .i64 0) 8 Try.underlying54 (by kernel_rfl) rfl .i64 .i64 21 (by omega) (by omega) w
  rw [hl] at hc ⊢
  have HR := Lib.hid hr
  have HI := Lib.hid hi
  have HL := Lib.hid hl
  clear hr hi hl
  go_enter Try.func75, Try.ntmps75
  go_wp2_with (go_at_call 85; refine (edges_calls _).mono ?_; rintro e w1 ⟨ge, ce, rfl, hge, hre, hb1⟩)
  have hlt := hre.lt
  have hsz := hb1.size
  obtain ⟨G, hG⟩ : ∃ G, w1.heap.size = G := ⟨_, rfl⟩
  have HG := Lib.hid hG
  have HE := Lib.hid (hre.alloc (.cells (madeCells #[.int .i64 0] 21) 3))
  have HO := Lib.hid (RowI.new w1 3 .i64 21 0 (by decide))
  have HB := Lib.hid ((hb1.alloc hsz (.cells (madeCells #[.int .i64 0] 21) 3)))
  rw [hG] at HO
  have hne : ge ≠ w1.heap.size := by omega
  rw [hG] at hne hlt hsz ⊢
  clear hre hb1 hG
  go_loopw [16] (fun i wr => ∃ k : Nat, k ≤ 21 ∧ i = .int .i64 k ∧ Hid (RowI wr 3 .i64 ge ce edges) ∧ Hid (RowI wr 3 .i64 G 21 (after l k)) ∧ Hid (Below w.heap.size w wr)) (fun i _ => 21 - (intOf i).toNat)
  case atStart => exact ⟨0, by omega, rfl, HE, HO, HB⟩
  case round =>
    clear HE HO HB
    obtain ⟨k, hk, rfl, HE, HO, HB⟩ := hrel
    by_cases hlt2 : k < 21
    · have e1 := edges_ok ⟨k, by omega⟩
      have e2 := edges_ok ⟨k + 1, by omega⟩
      have e3 := edges_lt ⟨k, hlt2⟩
      have c1 := HE.out.cell (i := k) (by show k < 22; omega)
      have c2 := HE.out.cell (i := k + 1) (by show k + 1 < 22; omega)
      rw [← rd_nat edges k (by show k < 22; omega), e1.1] at c1
      rw [← rd_nat edges (k + 1) (by show k + 1 < 22; omega), e2.1] at c2
      have h512 := e2.2
      have HLo : ∃ lo hi : Nat, Hid (edge k = lo) ∧ Hid (edge (k + 1) = hi) ∧ lo < hi ∧ hi ≤ 512 ∧ wr.cell? ⟨ge, k, none⟩ = some (.int .i64 (lo : Int)) ∧ wr.cell? ⟨ge, k + 1, none⟩ = some (.int .i64 (hi : Int)) := ⟨_, _, rfl, rfl, e3, h512, c1, c2⟩
      clear e1 e2 e3 c1 c2 h512
      obtain ⟨lo, hi, HLo, HHi, b1, b2, c1, c2⟩ := HLo
      have hcl : ¬ c = lo := by omega
      go_wp2_with fail
      go_quiet (fail)
      go_wp2_with fail
      go_loopw [31] (fun x wq => ∃ j : Nat, j ≤ hi - lo ∧ x = .int .i64 j ∧ Hid (RowI wq 3 .i64 ge ce edges) ∧ Hid (RowI wq 3 .i64 G 21 (inn l lo hi (after l k) k j)) ∧ Hid (Below w.heap.size w wq)) (fun x _ => (hi - lo) - (intOf x).toNat)
      case atStart => exact ⟨0, by omega, rfl, HE.out.drewN _, by rw [inn_zero _ _ _ _ _ (by rw [after_len]; exact hlt2)]; exact HO.out.drewN _, pw_below_drewN HB.out _⟩
      case round =>
        clear HE HO HB c1 c2
        obtain ⟨j, hj, rfl, HE, HO, HB⟩ := hrel
        by_cases hjl : j < hi - lo
        · have hli := inn_len l lo hi (after l k) k j
          rw [after_len] at hli
          have d1 := HO.out.cell (i := k) (by rw [hli]; exact hlt2)
          have f1 := HO.out.free k
          have hx : lo + j < l.length := by rw [HL.out]; omega
          obtain ⟨ad', ha', d2⟩ := cell_C HR.out hx
          cases ha'
          have hxi := HI.out _ (List.getElem_mem hx)
          rw [← HB.out.cell (p := ad.add (lo + j)) (by rw [addr_block]; exact had), ← addr_add] at d2
          have HN := Lib.hid (inn_step l lo hi (after l k) k j (by rw [HL.out]; omega) (by omega) hx (by rw [after_len]; exact hlt2))
          generalize l[lo + j] = x at *
          generalize (inn l lo hi (after l k) k j)[k]'(by rw [hli]; exact hlt2) = m at *
          clear hli
          go_wp2_with fail
          refine region_quiet_tail 14 (by kernel_rfl) (by kernel_rfl) ?_
          simp only [List.take_succ_cons, List.take_zero, List.drop_succ_cons, List.drop_zero]
          repeat (quiet_step ((go_at_call 89; exact Calls.quiet_of (len32_calls' _ hxi _))))
          refine wpQuiet_nil ?_
          rintro _ ⟨nq, rfl⟩
          go_wp2_with fail
          all_goals (
            first
            | (have hmx : mx m (mag x) = m := by unfold mx; split <;> omega)
            | (have hmx : mx m (mag x) = mag x := by unfold mx; split <;> omega)
            have HN2 := HN.out
            rw [hmx] at HN2
            refine ⟨⟨j + 1, by omega, by push_cast; rfl, (HE.out.drewN nq).other hne _, ?_, (pw_below_drewN HB.out nq).setCell hsz _⟩, by simp [intOf]; omega⟩
            rw [← HN2]; exact (HO.out.drewN nq).set k _)
        · have hje : j = hi - lo := by omega
          have hin := inn_all l k (by rw [HL.out, HHi.out]; exact b2) (after l k)
          rw [HLo.out, HHi.out] at hin
          rw [hje, hin] at HO
          go_wp2_with fail
          exact ⟨⟨k + 1, by omega, by push_cast; rfl, HE, HO, HB⟩, by simp [intOf]; omega⟩
    · obtain rfl : k = 21 := by omega
      go_wp2_with fail
      go_ret2
      rw [← after_all]
      exact ⟨G, 21, rfl, hsz, HO.out, HB.out⟩
theorem Ceilings_no (l : List Int) (hl : l.length ≠ 512) (A : Option Addr) (c : Nat) (w : World) :
    Calls Try.prog 75 #[.slice A l.length c] w fun e w' => e = .returned (.tuple #[.slice none 0 0, .int .i64 1]) ∧ w' = w := by
  obtain ⟨n, hn⟩ : ∃ n, l.length = n := ⟨_, rfl⟩
  rw [hn] at hl ⊢
  go_enter Try.func75, Try.ntmps75
  go_wp2
  go_ret2
  exact ⟨rfl, rfl⟩
/-- What energy.Ceilings answers. -/
instance (x : Int) : Decidable (I32 x) := inferInstanceAs (Decidable (_ ∧ _))
def fC (l : List Int) : Option (List Int × Int) := if l.length = 512 then (if ∀ x ∈ l, I32 x then some (ceils l, 0) else none) else some ([], 1)
theorem fC_calls (A : Option Addr) (c : Nat) (l : List Int) (r1 : List Int) (r2 : Int) (w : World) (hr : (Kd.int .i32).C w A l.length l) (hc : l.length ≤ c) (h : fC l = some (r1, r2)) :
    Calls Try.prog 75 #[.slice A l.length c] w fun e w' => ∃ v0_ : Value, e = .returned (.tuple #[v0_, .int .i64 r2]) ∧ Kd.R (Kd.int .i64) 3 w' w.heap.size (fun _ => True) v0_ r1 ∧ Below w.heap.size w w' := by
  unfold fC at h
  split at h
  · rename_i hl
    split at h
    · rename_i hi
      obtain ⟨rfl, rfl⟩ := Prod.mk.inj (Option.some.inj h)
      refine (Ceilings_yes l hl hi A c w hr hc).mono ?_
      rintro e w' ⟨g, cap, rfl, hg, hrow, hb⟩
      refine ⟨_, rfl, ?_, hb⟩
      have := R_of_rowI hrow hg
      rwa [ceils_len] at this
    · cases h
  · rename_i hl
    cases h
    refine (Ceilings_no l hl A c w).mono ?_
    rintro e w' ⟨rfl, rfl⟩
    refine ⟨_, rfl, ?_, Below.refl _ _⟩
    exact Kd.R_of_own (enc := Value.int .i64) (h1 := fun _ => rfl) ⟨rfl, .inl ⟨rfl, rfl⟩⟩ (fun _ _ => trivial)
end Go.Proofs.Ytlbjoflmfboeeaa.Ceil

/-
  The walks of energy.Right, apart, and of the document's; lives of law 10; no condition.
-/
set_option linter.unusedVariables false
set_option linter.unusedSimpArgs false
namespace Go.Proofs.Ytlbjoflmfboeeaa.Erg
open Go.RowKit Go.Proofs.Ytlbjoflmfboeeaa Go.Proofs.YtlbjoflmfboeeaaW.PrintWords

/-- May ceilings be? -/
def okc (x : Int) : Bool := decide (0 ≤ x ∧ x ≤ 26)
def rightB (l : List Int) : Bool := l.all okc && decide (l.length = 21)
theorem all_drop (l : List Int) (j : Nat) (h : j < l.length) : (l.drop j).all okc = (okc l[j] && (l.drop (j + 1)).all okc) := by
  rw [List.drop_eq_getElem_cons h, List.all_cons]
set_option maxRecDepth 100000 in
theorem Right_calls {w : World} {u : Value} {l : List Int} (src : Src w .i64 u l) (hl : l.length ≤ 1000000000) :
    Calls Try.prog 76 #[u] w fun e w' => e = .returned (.bool (rightB l)) ∧ w' = w := by
  obtain ⟨A, c, rfl, h⟩ := src
  have H := Lib.hid h
  have HL : Hid (l.length = l.length) := Lib.hid rfl
  clear h
  obtain ⟨n, hn⟩ : ∃ n, l.length = n := ⟨_, rfl⟩
  rw [hn] at hl ⊢
  have HN := Lib.hid hn
  clear hn HL
  go_enter Try.func76, Try.ntmps76
  go_wp2
  go_loopw [7] (fun u wr => ∃ k : Nat, k ≤ n ∧ u = .int .i64 (k : Int) ∧ Hid (rightB l = ((l.drop k).all okc && decide (l.length = 21))) ∧ wr = w) (fun u _ => n - (intOf u).toNat)
  case atStart => exact ⟨0, by omega, rfl, rfl, rfl⟩
  case round =>
    obtain ⟨k, hk, rfl, HR, rfl⟩ := hrel
    by_cases hlt : k < n
    · obtain ⟨ad, rfl, hc⟩ := H.out (by rw [HN.out]; omega)
      have dk := hc k (by rw [HN.out]; omega)
      have HA := Lib.hid (all_drop l k (by rw [HN.out]; omega))
      have ik : (k : Int) < (n : Int) := by omega
      clear hc
      generalize l[k]'(by rw [HN.out]; omega) = x at *
      by_cases h1 : x < 0
      · have HF : Hid (rightB l = false) := Lib.hid (by rw [HR.out, HA.out]; unfold okc; rw [decide_eq_false (by omega)]; rfl)
        go_wp2
        go_ret
        rw [HF.out]
        exact ⟨rfl, rfl⟩
      by_cases h2 : 26 < x
      · have HF : Hid (rightB l = false) := Lib.hid (by rw [HR.out, HA.out]; unfold okc; rw [decide_eq_false (by omega)]; rfl)
        go_wp2
        go_ret
        rw [HF.out]
        exact ⟨rfl, rfl⟩
      have HT : Hid (rightB l = ((l.drop (k + 1)).all okc && decide (l.length = 21))) := Lib.hid (by rw [HR.out, HA.out]; unfold okc; rw [decide_eq_true (show 0 ≤ x ∧ x ≤ 26 by omega), Bool.true_and])
      go_wp2
      go_roundw
      case rel => exact ⟨k + 1, by omega, by push_cast; rfl, HT, trivial⟩
      case measure => simp [intOf]; omega
    · obtain rfl : k = n := by omega
      have HF : Hid (rightB l = decide (k = 21)) := Lib.hid (by rw [HR.out, List.drop_of_length_le (by rw [HN.out]; omega), HN.out]; rfl)
      by_cases h21 : k = 21
      · subst h21
        go_wp2
        go_ret
        rw [HF.out]
        exact ⟨rfl, rfl⟩
      · have h22 : ¬ (k : Int) = 21 := by omega
        rw [decide_eq_false h21] at HF
        go_wp2
        go_ret
        rw [HF.out]
        exact ⟨by simp [h22], rfl⟩
set_option maxRecDepth 100000 in
theorem RRight_calls {w : World} {u : Value} {l : List Int} (src : Src w .i64 u l) (hl : l.length ≤ 1000000000) :
    Calls Try.prog 47 #[u] w fun e w' => e = .returned (.bool (rightB l)) ∧ w' = w := by
  obtain ⟨A, c, rfl, h⟩ := src
  have H := Lib.hid h
  have HL : Hid (l.length = l.length) := Lib.hid rfl
  clear h
  obtain ⟨n, hn⟩ : ∃ n, l.length = n := ⟨_, rfl⟩
  rw [hn] at hl ⊢
  have HN := Lib.hid hn
  clear hn HL
  go_enter Try.func47, Try.ntmps47
  go_wp2
  go_loopw [3] (fun u wr => ∃ k : Nat, k ≤ n ∧ u = .int .i64 (k : Int) ∧ Hid (rightB l = ((l.drop k).all okc && decide (l.length = 21))) ∧ wr = w) (fun u _ => n - (intOf u).toNat)
  case atStart => exact ⟨0, by omega, rfl, rfl, rfl⟩
  case round =>
    obtain ⟨k, hk, rfl, HR, rfl⟩ := hrel
    by_cases hlt : k < n
    · obtain ⟨ad, rfl, hc⟩ := H.out (by rw [HN.out]; omega)
      have dk := hc k (by rw [HN.out]; omega)
      have HA := Lib.hid (all_drop l k (by rw [HN.out]; omega))
      have ik : (k : Int) < (n : Int) := by omega
      clear hc
      generalize l[k]'(by rw [HN.out]; omega) = x at *
      by_cases h1 : x < 0
      · have HF : Hid (rightB l = false) := Lib.hid (by rw [HR.out, HA.out]; unfold okc; rw [decide_eq_false (by omega)]; rfl)
        go_wp2
        go_ret
        rw [HF.out]
        exact ⟨rfl, rfl⟩
      by_cases h2 : 26 < x
      · have HF : Hid (rightB l = false) := Lib.hid (by rw [HR.out, HA.out]; unfold okc; rw [decide_eq_false (by omega)]; rfl)
        go_wp2
        go_ret
        rw [HF.out]
        exact ⟨rfl, rfl⟩
      have HT : Hid (rightB l = ((l.drop (k + 1)).all okc && decide (l.length = 21))) := Lib.hid (by rw [HR.out, HA.out]; unfold okc; rw [decide_eq_true (show 0 ≤ x ∧ x ≤ 26 by omega), Bool.true_and])
      go_wp2
      go_roundw
      case rel => exact ⟨k + 1, by omega, by push_cast; rfl, HT, trivial⟩
      case measure => simp [intOf]; omega
    · obtain rfl : k = n := by omega
      have HF : Hid (rightB l = decide (k = 21)) := Lib.hid (by rw [HR.out, List.drop_of_length_le (by rw [HN.out]; omega), HN.out]; rfl)
      by_cases h21 : k = 21
      · subst h21
        go_wp2
        go_ret
        rw [HF.out]
        exact ⟨rfl, rfl⟩
      · have h22 : ¬ (k : Int) = 21 := by omega
        rw [decide_eq_false h21] at HF
        go_wp2
        go_ret
        rw [HF.out]
        exact ⟨by simp [h22], rfl⟩
/-- How often a ceiling differs by so much. -/
def apf (i : Nat) : Int := if min i (32 - i) = 0 then 3000 else if min i (32 - i) = 1 then 1500 else if min i (32 - i) = 2 then 500 else 10
def AP : List Int := [3000, 1500, 500, 10, 10, 10, 10, 10, 10, 10, 10, 10, 10, 10, 10, 10, 10, 10, 10, 10, 10, 10, 10, 10, 10, 10, 10, 10, 10, 10, 500, 1500]
theorem ap_fill : fillTo apf 32 32 = AP := by decide +kernel
theorem ap_good : Mdl.Good AP := ⟨by decide, by decide, by decide, by decide⟩
set_option maxHeartbeats 1000000 in
set_option maxRecDepth 100000 in
theorem apart_calls (w : World) : Calls Try.prog 77 #[] w fun e w' => ∃ m h cap, e = .returned (.pointer (some ⟨m, 0, none⟩)) ∧ w.heap.size ≤ m ∧ w.heap.size ≤ h ∧ Mdl.Is w' m h cap AP true ∧ Below w.heap.size w w' := by
  have hm : ∀ w : World, (Instr.makeSlice 45 (.int .i64 32) (.int .i64 32)).run Try.prog w = .ok (.slice (some ⟨w.heap.size, 0, none⟩) 32 32) (w.alloc (.cells (madeCells #[.int .u32 0] 32) 22)) := fun w => run_make_row' 45 22 (.int .u32 0) 4 Try.underlying45 (by kernel_rfl) rfl .i64 .i64 32 (by omega) (by omega) w
  go_enter Try.func77, Try.ntmps77
  go_wp2_with fail
  go_loopw [8] (fun u wr => ∃ k : Nat, k ≤ 32 ∧ u = .int .i64 (k : Int) ∧ Hid (RowI wr 22 .u32 w.heap.size 32 (fillTo apf 32 k)) ∧ Hid (Below w.heap.size w wr)) (fun u _ => 32 - (intOf u).toNat)
  case atStart => exact ⟨0, by omega, rfl, Lib.hid (by rw [fillTo_zero]; exact RowI.new w _ _ 32 0 (by decide)), ((Below.refl _ _).alloc (Nat.le_refl _) _ : Below _ _ _)⟩
  case round =>
    obtain ⟨k, hk, rfl, HR, HB⟩ := hrel
    by_cases hlt : k < 32
    · have dk := HR.out.cell (i := k) (by rw [fillTo_len]; exact hlt)
      have fk := HR.out.free k
      have HS := Lib.hid (fillTo_set apf 32 k)
      generalize (fillTo apf 32 k)[k]'(by rw [fillTo_len]; exact hlt) = y at *
      by_cases c0 : k = 0
      · subst c0
        have HV : Hid (apf 0 = 3000) := Lib.hid (by decide)
        rw [HV.out] at HS
        go_wp2_with fail
        go_roundw
        case rel => exact ⟨1, by omega, rfl, Lib.hid (by rw [← HS.out]; exact HR.out.set 0 _), (HB.out.setCell (p := ⟨w.heap.size, 0, none⟩) (Nat.le_refl _) _ : Below _ _ _)⟩
        case measure => simp [intOf]
      by_cases c1 : k = 1 ∨ k = 31
      · obtain ⟨z, hz⟩ : ∃ z : Int, z = min (k : Int) (32 - (k : Int)) := ⟨_, rfl⟩
        have m1 : min (k : Int) (32 - (k : Int)) = z := hz.symm
        have m2 : mn (k : Int) (32 - (k : Int)) = z := by rw [hz]; unfold mn; omega
        have m3 : (if (32 : Int) - (k : Int) < (k : Int) then (32 : Int) - (k : Int) else (k : Int)) = z := by omega
        obtain rfl : z = 1 := by omega
        have HV : Hid (apf k = 1500) := Lib.hid (by unfold apf; rw [if_neg (by omega), if_pos (by omega)])
        rw [HV.out] at HS
        clear hz
        go_wp2_with fail
        go_roundw
        case rel => exact ⟨k + 1, by omega, by push_cast; rfl, Lib.hid (by rw [← HS.out]; exact HR.out.set k _), (HB.out.setCell (p := ⟨w.heap.size, k, none⟩) (Nat.le_refl _) _ : Below _ _ _)⟩
        case measure => simp [intOf]; omega
      by_cases c2 : k = 2 ∨ k = 30
      · obtain ⟨z, hz⟩ : ∃ z : Int, z = min (k : Int) (32 - (k : Int)) := ⟨_, rfl⟩
        have m1 : min (k : Int) (32 - (k : Int)) = z := hz.symm
        have m2 : mn (k : Int) (32 - (k : Int)) = z := by rw [hz]; unfold mn; omega
        have m3 : (if (32 : Int) - (k : Int) < (k : Int) then (32 : Int) - (k : Int) else (k : Int)) = z := by omega
        obtain rfl : z = 2 := by omega
        have HV : Hid (apf k = 500) := Lib.hid (by unfold apf; rw [if_neg (by omega), if_neg (by omega), if_pos (by omega)])
        rw [HV.out] at HS
        clear hz
        go_wp2_with fail
        go_roundw
        case rel => exact ⟨k + 1, by omega, by push_cast; rfl, Lib.hid (by rw [← HS.out]; exact HR.out.set k _), (HB.out.setCell (p := ⟨w.heap.size, k, none⟩) (Nat.le_refl _) _ : Below _ _ _)⟩
        case measure => simp [intOf]; omega
      · obtain ⟨z, hz⟩ : ∃ z : Int, z = min (k : Int) (32 - (k : Int)) := ⟨_, rfl⟩
        have m1 : min (k : Int) (32 - (k : Int)) = z := hz.symm
        have m2 : mn (k : Int) (32 - (k : Int)) = z := by rw [hz]; unfold mn; omega
        have m3 : (if (32 : Int) - (k : Int) < (k : Int) then (32 : Int) - (k : Int) else (k : Int)) = z := by omega
        have z0 : ¬ z = 0 := by omega
        have z1 : ¬ z = 1 := by omega
        have z2 : ¬ z = 2 := by omega
        have HV : Hid (apf k = 10) := Lib.hid (by unfold apf; rw [if_neg (by omega), if_neg (by omega), if_neg (by omega)])
        rw [HV.out] at HS
        clear hz
        go_wp2_with fail
        go_roundw
        case rel => exact ⟨k + 1, by omega, by push_cast; rfl, Lib.hid (by rw [← HS.out]; exact HR.out.set k _), (HB.out.setCell (p := ⟨w.heap.size, k, none⟩) (Nat.le_refl _) _ : Below _ _ _)⟩
        case measure => simp [intOf]; omega
    · obtain rfl : k = 32 := by omega
      rw [ap_fill] at HR
      have FX := Lib.hid (Mdl.Fixed_yes AP ap_good (some ⟨w.heap.size, 0, none⟩) 32 wr (C_of_rowI HR.out) (by decide))
      go_wp2_with fail
      refine FX.out.mono ?_
      rintro e w2 ⟨m, h, cap, rfl, h1, h2, hi, hb⟩
      have HI := Lib.hid hi
      have HB2 : Hid (Below w.heap.size w w2) := Lib.hid (HB.out.trans (hb.mono HB.out.size))
      have hs := HB.out.size
      clear hi hb
      go_wp2_with fail
      go_ret
      exact ⟨m, h, cap, rfl, by omega, by omega, HI.out, HB2.out⟩
set_option maxHeartbeats 1000000 in
set_option maxRecDepth 100000 in
theorem rapart_calls (w : World) : Calls Try.prog 78 #[] w fun e w' => ∃ m h cap, e = .returned (.pointer (some ⟨m, 0, none⟩)) ∧ w.heap.size ≤ m ∧ w.heap.size ≤ h ∧ Mdl.IsR w' m h cap AP true ∧ Below w.heap.size w w' := by
  go_enter Try.func78, Try.ntmps78
  go_wp2_with fail
  have hs1 : (w.alloc (.cells #[.int .u32 3000, .int .u32 1500, .int .u32 500] 22)).heap.size = w.heap.size + 1 := by simp
  have hR0 : RowI (w.alloc (.cells #[.int .u32 3000, .int .u32 1500, .int .u32 500] 22)) 22 .u32 w.heap.size 3 [3000, 1500, 500] :=
    ⟨_, Blk.new w _ _, by decide, by decide, rfl, fun i hi => by
      match i, hi with
      | 0, _ => rfl
      | 1, _ => rfl
      | 2, _ => rfl⟩
  have hB0 : Below w.heap.size w (w.alloc (.cells #[.int .u32 3000, .int .u32 1500, .int .u32 500] 22)) := (Below.refl _ _).alloc (Nat.le_refl _) _
  have HR0 := Lib.hid hR0
  have HB0 := Lib.hid hB0
  clear hR0 hB0 hs1
  go_loopw [1] (fun v wr => ∃ (k g cap : Nat), k ≤ 27 ∧ v = .slice (some ⟨g, 0, none⟩) (k + 3) cap ∧ w.heap.size ≤ g ∧ Hid (RowI wr 22 .u32 g cap ([3000, 1500, 500] ++ List.replicate k 10)) ∧ Hid (Below w.heap.size w wr)) (fun v _ => 30 - (match v with | .slice _ n _ => n | _ => 0))
  case atStart => exact ⟨0, w.heap.size, 3, by omega, rfl, Nat.le_refl _, HR0, HB0⟩
  case round =>
    clear HR0 HB0
    obtain ⟨k, g, cap, hk, rfl, hg, HR, HB⟩ := hrel
    have hwr := HB.out.size
    have ln : ([3000, 1500, 500] ++ List.replicate k (10 : Int)).length = k + 3 := by simp
    have lg := HR.out.lt
    by_cases hlt : k < 27
    · go_wp2_with (at_builtin
                   have hsl := Sl.row (HR.out.alloc (.cells #[.int .u32 10] 22))
                   rw [ln] at hsl
                   refine wpList_push (.tmp 8) (.tmp 9) 45 22 .u32 0 4 rfl rfl Try.underlying45 Mdl.info_u32 (.slice (some ⟨g, 0, none⟩) (k + 3) cap) ([3000, 1500, 500] ++ List.replicate k 10) (k + 3) 10 ⟨wr.heap.size, 0, none⟩ (wr.heap.size + 1) rfl rfl hsl ln ((Blk.new wr _ _).cell rfl) (by simp) (by omega) (by omega) ?_
                   intro g2 cap2 w1 hp
                   have HP := Lib.hid hp
                   clear hp hsl)
      go_roundw
      case rel =>
        refine ⟨k + 1, g2, cap2, by omega, by congr 1, ?_, Lib.hid ?_, Lib.hid ?_⟩
        · rcases HP.out.at_ with h | h
          · have h : some g = some g2 := h
            injection h with h; omega
          · omega
        · have := HP.out.row
          rw [List.append_assoc, ← List.replicate_succ'] at this
          exact this
        · exact (HB.out.alloc hwr _).trans (HP.out.only.below (B := w.heap.size) (by simp; omega) (fun i hi => by have hi : some g = some i := hi; injection hi with hi; omega))
      case measure => simp; omega
    · obtain rfl : k = 27 := by omega
      have e30 : (27 + 3 : Nat) = 30 := rfl
      rw [e30] at ln
      go_wp2_with (first
        | (at_builtin
           have hsl := Sl.row (HR.out.alloc (.cells #[.int .u32 500] 22))
           rw [ln] at hsl
           refine wpList_push (.tmp 11) (.tmp 12) 45 22 .u32 0 4 rfl rfl Try.underlying45 Mdl.info_u32 (.slice (some ⟨g, 0, none⟩) 30 cap) ([3000, 1500, 500] ++ List.replicate 27 10) 30 500 ⟨wr.heap.size, 0, none⟩ (wr.heap.size + 1) rfl rfl hsl ln ((Blk.new wr _ _).cell rfl) (by simp) (by omega) (by omega) ?_
           intro g2 cap2 w1 hp
           have HP := Lib.hid hp
           have B1 : Hid (Below w.heap.size w w1) := Lib.hid ((HB.out.alloc hwr _).trans (hp.only.below (B := w.heap.size) (by simp; omega) (fun i hi => by have hi : some g = some i := hi; injection hi with hi; omega)))
           have hg2 : w.heap.size ≤ g2 := by
             rcases hp.at_ with h | h
             · have h : some g = some g2 := h
               injection h with h; omega
             · omega
           have h1 := B1.out.size
           have lg2 := hp.row.lt
           clear hp hsl)
        | (at_builtin
           have hsl := Sl.row (HP.out.row.alloc (.cells #[.int .u32 1500] 22))
           have ln2 : ([3000, 1500, 500] ++ List.replicate 27 10 ++ [500] : List Int).length = 31 := by decide
           rw [ln2] at hsl
           refine wpList_push (.tmp 14) (.tmp 15) 45 22 .u32 0 4 rfl rfl Try.underlying45 Mdl.info_u32 (.slice (some ⟨g2, 0, none⟩) 31 cap2) ([3000, 1500, 500] ++ List.replicate 27 10 ++ [500]) 31 1500 ⟨w1.heap.size, 0, none⟩ (w1.heap.size + 1) rfl rfl hsl ln2 ((Blk.new w1 _ _).cell rfl) (by simp) (by omega) (by omega) ?_
           intro g3 cap3 w2 hp
           have HP2 := Lib.hid hp
           have B2 : Hid (Below w.heap.size w w2) := Lib.hid ((B1.out.alloc h1 _).trans (hp.only.below (B := w.heap.size) (by simp; omega) (fun i hi => by have hi : some g2 = some i := hi; injection hi with hi; omega)))
           have h2 := B2.out.size
           clear hp hsl ln2))
      have hap : ([3000, 1500, 500] ++ List.replicate 27 10 ++ [500] ++ [1500] : List Int) = AP := by decide
      have HR3 : Hid (RowI w2 22 .u32 g3 cap3 AP) := Lib.hid (by rw [← hap]; exact HP2.out.row)
      have FX := Lib.hid (Mdl.RFixed_yes AP ap_good (some ⟨g3, 0, none⟩) cap3 w2 (C_of_rowI HR3.out) HR3.out.len.1)
      refine FX.out.mono ?_
      rintro e w3 ⟨m, h, cap4, rfl, h3, h4, hi, hb⟩
      have HI := Lib.hid hi
      have HB2 : Hid (Below w.heap.size w w3) := Lib.hid (B2.out.trans (hb.mono h2))
      clear hi hb
      go_wp2_with fail
      go_ret
      exact ⟨m, h, cap4, rfl, by omega, by omega, HI.out, HB2.out⟩
/-- The lines of law 10's lives. -/
def LN : List Int := (List.replicate 512 0).set 9 (-5)
theorem ln_len : LN.length = 512 := by unfold LN; rw [List.length_set, List.length_replicate]
theorem ln_i32 : ∀ x ∈ LN, Ceil.I32 x := by
  intro x hx
  unfold LN at hx
  have : x = 0 ∨ x = -5 := by
    rcases List.mem_or_eq_of_mem_set hx with h | h
    · exact .inl (List.eq_of_mem_replicate h)
    · exact .inr h
  unfold Ceil.I32
  rcases this with h | h <;> subst h <;> decide
theorem ln_ceils : Ceil.ceils LN = [0, 0, 3, 0, 0, 0, 0, 0, 0, 0, 0, 0, 0, 0, 0, 0, 0, 0, 0, 0, 0] := by decide +kernel
set_option maxHeartbeats 1000000 in
set_option maxRecDepth 100000 in
theorem lives_calls (w : World) : Calls Try.prog 40 #[] w fun e w' => e = .returned (.bool true) ∧ Below w.heap.size w w' := by
  have hm : ∀ w : World, (Instr.makeSlice 86 (.int .i64 512) (.int .i64 512)).run Try.prog w = .ok (.slice (some ⟨w.heap.size, 0, none⟩) 512 512) (w.alloc (.cells (madeCells #[.int .i32 0] 512) 21)) := fun w => run_make_row' 86 21 (.int .i32 0) 4 Try.underlying86 (by kernel_rfl) rfl .i64 .i64 512 (by omega) (by omega) w
  have r0 := RowI.new w 21 .i32 512 0 (by decide)
  have d9 := r0.cell (i := 9) (by rw [List.length_replicate]; omega)
  have f9 := r0.free 9
  have hr : RowI ((w.alloc (.cells (madeCells #[.int .i32 0] 512) 21)).setCell ⟨w.heap.size, 9, none⟩ (.int .i32 (-5))) 21 .i32 w.heap.size 512 LN := r0.set 9 (-5)
  have HR := Lib.hid hr
  have HB : Hid (Below w.heap.size w ((w.alloc (.cells (madeCells #[.int .i32 0] 512) 21)).setCell ⟨w.heap.size, 9, none⟩ (.int .i32 (-5)))) := Lib.hid ((((Below.refl _ _).alloc (Nat.le_refl _) _ : Below _ _ _)).setCell (p := ⟨w.heap.size, 9, none⟩) (Nat.le_refl _) _)
  have hw : (w.alloc (.cells (madeCells #[.int .i32 0] 512) 21)).setCell ⟨w.heap.size, 9, none⟩ (.int .i32 (-5)) = w.alloc (.cells ((madeCells #[.int .i32 0] 512).setIfInBounds 9 (.int .i32 (-5))) 21) := World.setCell_alloc_new _ _ _ _
  rw [hw] at HR HB
  clear r0 hr hw
  generalize (List.replicate 512 (0 : Int))[9]'(by rw [List.length_replicate]; omega) = y at *
  go_enter Try.func40, Try.ntmps40
  go_wp2_with fail
  have CL := Lib.hid (Ceil.Ceilings_yes LN ln_len ln_i32 (some ⟨w.heap.size, 0, none⟩) 512 _ (C_of_rowI HR.out) (by rw [ln_len]; decide))
  rw [ln_len] at CL
  refine CL.out.mono ?_
  rintro e1 w1 ⟨g, cap, rfl, hg, hr, hb⟩
  have R1 : Hid (RowI w1 3 .i64 g cap [0, 0, 3, 0, 0, 0, 0, 0, 0, 0, 0, 0, 0, 0, 0, 0, 0, 0, 0, 0, 0]) := Lib.hid (by rw [← ln_ceils]; exact hr)
  have B1 : Hid (Below w.heap.size w w1) := Lib.hid (HB.out.trans (hb.mono HB.out.size))
  clear hr hb CL HR HB d9 f9
  have c0 := R1.out.cell (i := 0) (by decide)
  have c2 := R1.out.cell (i := 2) (by decide)
  simp only [List.getElem_cons_zero, List.getElem_cons_succ] at c0 c2
  have RC := Lib.hid (Right_calls (Src.of_sl (Sl.row R1.out)) (by decide))
  have e21 : ([0, 0, 3, 0, 0, 0, 0, 0, 0, 0, 0, 0, 0, 0, 0, 0, 0, 0, 0, 0, 0] : List Int).length = 21 := rfl
  have er : rightB [0, 0, 3, 0, 0, 0, 0, 0, 0, 0, 0, 0, 0, 0, 0, 0, 0, 0, 0, 0, 0] = true := by decide
  rw [e21, er] at RC
  go_wp2_with fail
  refine RC.out.mono ?_
  rintro e2 w2 ⟨rfl, he⟩
  subst w2
  go_wp2_with fail
  go_ret
  exact ⟨rfl, B1.out⟩
theorem lives_on {B : Nat} {w0 w : World} (h : Below B w0 w) (hB : B ≤ w.heap.size) : Calls Try.prog 40 #[] w fun e w' => e = .returned (.bool true) ∧ Below B w0 w' :=
  (lives_calls w).mono fun e w' ⟨he, hb⟩ => ⟨he, h.trans (hb.mono hB)⟩
end Go.Proofs.Ytlbjoflmfboeeaa.Erg

/-
  The walks of energy.Put and of the document's; no condition but those told.
-/
set_option linter.unusedVariables false
set_option linter.unusedSimpArgs false
namespace Go.Proofs.Ytlbjoflmfboeeaa.Erg
open Go.RowKit Go.Proofs.Ytlbjoflmfboeeaa Go.Proofs.YtlbjoflmfboeeaaW.PrintWords

/-- Ceilings that are right. -/
structure Rt (l : List Int) : Prop where
  len : l.length = 21
  bd : ∀ k (h : k < l.length), 0 ≤ l[k] ∧ l[k] ≤ 26
theorem right_rt {l : List Int} (h : rightB l = true) : Rt l := by
  unfold rightB at h
  rw [Bool.and_eq_true, decide_eq_true_eq, List.all_eq_true] at h
  refine ⟨h.2, fun k hk => ?_⟩
  have := h.1 _ (List.getElem_mem hk)
  unfold okc at this
  rwa [decide_eq_true_eq] at this
theorem rt_right {l : List Int} (h : Rt l) : rightB l = true := by
  unfold rightB
  rw [Bool.and_eq_true, decide_eq_true_eq, List.all_eq_true]
  refine ⟨fun x hx => ?_, h.len⟩
  obtain ⟨k, hk, rfl⟩ := List.getElem_of_mem hx
  unfold okc
  rw [decide_eq_true_eq]
  exact h.bd k hk
theorem Rt.getD {l : List Int} (h : Rt l) (k : Nat) : 0 ≤ l.getD k 0 ∧ l.getD k 0 ≤ 26 := by
  rw [List.getD_eq_getElem?_getD]
  by_cases hk : k < l.length
  · rw [List.getElem?_eq_getElem hk]; exact h.bd k hk
  · rw [List.getElem?_eq_none (by omega)]; decide
/-- The symbol of a difference. -/
def dif (l ah : List Int) (k : Nat) : Nat := ((l.getD k 0 - ah.getD k 0 + 32) % 32).toNat
theorem dif_lt (l ah : List Int) (k : Nat) : dif l ah k < AP.length := by
  show dif l ah k < 32
  unfold dif; omega
/-- The encoder's state behind k ceilings. -/
def eput (s : Enc.St) (l ah : List Int) : Nat → Enc.St
  | 0 => s
  | k + 1 => if ah.length = 0 then Enc.bitsS (eput s l ah k) (l.getD k 0) 5 else Enc.symS (eput s l ah k) AP (dif l ah k)
def reput (R : Enc.RSt) (l ah : List Int) : Nat → Enc.RSt
  | 0 => R
  | k + 1 => if ah.length = 0 then Enc.rbitsS (reput R l ah k) (l.getD k 0) 5 else Enc.rsymS (reput R l ah k) AP (dif l ah k)
theorem eput_ready {s : Enc.St} (ok : s.Ready) (l ah : List Int) (k : Nat) : (eput s l ah k).Ready ∧ (eput s l ah k).k ≤ s.k + 4 * k := by
  induction k with
  | zero => exact ⟨ok, Nat.le_refl _⟩
  | succ k ih =>
    unfold eput
    split
    · have := Enc.bitsS_ready ih.1 (l.getD k 0) 5 (by decide)
      exact ⟨this.1, by have := this.2.2; omega⟩
    · have := Enc.symS_ready ih.1 ap_good (dif_lt l ah k)
      exact ⟨this.1, by have := this.2.2; omega⟩
theorem reput_good {R : Enc.RSt} (ok : Enc.RGood R) (l ah : List Int) (k : Nat) : Enc.RGood (reput R l ah k) ∧ (reput R l ah k).K ≤ R.K + 4 * k := by
  induction k with
  | zero => exact ⟨ok, Nat.le_refl _⟩
  | succ k ih =>
    unfold reput
    split
    · have := Enc.rbitsS_good ih.1 (l.getD k 0) 5 (by decide)
      exact ⟨this.1, by have := this.2.2; omega⟩
    · have := Enc.rsymS_good ih.1 ap_good (dif_lt l ah k)
      exact ⟨this.1, by have := this.2.2; omega⟩
theorem eput_rel {s : Enc.St} {R : Enc.RSt} (h : Enc.Rel s R) (g : Enc.RGood R) (l ah : List Int) (k : Nat) : Enc.Rel (eput s l ah k) (reput R l ah k) := by
  induction k with
  | zero => exact h
  | succ k ih =>
    unfold eput reput
    split
    · exact Enc.bitsS_rel ih (reput_good g l ah k).1 _ 5 (by decide)
    · exact Enc.symS_rel ih (reput_good g l ah k).1 ap_good (dif_lt l ah k)
theorem next_fixed (L : List Int) (k : Nat) : Mdl.next true L k = L := by unfold Mdl.next; rw [if_pos rfl]
attribute [local irreducible] Enc.bitsS Enc.symS AP Enc.rbitsS Enc.rsymS
/-- A slice that is read lies apart from the encoder. -/
def Apart (u : Value) (e : Nat) (v : Value) (B : Nat) : Prop := ∀ g, u.ownBlock = some g → g ≠ e ∧ v.ownBlock ≠ some g ∧ g < B
theorem Put_nil (u ua : Value) (w : World) : Calls Try.prog 42 #[.pointer none, u, ua] w fun en w' => en = .returned (.int .i64 1) ∧ w' = w := by
  go_enter Try.func42, Try.ntmps42
  go_wp2
  go_ret
  exact ⟨rfl, rfl⟩
set_option maxRecDepth 100000 in
theorem Put_bad {w : World} (e : Nat) {u ua : Value} {l ah : List Int} (src : Src w .i64 u l) (hl : l.length ≤ 1000000000) (srca : Src w .i64 ua ah) (hal : ah.length ≤ 1000000000)
    (h : rightB l = false ∨ (0 < ah.length ∧ rightB ah = false)) :
    Calls Try.prog 42 #[.pointer (some ⟨e, 0, none⟩), u, ua] w fun en w' => en = .returned (.int .i64 1) ∧ w' = w := by
  have C1 := Lib.hid (Right_calls src hl)
  have C2 := Lib.hid (Right_calls srca hal)
  cases hr : rightB l with
  | false =>
    rw [hr] at C1
    clear h hr
    go_enter Try.func42, Try.ntmps42
    go_wp2_with fail
    refine C1.out.mono ?_
    rintro e1 w1 ⟨rfl, he⟩
    subst w1
    go_wp2_with fail
    go_ret
    exact ⟨rfl, rfl⟩
  | true =>
    have h2 : 0 < ah.length ∧ rightB ah = false := by
      rcases h with h | h
      · rw [hr] at h; cases h
      · exact h
    obtain ⟨h2, h3⟩ := h2
    rw [hr] at C1
    rw [h3] at C2
    clear h hr h3
    obtain ⟨A, c, rfl, _⟩ := srca
    have ih : (0 : Int) < (ah.length : Int) := by omega
    go_enter Try.func42, Try.ntmps42
    go_wp2_with fail
    refine C1.out.mono ?_
    rintro e1 w1 ⟨rfl, he⟩
    subst w1
    go_wp2_with fail
    refine C2.out.mono ?_
    rintro e1 w1 ⟨rfl, he⟩
    subst w1
    go_wp2_with fail
    go_ret
    exact ⟨rfl, rfl⟩
set_option maxHeartbeats 2000000 in
set_option maxRecDepth 100000 in
theorem Put_yes {w : World} {e : Nat} {s : Enc.St} {v : Value} (a : Enc.Is w e s v) (ok : s.Ready) (small : s.k ≤ 700000000) {u ua : Value} {l ah : List Int} (src : Src w .i64 u l) (rl : Rt l) (srca : Src w .i64 ua ah) (ra : ah.length = 0 ∨ Rt ah)
    (ap1 : Apart u e v w.heap.size) (ap2 : 0 < ah.length → Apart ua e v w.heap.size) :
    Calls Try.prog 42 #[.pointer (some ⟨e, 0, none⟩), u, ua] w fun en w' => ∃ v', en = .returned (.int .i64 0) ∧ Enc.Is w' e (eput s l ah 21) v' ∧ Enc.Step e v v' w w' := by
  have C1 := Lib.hid (Right_calls src (by rw [rl.len]; decide))
  rw [rt_right rl] at C1
  have A := Lib.hid a
  have RL := Lib.hid rl
  have OK := Lib.hid ok
  have S1 := Lib.hid src
  have S2 := Lib.hid srca
  have AP1 := Lib.hid ap1
  have AP2 := Lib.hid ap2
  have hle := a.blk.lt
  have vlt : Hid (∀ g, v.ownBlock = some g → g < w.heap.size) := Lib.hid (fun g hg => a.sl.lt hg)
  obtain ⟨uA, uc, rfl, _⟩ := src
  obtain ⟨aA, ac, rfl, _⟩ := srca
  rw [rl.len] at C1 S1 AP1 ⊢
  clear a rl ok ap1 ap2
  by_cases h0 : ah.length = 0
  · have HN : Hid (ah.length = 0) := Lib.hid h0
    rw [h0] at S2 AP2 ⊢
    clear h0 ra
    go_enter Try.func42, Try.ntmps42
    go_wp2_with fail
    refine C1.out.mono ?_
    rintro e1 w1 ⟨rfl, he⟩
    subst w1
    go_wp2_with fail
    refine (apart_calls _).mono ?_
    rintro e2 w2 ⟨m, h, cap, rfl, hm, hh, _, b2⟩
    have A2 := Lib.hid (A.out.below b2)
    have T2 := Lib.hid ((Enc.Step.refl e v w).below b2)
    clear b2
    go_wp2_with fail
    go_loopw [30] (fun i wr => ∃ (k : Nat) (v' : Value), k ≤ 21 ∧ i = .int .i64 (k : Int) ∧ Hid (Enc.Is wr e (eput s l ah k) v') ∧ Hid (Enc.Step e v v' w wr)) (fun i _ => 21 - (intOf i).toNat)
    case atStart => exact ⟨0, v, by omega, rfl, A2, T2⟩
    case round =>
      clear A2 T2
      obtain ⟨k, v', hk, rfl, A2, T2⟩ := hrel
      by_cases hlt : k < 21
      · obtain ⟨ad, rfl, dk⟩ := (S1.out.same (w' := wr) (fun g hg _ => T2.out.only.block g (AP1.out g hg).2.2 (fun hx => by
          rcases hx with hx | hx
          · exact (AP1.out g hg).1 hx
          · exact (AP1.out g hg).2.1 hx))).cell (j := k) (by rw [RL.out.len]; exact hlt)
        have bd := RL.out.bd k (by rw [RL.out.len]; exact hlt)
        have HX : Hid (l.getD k 0 = l[k]'(by rw [RL.out.len]; exact hlt)) := Lib.hid (Dig.getD_get l k _)
        have ER := Lib.hid (eput_ready OK.out l ah k)
        have HS : Hid (eput s l ah (k + 1) = Enc.bitsS (eput s l ah k) (l.getD k 0) 5) := Lib.hid (by show (if ah.length = 0 then _ else _) = _; rw [if_pos HN.out])
        rw [HX.out] at HS
        have ik : (k : Int) < 21 := by omega
        generalize l[k]'(by rw [RL.out.len]; exact hlt) = x at *
        have w1 : IntKind.u32.wrap x = x := Enc.wraps_u32 _ (by omega) (by omega)
        have BT := Lib.hid (Enc.Bits_yes A2.out ER.out.1 (by have := ER.out.2; omega) x 5 bd.1 (Int.lt_of_le_of_lt bd.2 (by decide)) (by decide))
        go_wp2_with fail
        refine BT.out.mono ?_
        rintro e3 w3 ⟨v3, rfl, a3, t3⟩
        have A3 := Lib.hid a3
        have T3 := Lib.hid (T2.out.trans t3)
        clear a3 t3 BT A2 T2
        go_wp2_with fail
        go_roundw
        case rel => exact ⟨k + 1, v3, by omega, by push_cast; rfl, Lib.hid (by rw [HS.out]; exact A3.out), T3⟩
        case measure => simp [intOf]; omega
      · obtain rfl : k = 21 := by omega
        go_wp2_with fail
        go_ret
        exact ⟨v', rfl, A2.out, T2.out⟩
  · have RA : Hid (Rt ah) := Lib.hid (by rcases ra with h | h; exact absurd h h0; exact h)
    have C2 := Lib.hid (Right_calls S2.out (by rw [RA.out.len]; decide))
    rw [rt_right RA.out] at C2
    have AP3 := Lib.hid (AP2.out (by omega))
    rw [RA.out.len] at S2 AP3 C2 ⊢
    clear h0 ra AP2
    go_enter Try.func42, Try.ntmps42
    go_wp2_with fail
    refine C1.out.mono ?_
    rintro e1 w1 ⟨rfl, he⟩
    subst w1
    go_wp2_with fail
    refine C2.out.mono ?_
    rintro e1 w1 ⟨rfl, he⟩
    subst w1
    go_wp2_with fail
    refine (apart_calls _).mono ?_
    rintro e2 w2 ⟨m, h, cap, rfl, hm, hh, mi, b2⟩
    have A2 := Lib.hid (A.out.below b2)
    have M2 := Lib.hid mi
    have T2 := Lib.hid ((Enc.Step.refl e v w).below b2)
    clear b2 mi
    go_wp2_with fail
    go_loopw [30] (fun i wr => ∃ (k : Nat) (v' : Value), k ≤ 21 ∧ i = .int .i64 (k : Int) ∧ Hid (Enc.Is wr e (eput s l ah k) v') ∧ Hid (Mdl.Is wr m h cap AP true) ∧ Hid (Enc.Step e v v' w wr) ∧ (∀ g, v'.ownBlock = some g → g ≠ m ∧ g ≠ h)) (fun i _ => 21 - (intOf i).toNat)
    case atStart => exact ⟨0, v, by omega, rfl, A2, M2, T2, fun g hg => by have := vlt.out g hg; omega⟩
    case round =>
      clear A2 T2 M2
      obtain ⟨k, v', hk, rfl, A2, M2, T2, nv⟩ := hrel
      by_cases hlt : k < 21
      · obtain ⟨ad, rfl, dk⟩ := (S1.out.same (w' := wr) (fun g hg _ => T2.out.only.block g (AP1.out g hg).2.2 (fun hx => by
          rcases hx with hx | hx
          · exact (AP1.out g hg).1 hx
          · exact (AP1.out g hg).2.1 hx))).cell (j := k) (by rw [RL.out.len]; exact hlt)
        obtain ⟨ad2, rfl, dk2⟩ := (S2.out.same (w' := wr) (fun g hg _ => T2.out.only.block g (AP3.out g hg).2.2 (fun hx => by
          rcases hx with hx | hx
          · exact (AP3.out g hg).1 hx
          · exact (AP3.out g hg).2.1 hx))).cell (j := k) (by rw [RA.out.len]; exact hlt)
        have bd := RL.out.bd k (by rw [RL.out.len]; exact hlt)
        have bd2 := RA.out.bd k (by rw [RA.out.len]; exact hlt)
        have HX : Hid (l.getD k 0 = l[k]'(by rw [RL.out.len]; exact hlt)) := Lib.hid (Dig.getD_get l k _)
        have HX2 : Hid (ah.getD k 0 = ah[k]'(by rw [RA.out.len]; exact hlt)) := Lib.hid (Dig.getD_get ah k _)
        have ER := Lib.hid (eput_ready OK.out l ah k)
        have HS : Hid (eput s l ah (k + 1) = Enc.symS (eput s l ah k) AP (dif l ah k)) := Lib.hid (by show (if ah.length = 0 then _ else _) = _; rw [if_neg (by rw [RA.out.len]; decide)])
        have HD : Hid (dif l ah k = ((l.getD k 0 - ah.getD k 0 + 32) % 32).toNat) := Lib.hid rfl
        have HDL := Lib.hid (dif_lt l ah k)
        rw [HX.out, HX2.out] at HD
        have ik : (k : Int) < 21 := by omega
        generalize l[k]'(by rw [RL.out.len]; exact hlt) = x at *
        generalize ah[k]'(by rw [RA.out.len]; exact hlt) = y at *
        obtain ⟨q, hq⟩ : ∃ q, dif l ah k = q := ⟨_, rfl⟩
        rw [hq] at HS HD HDL
        have hd := HD.out
        have e0 : (x - y + 32) % 32 = (q : Int) := by omega
        have e1 : Int.tmod (x - y + 32) 32 = (q : Int) := by rw [Int.tmod_eq_emod_of_nonneg (by omega)]; exact e0
        have w1 : IntKind.i64.wrap (q : Int) = (q : Int) := wrapI64 (by omega) (by omega)
        clear hq hd
        have BT := Lib.hid (Enc.Symbol_yes A2.out ER.out.1 (by have := ER.out.2; omega) M2.out ap_good q HDL.out (by omega) (by omega) (fun hx => (nv _ hx).1 rfl) (fun hx => (nv _ hx).2 rfl))
        go_wp2_with fail
        refine BT.out.mono ?_
        rintro e3 w3 ⟨v3, rfl, a3, m3, o3, own3⟩
        have A3 := Lib.hid a3
        have M3 : Hid (Mdl.Is w3 m h cap AP true) := Lib.hid (by rw [next_fixed] at m3; exact m3)
        have lm := M2.out.blk.lt
        have lh := M2.out.row.lt
        have nv3 : ∀ g, v3.ownBlock = some g → g ≠ m ∧ g ≠ h := fun g hg => by
          rcases own3 g hg with h1 | h1
          · exact nv g h1
          · omega
        have T3 : Hid (Enc.Step e v v3 w w3) := Lib.hid ⟨T2.out.only.then o3 (fun i hi => by
          rcases hi with (hi | hi) | hi
          · exact .inl (.inl hi)
          · rcases T2.out.own i hi with h1 | h1
            · exact .inl (.inr h1)
            · exact .inr h1
          · exact .inr (by omega)), fun g hg => by
          rcases own3 g hg with h1 | h1
          · exact T2.out.own g h1
          · exact .inr (Nat.le_trans T2.out.only.size h1)⟩
        clear a3 m3 o3 own3 BT A2 T2 M2 nv
        go_wp2_with fail
        go_roundw
        case rel => exact ⟨k + 1, v3, by omega, by push_cast; rfl, Lib.hid (by rw [HS.out]; exact A3.out), M3, T3, nv3⟩
        case measure => simp [intOf]; omega
      · obtain rfl : k = 21 := by omega
        go_wp2_with fail
        go_ret
        exact ⟨v', rfl, A2.out, T2.out⟩
/-- A slice that is read lies apart from the document's encoder. -/
def RApart (u : Value) (e gb B : Nat) : Prop := ∀ g, u.ownBlock = some g → g ≠ e ∧ g ≠ gb ∧ g < B
def PPost (e gb : Nat) (R : Enc.RSt) (w : World) (en : Ending) (w' : World) : Prop := ∃ g' c', en = .returned (.tuple #[]) ∧ Enc.RIs w' e R g' c' ∧ Enc.RStep e gb g' w w'
set_option maxHeartbeats 2000000 in
set_option maxRecDepth 100000 in
theorem RPut_yes {w : World} {e gb cb : Nat} {R : Enc.RSt} (a : Enc.RIs w e R gb cb) (ok : Enc.RGood R) (small : R.K ≤ 700000000) {u ua : Value} {l ah : List Int} (src : Src w .i64 u l) (rl : Rt l) (srca : Src w .i64 ua ah) (ra : ah.length = 0 ∨ Rt ah)
    (ap1 : RApart u e gb w.heap.size) (ap2 : 0 < ah.length → RApart ua e gb w.heap.size) :
    Calls Try.prog 43 #[.pointer (some ⟨e, 0, none⟩), u, ua] w (PPost e gb (reput R l ah 21) w) := by
  have A := Lib.hid a
  have RL := Lib.hid rl
  have OK := Lib.hid ok
  have S1 := Lib.hid src
  have S2 := Lib.hid srca
  have AP1 := Lib.hid ap1
  have AP2 := Lib.hid ap2
  have hle := a.blk.lt
  have vlt := a.row.lt
  obtain ⟨uA, uc, rfl, _⟩ := src
  obtain ⟨aA, ac, rfl, _⟩ := srca
  rw [rl.len] at S1 AP1 ⊢
  clear a rl ok ap1 ap2
  by_cases h0 : ah.length = 0
  · have HN : Hid (ah.length = 0) := Lib.hid h0
    rw [h0] at S2 AP2 ⊢
    clear h0 ra
    go_enter Try.func43, Try.ntmps43
    go_wp2_with fail
    refine (rapart_calls _).mono ?_
    rintro e2 w2 ⟨m, h, cap, rfl, hm, hh, _, b2⟩
    have A2 := Lib.hid (A.out.only (Only.of_below b2 : Only (fun _ => False) _ _) (fun x => x) (fun x => x))
    have T2 := Lib.hid ((Enc.RStep.refl e gb w).below b2)
    clear b2
    go_wp2_with fail
    go_loopw [7] (fun i wr => ∃ (k : Nat) (g' c' : Nat), k ≤ 21 ∧ i = .int .i64 (k : Int) ∧ Hid (Enc.RIs wr e (reput R l ah k) g' c') ∧ Hid (Enc.RStep e gb g' w wr)) (fun i _ => 21 - (intOf i).toNat)
    case atStart => exact ⟨0, gb, cb, by omega, rfl, A2, T2⟩
    case round =>
      clear A2 T2
      obtain ⟨k, g', c', hk, rfl, A2, T2⟩ := hrel
      by_cases hlt : k < 21
      · obtain ⟨ad, rfl, dk⟩ := (S1.out.same (w' := wr) (fun g hg _ => T2.out.only.block g (AP1.out g hg).2.2 (fun hx => by
          rcases hx with hx | hx
          · exact (AP1.out g hg).1 hx
          · exact (AP1.out g hg).2.1 hx))).cell (j := k) (by rw [RL.out.len]; exact hlt)
        have bd := RL.out.bd k (by rw [RL.out.len]; exact hlt)
        have HX : Hid (l.getD k 0 = l[k]'(by rw [RL.out.len]; exact hlt)) := Lib.hid (Dig.getD_get l k _)
        have ER := Lib.hid (reput_good OK.out l ah k)
        have HS : Hid (reput R l ah (k + 1) = Enc.rbitsS (reput R l ah k) (l.getD k 0) 5) := Lib.hid (by show (if ah.length = 0 then _ else _) = _; rw [if_pos HN.out])
        rw [HX.out] at HS
        have ik : (k : Int) < 21 := by omega
        generalize l[k]'(by rw [RL.out.len]; exact hlt) = x at *
        have BT := Lib.hid (Enc.RBits_yes A2.out ER.out.1 (by have := ER.out.2; omega) x 5 bd.1 (Int.lt_of_le_of_lt bd.2 (by decide)) (by decide))
        go_wp2_with fail
        refine BT.out.mono ?_
        rintro e3 w3 ⟨g3, c3, rfl, a3, t3⟩
        have A3 := Lib.hid a3
        have T3 := Lib.hid (T2.out.trans t3)
        clear a3 t3 BT A2 T2
        go_wp2_with fail
        go_roundw
        case rel => exact ⟨k + 1, g3, c3, by omega, by push_cast; rfl, Lib.hid (by rw [HS.out]; exact A3.out), T3⟩
        case measure => simp [intOf]; omega
      · obtain rfl : k = 21 := by omega
        go_wp2_with fail
        exact bodyPost_end (results_none rfl _ _ _) rfl ⟨g', c', rfl, A2.out, T2.out⟩
  · have RA : Hid (Rt ah) := Lib.hid (by rcases ra with h | h; exact absurd h h0; exact h)
    have AP3 := Lib.hid (AP2.out (by omega))
    rw [RA.out.len] at S2 AP3 ⊢
    clear h0 ra AP2
    go_enter Try.func43, Try.ntmps43
    go_wp2_with fail
    refine (rapart_calls _).mono ?_
    rintro e2 w2 ⟨m, h, cap, rfl, hm, hh, mi, b2⟩
    have A2 := Lib.hid (A.out.only (Only.of_below b2 : Only (fun _ => False) _ _) (fun x => x) (fun x => x))
    have M2 := Lib.hid mi
    have T2 := Lib.hid ((Enc.RStep.refl e gb w).below b2)
    clear b2 mi
    go_wp2_with fail
    go_loopw [7] (fun i wr => ∃ (k : Nat) (g' c' : Nat), k ≤ 21 ∧ i = .int .i64 (k : Int) ∧ Hid (Enc.RIs wr e (reput R l ah k) g' c') ∧ Hid (Mdl.IsR wr m h cap AP true) ∧ Hid (Enc.RStep e gb g' w wr) ∧ g' ≠ m ∧ g' ≠ h) (fun i _ => 21 - (intOf i).toNat)
    case atStart => exact ⟨0, gb, cb, by omega, rfl, A2, M2, T2, by omega, by omega⟩
    case round =>
      clear A2 T2 M2
      obtain ⟨k, g', c', hk, rfl, A2, M2, T2, nv1, nv2⟩ := hrel
      by_cases hlt : k < 21
      · obtain ⟨ad, rfl, dk⟩ := (S1.out.same (w' := wr) (fun g hg _ => T2.out.only.block g (AP1.out g hg).2.2 (fun hx => by
          rcases hx with hx | hx
          · exact (AP1.out g hg).1 hx
          · exact (AP1.out g hg).2.1 hx))).cell (j := k) (by rw [RL.out.len]; exact hlt)
        obtain ⟨ad2, rfl, dk2⟩ := (S2.out.same (w' := wr) (fun g hg _ => T2.out.only.block g (AP3.out g hg).2.2 (fun hx => by
          rcases hx with hx | hx
          · exact (AP3.out g hg).1 hx
          · exact (AP3.out g hg).2.1 hx))).cell (j := k) (by rw [RA.out.len]; exact hlt)
        have bd := RL.out.bd k (by rw [RL.out.len]; exact hlt)
        have bd2 := RA.out.bd k (by rw [RA.out.len]; exact hlt)
        have HX : Hid (l.getD k 0 = l[k]'(by rw [RL.out.len]; exact hlt)) := Lib.hid (Dig.getD_get l k _)
        have HX2 : Hid (ah.getD k 0 = ah[k]'(by rw [RA.out.len]; exact hlt)) := Lib.hid (Dig.getD_get ah k _)
        have ER := Lib.hid (reput_good OK.out l ah k)
        have HS : Hid (reput R l ah (k + 1) = Enc.rsymS (reput R l ah k) AP (dif l ah k)) := Lib.hid (by show (if ah.length = 0 then _ else _) = _; rw [if_neg (by rw [RA.out.len]; decide)])
        have HD : Hid (dif l ah k = ((l.getD k 0 - ah.getD k 0 + 32) % 32).toNat) := Lib.hid rfl
        have HDL := Lib.hid (dif_lt l ah k)
        rw [HX.out, HX2.out] at HD
        have ik : (k : Int) < 21 := by omega
        generalize l[k]'(by rw [RL.out.len]; exact hlt) = x at *
        generalize ah[k]'(by rw [RA.out.len]; exact hlt) = y at *
        obtain ⟨q, hq⟩ : ∃ q, dif l ah k = q := ⟨_, rfl⟩
        rw [hq] at HS HD HDL
        have hd := HD.out
        have e0 : (x + 32 - y) % 32 = (q : Int) := by omega
        have e1 : Int.tmod (x + 32 - y) 32 = (q : Int) := by rw [Int.tmod_eq_emod_of_nonneg (by omega)]; exact e0
        have w1 : IntKind.i64.wrap (q : Int) = (q : Int) := wrapI64 (by omega) (by omega)
        have w2 : IntKind.i64.wrap (x + 32) = x + 32 := wrapI64 (by omega) (by omega)
        have w3 : IntKind.i64.wrap (x + 32 - y) = x + 32 - y := wrapI64 (by omega) (by omega)
        clear hq hd
        go_wp2_with fail
        refine region_quiet_tail 13 (by kernel_rfl) (by kernel_rfl) ?_
        simp only [List.take_succ_cons, List.take_zero, List.drop_succ_cons, List.drop_zero]
        repeat (quiet_step (fail))
        refine wpQuiet_nil ?_
        rintro _ ⟨nq, rfl⟩
        have BT := Lib.hid (Enc.RSymbol_yes (A2.out.drewN nq) ER.out.1 (by have := ER.out.2; omega) (M2.out.drewN nq) ap_good q HDL.out (by omega) (by omega) nv1 nv2)
        have lm := M2.out.blk.lt
        have lh := M2.out.row.lt
        go_wp2_with fail
        refine BT.out.mono ?_
        rintro e3 w3 ⟨g3, c3, rfl, a3, m3, o3, own3⟩
        have A3 := Lib.hid a3
        have M3 : Hid (Mdl.IsR w3 m h cap AP true) := Lib.hid (by rw [next_fixed] at m3; exact m3)
        have own3 : g3 = g' ∨ wr.heap.size ≤ g3 := own3
        have nv3 : g3 ≠ m ∧ g3 ≠ h := by omega
        have T3 : Hid (Enc.RStep e gb g3 w w3) := Lib.hid ⟨(T2.out.only.drewN nq).then o3 (fun i hi => by
          rcases hi with (hi | hi) | hi
          · exact .inl (.inl hi)
          · rcases T2.out.own with h1 | h1
            · exact .inl (.inr (hi.trans h1))
            · exact .inr (by omega)
          · exact .inr (by omega)), by
          have h2 := T2.out.only.size
          have h3 := T2.out.own
          omega⟩
        clear a3 m3 o3 BT A2 T2 M2
        go_wp2_with fail
        go_roundw
        case rel => exact ⟨k + 1, g3, c3, by omega, by push_cast; rfl, Lib.hid (by rw [HS.out]; exact A3.out), M3, T3, nv3.1, nv3.2⟩
        case measure => simp [intOf]; omega
      · obtain rfl : k = 21 := by omega
        go_wp2_with fail
        exact bodyPost_end (results_none rfl _ _ _) rfl ⟨g', c', rfl, A2.out, T2.out⟩
end Go.Proofs.Ytlbjoflmfboeeaa.Erg
