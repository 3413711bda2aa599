/- Texts of this session, merged. -/
import Derived.Test.YtlbjoflmfboeeaaMrb2
import Derived.Test.YtlbjoflmfboeeaaRows
import Derived.Deep.Slices
import Derived.Deep.Fields
import Derived.ChangeSame
import Derived.ChangeOld
import Derived.RowKit
/-
  Law 6: RangeencBytes, the walk; no condition.
-/
set_option linter.unusedVariables false
set_option linter.unusedSimpArgs false
namespace Go.Proofs.Ytlbjoflmfboeeaa.Enc
open Go.RowKit Go.Proofs.Ytlbjoflmfboeeaa Go.Proofs.YtlbjoflmfboeeaaW.PrintWords Go.Proofs.Ytlbjoflmfboeeaa.Dig Go.Proofs.Ytlbjoflmfboeeaa.Deco

/-- What is put: its kind, two numbers, a part. -/
structure Ac where
  kd : Int
  n : Int
  k : Int
  lo : Int
  ow : Int
  al : Int
def Ac.Ok (a : Ac) : Prop := (0 ≤ a.kd ∧ a.kd < 256) ∧ (0 ≤ a.n ∧ a.n < 4294967296) ∧ (0 ≤ a.k ∧ a.k < 4294967296) ∧ (0 ≤ a.lo ∧ a.lo < 4294967296) ∧ (0 ≤ a.ow ∧ a.ow < 4294967296) ∧ 0 ≤ a.al ∧ a.al < 4294967296
/-- It stands there, in six cells. -/
def Ac.At (a : Ac) (w : World) (p : Addr) : Prop := w.cell? p = some (.int .u8 a.kd) ∧ w.cell? ⟨p.block, p.off + 1, none⟩ = some (.int .u32 a.n) ∧ w.cell? ⟨p.block, p.off + 2, none⟩ = some (.int .u32 a.k) ∧ w.cell? ⟨p.block, p.off + 3, none⟩ = some (.int .u32 a.lo) ∧ w.cell? ⟨p.block, p.off + 4, none⟩ = some (.int .u32 a.ow) ∧ w.cell? ⟨p.block, p.off + 5, none⟩ = some (.int .u32 a.al)
def Acts (W : World) (A : Option Addr) (len cap : Nat) (z : List Ac) : Prop :=
  (A = none ∧ len = 0 ∧ cap = 0 ∧ z = []) ∨ ∃ a, A = some a ∧ len ≤ cap ∧ cap ≤ maxLen ∧ z.length = len ∧ ∀ i, (h : i < z.length) → z[i].At W (a.add (i * 6)) ∧ z[i].Ok

theorem Ac.At.below {a : Ac} {W w : World} {p : Addr} (h : a.At W p) (b : Below W.heap.size W w) : a.At w p := by
  obtain ⟨h0, h1, h2, h3, h4, h5⟩ := h
  have k : ∀ {q : Addr} {v : Value}, W.cell? q = some v → w.cell? q = some v := fun {q v} e => (b.cell (World.block_lt_of_cell? _ _ e)).trans e
  exact ⟨k h0, k h1, k h2, k h3, k h4, k h5⟩
theorem new3 {W w : World} {l : List Ast} (h : Hp W w l) (t : TypeId) (k : IntKind) (a b c : Int) : Hp W (w.alloc (.cells #[.int k a, .int k b, .int k c] t)) (rowA t k w.heap.size 3 [a, b, c] :: l) :=
  h.add_row ((Below.refl _ _).alloc (Nat.le_refl _) _) ⟨_, Blk.new _ _ _, Nat.le_refl 3, by simp [maxLen], rfl, fun i hi => by
    match i, hi with
    | 0, _ => rfl
    | 1, _ => rfl
    | 2, _ => rfl⟩ (Nat.le_refl _)
theorem good3 : Mdl.Good [1, 7, 300] := by constructor <;> decide
attribute [local irreducible] bitsS putS bytesS
set_option maxHeartbeats 4000000 in
set_option maxRecDepth 100000 in
theorem bytes_law (size : Int) (a0 : Option Addr) (len0 cap0 : Nat) (z : List Ac) (W : World) (wf : (Lit.int .u8 size).wf = true) (hz : Acts W a0 len0 cap0 z) :
    Calls Try.prog 4 #[.int .u8 size, .slice a0 len0 cap0] W fun e w' => e = .returned (.bool true) ∧ Below W.heap.size W w' := by
  by_cases hs : 300 < len0
  · go_enter Try.func4, Try.ntmps4
    go_wp2_with fail
    refine (lives_calls _).mono ?_
    rintro e1 w1 ⟨rfl, h1⟩
    have H1 := Lib.hid h1
    have s1 := h1.size
    clear h1
    go_wp2_with fail
    refine (lives_on H1.out s1).mono ?_
    rintro e2 w2 ⟨rfl, h2⟩
    have H2 := Lib.hid h2
    clear h2
    go_wp2_with fail
    go_ret
    exact ⟨rfl, H2.out⟩
  have k1 : decide ((300 : Int) < (len0 : Int)) = false := decide_eq_false (by omega)
  have sb := wf_u8 wf
  obtain ⟨n, hn⟩ : ∃ n : Nat, (n : Int) = 1 + size % 64 := ⟨(1 + size % 64).toNat, by omega⟩
  have n1 : 1 ≤ n := by omega
  have n2 : n ≤ 64 := by omega
  have HN := Lib.hid hn
  clear hn
  go_enter Try.func4, Try.ntmps4
  go_wp2_with fail
  refine (lives_calls _).mono ?_
  rintro e1 w1 ⟨rfl, h1⟩
  have H1 : Hid (Hp W w1 []) := Lib.hid ⟨h1, trivial⟩
  clear h1
  go_wp2_with fail
  rw [← HN.out]
  refine (Mdl.New_h H1.out n n1 n2).mono ?_
  rintro e2 w2 ⟨m, rfl, h2⟩
  have H2 := Lib.hid h2
  clear h2 H1
  go_wp2_with fail
  refine (Mdl.RNew_h H2.out n n1 n2).mono ?_
  rintro e3 w3 ⟨x, rfl, h3⟩
  have H3 := Lib.hid (new3 h3 22 .u32 1 7 300)
  clear h3 H2
  go_wp2_with fail
  refine (Mdl.Fixed_h H3.out [1, 7, 300] good3 (some ⟨w3.heap.size, 0, none⟩) 3 (C_of_rowI H3.out.row) (by decide)).mono ?_
  rintro e4 w4 ⟨fm, rfl, h4⟩
  have H4 := Lib.hid (new3 h4 22 .u32 1 7 300)
  clear h4 H3
  go_wp2_with fail
  refine (Mdl.RFixed_h H4.out [1, 7, 300] good3 (some ⟨w4.heap.size, 0, none⟩) 3 (C_of_rowI H4.out.row) (by decide)).mono ?_
  rintro e5 w5 ⟨fx, rfl, h5⟩
  have H5 : Hid (Hp W w5 [rmdlA fx [1, 7, 300] true, mdlA fm [1, 7, 300] true, rmdlA x (List.replicate n 1) false, mdlA m (List.replicate n 1) false]) := Lib.hid (h5.pk [0, 1, 2, 2])
  clear h5 H4
  go_wp2_with fail
  refine (Enc.New_h H5.out).mono ?_
  rintro e6 w6 ⟨e, rfl, h6⟩
  have H6 := Lib.hid h6
  clear h6 H5
  go_wp2_with fail
  refine (Enc.RNew_h H6.out).mono ?_
  rintro e7 w7 ⟨f, rfl, h7⟩
  have H7 : Hid (Hp W w7 [encA e fresh, mdlA m (List.replicate n 1) false, mdlA fm [1, 7, 300] true, rencA f rfresh, rmdlA x (List.replicate n 1) false, rmdlA fx [1, 7, 300] true]) := Lib.hid (h7.pk [1, 4, 2, 0, 1, 0])
  clear h7 H6
  have AC : Hid (∀ wr, Hp W wr [] → ∀ i (hi : i < z.length), ∃ a, a0 = some a ∧ z[i].At wr (a.add (i * 6)) ∧ z[i].Ok) := Lib.hid (fun wr H i hi => by
    rcases hz with ⟨_, _, _, rfl⟩ | ⟨a, rfl, h1, h2, h3, h4⟩
    · cases hi
    · exact ⟨a, rfl, (h4 i hi).1.below H.b, (h4 i hi).2⟩)
  have zl : Hid (z.length = len0) := Lib.hid (by
    rcases hz with ⟨_, rfl, _, rfl⟩ | ⟨a, rfl, h1, h2, h3, h4⟩
    · rfl
    · exact h3)
  go_wp2_with fail
  go_loopw [61] (fun u wr => ∃ (k : Nat) (s : St) (R : RSt) (L : List Int), k ≤ len0 ∧ u = .int .i64 (k : Int) ∧ Hid (Rel s R) ∧ Hid (RGood R) ∧ s.k ≤ 4 * k ∧ Hid (Mdl.Good L) ∧ Hid (L.length = n) ∧ Hid (Hp W wr [encA e s, mdlA m L false, mdlA fm [1, 7, 300] true, rencA f R, rmdlA x L false, rmdlA fx [1, 7, 300] true])) (fun u _ => len0 - (intOf u).toNat)
  case atStart => exact ⟨0, fresh, rfresh, _, by omega, rfl, Lib.hid fresh_rel, Lib.hid rfresh_good, by decide, Lib.hid (Mdl.good_new n n1 n2), Lib.hid (by simp), H7⟩
  case round =>
    clear H7
    obtain ⟨k, s, R, L, hk, rfl, RL, RG, hks, GL, LL, H⟩ := hrel
    by_cases hlt : k < len0
    · have ik : (k : Int) < (len0 : Int) := by omega
      obtain ⟨ad, rfl, hc, hok⟩ := AC.out wr (H.out.pk []) k (by rw [zl.out]; exact hlt)
      obtain ⟨⟨kd, an, ak, lo, ow, al⟩, hac⟩ : ∃ a : Ac, z[k]'(by rw [zl.out]; exact hlt) = a := ⟨_, rfl⟩
      rw [hac] at hc hok
      obtain ⟨c0, c1, c2, c3, c4, c5⟩ := hc
      obtain ⟨⟨kd0, kd1⟩, ⟨an0, an1⟩, ⟨ak0, ak1⟩, ⟨lo0, lo1⟩, ⟨ow0, ow1⟩, al0, al1⟩ := hok
      dsimp only at c0 c1 c2 c3 c4 c5 kd0 kd1 an0 an1 ak0 ak1 lo0 lo1 ow0 ow1 al0 al1
      clear hac
      have HB : Hid (Hp W (wr.alloc (.cells #[.int .u8 kd, .int .u32 an, .int .u32 ak, .int .u32 lo, .int .u32 ow, .int .u32 al] 49)) [blkA wr.heap.size 49 #[.int .u8 kd, .int .u32 an, .int .u32 ak, .int .u32 lo, .int .u32 ow, .int .u32 al], encA e s, mdlA m L false, mdlA fm [1, 7, 300] true, rencA f R, rmdlA x L false, rmdlA fx [1, 7, 300] true]) := Lib.hid (H.out.new_blk _ _)
      go_upto_block 2 with fail
      go_cut [18, 19, 20, 21, 22, 23, 68] (fun _ _ _ _ _ _ _ wc => ∃ (s' : St) (R' : RSt) (L' : List Int), Hid (Rel s' R') ∧ Hid (RGood R') ∧ s'.k ≤ 4 * (k + 1) ∧ Hid (Mdl.Good L') ∧ Hid (L'.length = n) ∧ Hid (Hp W wc [encA e s', mdlA m L' false, mdlA fm [1, 7, 300] true, rencA f R', rmdlA x L' false, rmdlA fx [1, 7, 300] true]))
      case first =>
        have h4 : kd % 4 = 0 ∨ kd % 4 = 1 ∨ kd % 4 = 2 ∨ kd % 4 = 3 := by omega
        obtain ⟨j, hj⟩ : ∃ j : Nat, (j : Int) = an % ((n : Int) + 1) := ⟨(an % ((n : Int) + 1)).toNat, Int.toNat_of_nonneg (Int.emod_nonneg _ (by omega))⟩
        have HJ := Lib.hid hj
        clear hj
        rcases h4 with h4 | h4 | h4 | h4
        · go_wp2_with fail
          rw [← HJ.out]
          refine (SymA (HB.out.pk [1, 1, 1, 1, 1, 1]) (RL.out.ready RG.out) (by omega) GL.out j).mono ?_
          rintro e8 w8 ⟨rfl, h8⟩
          rw [LL.out] at h8
          rw [LL.out]
          by_cases hj : j < n
          · have hjL : j < L.length := by rw [LL.out]; exact hj
            rw [if_pos hj, if_pos hj] at h8
            have H8 : Hid (Hp W w8 [rencA f R, rmdlA x L false, encA e (symS s L j), mdlA m (Mdl.next false L j) false, mdlA fm [1, 7, 300] true, rmdlA fx [1, 7, 300] true]) := Lib.hid (h8.pk [3, 3, 0, 0, 0, 0])
            clear h8
            rw [decide_eq_true hj, show cd true = 0 from rfl]
            have ij : (j : Int) < (n : Int) := by omega
            go_wp2_with fail
            refine (RSymbol_h H8.out RG.out (by rw [← RL.out.k]; omega) GL.out j hjL).mono ?_
            rintro e9 w9 ⟨rfl, h9⟩
            have H9 := Lib.hid (h9.pk [2, 2, 2, 0, 0, 0])
            clear h9
            go_wp2_with fail
            go_meet
            have SR := symS_ready (RL.out.ready RG.out) GL.out hjL
            exact ⟨_, _, _, Lib.hid (symS_rel RL.out RG.out GL.out hjL), Lib.hid (rsymS_good RG.out GL.out hjL).1, by omega, Lib.hid (GL.out.next false j hjL), Lib.hid (by rw [Mdl.next_len]; exact LL.out), H9⟩
          · rw [if_neg hj, if_neg hj] at h8
            have H8 := Lib.hid h8
            clear h8
            rw [decide_eq_false hj, show cd false = 1 from rfl]
            have ij : ¬ (j : Int) < (n : Int) := by omega
            go_wp2_with fail
            go_meet
            exact ⟨_, _, _, RL, RG, by omega, GL, LL, H8⟩
        · have b28 : 0 ≤ ak % 28 ∧ ak % 28 < 28 := by omega
          have no : ∀ (q : Bool), q = false → (¬ (0 ≤ ak % 28 - 1 ∧ ak % 28 - 1 ≤ 24 ∧ an < 2 ^ (ak % 28 - 1).toNat)) → (q = true ↔ (0 ≤ ak % 28 - 1 ∧ ak % 28 - 1 ≤ 24 ∧ an < 2 ^ (ak % 28 - 1).toNat)) := fun q e h => by subst e; exact ⟨fun h => (by cases h), fun e => absurd e h⟩
          have NO := Lib.hid no
          clear no
          by_cases hw0 : ak % 28 - 1 < 0
          · go_wp2_with fail
            refine (BitsA (HB.out.pk [1, 1, 1, 1, 1, 1]) (RL.out.ready RG.out) (by omega) an (ak % 28 - 1) an0 false (NO.out _ rfl (fun h => by omega))).mono ?_
            rintro e8 w8 ⟨rfl, h8⟩
            have H8 : Hid (Hp W w8 [encA e s, mdlA m L false, mdlA fm [1, 7, 300] true, rencA f R, rmdlA x L false, rmdlA fx [1, 7, 300] true]) := Lib.hid h8
            clear h8
            rw [show cd false = 1 from rfl]
            go_wp2_with fail
            go_meet
            exact ⟨_, _, _, RL, RG, by omega, GL, LL, H8⟩
          by_cases hw1 : 24 < ak % 28 - 1
          · go_wp2_with fail
            refine (BitsA (HB.out.pk [1, 1, 1, 1, 1, 1]) (RL.out.ready RG.out) (by omega) an (ak % 28 - 1) an0 false (NO.out _ rfl (fun h => by omega))).mono ?_
            rintro e8 w8 ⟨rfl, h8⟩
            have H8 : Hid (Hp W w8 [encA e s, mdlA m L false, mdlA fm [1, 7, 300] true, rencA f R, rmdlA x L false, rmdlA fx [1, 7, 300] true]) := Lib.hid h8
            clear h8
            rw [show cd false = 1 from rfl]
            go_wp2_with fail
            go_meet
            exact ⟨_, _, _, RL, RG, by omega, GL, LL, H8⟩
          have eT : (ak % 28 - 1).toNat = (ak % 28).toNat - 1 := by omega
          have eW : (((ak % 28).toNat - 1 : Nat) : Int) = ak % 28 - 1 := by omega
          have ET := Lib.hid eT
          have EW := Lib.hid eW
          have bT : (ak % 28).toNat - 1 ≤ 24 := by omega
          clear eT eW
          by_cases hw2 : an < 2 ^ ((ak % 28).toNat - 1)
          · have k2 : (an / 2 ^ ((ak % 28).toNat - 1) == 0) = true := by rw [beq_iff_eq]; exact Int.ediv_eq_zero_of_lt an0 hw2
            go_wp2_with fail
            refine (BitsA (HB.out.pk [1, 0, 0, 0, 0, 0, 0]) (RL.out.ready RG.out) (by omega) an (ak % 28 - 1) an0 true ⟨fun _ => ⟨by omega, by omega, by rw [ET.out]; exact hw2⟩, fun _ => rfl⟩).mono ?_
            rintro e8 w8 ⟨rfl, h8⟩
            rw [if_pos rfl, ET.out] at h8
            have H8 : Hid (Hp W w8 [rencA f R, encA e (bitsS s an ((ak % 28).toNat - 1)), mdlA m L false, mdlA fm [1, 7, 300] true, rmdlA x L false, rmdlA fx [1, 7, 300] true]) := Lib.hid (h8.pk [4, 0, 1, 1, 1, 1])
            have d1 := ((h8.pk [1]).blk).cell (i := 1) rfl
            clear h8
            rw [show cd true = 0 from rfl]
            go_wp2_with fail
            rw [← EW.out]
            refine (RBits_h H8.out RG.out (by rw [← RL.out.k]; omega) an ((ak % 28).toNat - 1) an0 hw2 bT).mono ?_
            rintro e9 w9 ⟨rfl, h9⟩
            have H9 : Hid (Hp W w9 [encA e (bitsS s an ((ak % 28).toNat - 1)), mdlA m L false, mdlA fm [1, 7, 300] true, rencA f (rbitsS R an ((ak % 28).toNat - 1)), rmdlA x L false, rmdlA fx [1, 7, 300] true]) := Lib.hid (h9.pk [1, 1, 1, 0, 0, 0])
            clear h9
            go_wp2_with fail
            go_meet
            have SR := bitsS_ready (RL.out.ready RG.out) an ((ak % 28).toNat - 1) bT
            exact ⟨_, _, _, Lib.hid (bitsS_rel RL.out RG.out an _ bT), Lib.hid (rbitsS_good RG.out an _ bT).1, by omega, GL, LL, H9⟩
          · have NW := Lib.hid hw2
            have k2 : (an / 2 ^ ((ak % 28).toNat - 1) == 0) = false := by
              rw [beq_eq_false_iff_ne]
              intro h
              have hp : (0 : Int) < 2 ^ ((ak % 28).toNat - 1) := Int.pow_pos (by decide)
              have h1 := Int.emod_lt_of_pos an hp
              have h2 := Int.mul_ediv_add_emod an (2 ^ ((ak % 28).toNat - 1))
              rw [h, Int.mul_zero, Int.zero_add] at h2
              exact hw2 (by rw [← h2]; exact h1)
            go_wp2_with fail
            refine (BitsA (HB.out.pk [1, 1, 1, 1, 1, 1]) (RL.out.ready RG.out) (by omega) an (ak % 28 - 1) an0 false (NO.out _ rfl (fun h => by rw [ET.out] at h; exact absurd h.2.2 (Int.not_lt.2 NW.out)))).mono ?_
            rintro e8 w8 ⟨rfl, h8⟩
            have H8 : Hid (Hp W w8 [encA e s, mdlA m L false, mdlA fm [1, 7, 300] true, rencA f R, rmdlA x L false, rmdlA fx [1, 7, 300] true]) := Lib.hid h8
            clear h8
            rw [show cd false = 1 from rfl]
            go_wp2_with fail
            go_meet
            exact ⟨_, _, _, RL, RG, by omega, GL, LL, H8⟩
        · obtain ⟨q, hq⟩ : ∃ q : Bool, q = true ↔ May lo ow al := by
            by_cases h : May lo ow al
            · exact ⟨true, fun _ => h, fun _ => rfl⟩
            · exact ⟨false, fun e => (by cases e), fun e => absurd e h⟩
          have HQ := Lib.hid hq
          clear hq
          go_wp2_with fail
          refine (PutA (HB.out.pk [1, 0, 0, 0, 0, 0, 0]) (RL.out.ready RG.out) (by omega) lo ow al lo0 ow0 al0 al1 q HQ.out).mono ?_
          rintro e8 w8 ⟨rfl, h8⟩
          have d3 := ((h8.pk [1]).blk).cell (i := 3) rfl
          have d4 := ((h8.pk [1]).blk).cell (i := 4) rfl
          have d5 := ((h8.pk [1]).blk).cell (i := 5) rfl
          rw [← (show (if q = true then putS s lo ow al else s) = (if q then putS s lo ow al else s) from rfl)] at h8
          have H8 := Lib.hid h8
          clear h8
          cases q with
          | false =>
            rw [show cd false = 1 from rfl]
            go_wp2_with fail
            refine (may_calls lo ow al lo0 lo1 ow0 ow1 al0 al1 false HQ.out _).mono ?_
            rintro e9 w9 ⟨rfl, h9⟩
            have H9 := Lib.hid ((H8.out.keep h9).pk [0, 1, 1, 1, 1, 1])
            obtain ⟨f3, f4, f5⟩ : w9.cell? ⟨wr.heap.size, 3, none⟩ = some (.int .u32 lo) ∧ w9.cell? ⟨wr.heap.size, 4, none⟩ = some (.int .u32 ow) ∧ w9.cell? ⟨wr.heap.size, 5, none⟩ = some (.int .u32 al) := ⟨((H8.out.keep h9).pk [1]).blk.cell (i := 3) rfl, ((H8.out.keep h9).pk [1]).blk.cell (i := 4) rfl, ((H8.out.keep h9).pk [1]).blk.cell (i := 5) rfl⟩
            clear h9
            go_wp2_with fail
            refine (may_calls lo ow al lo0 lo1 ow0 ow1 al0 al1 false HQ.out _).mono ?_
            rintro e10 w10 ⟨rfl, h10⟩
            have H10 : Hid (Hp W w10 [encA e s, mdlA m L false, mdlA fm [1, 7, 300] true, rencA f R, rmdlA x L false, rmdlA fx [1, 7, 300] true]) := Lib.hid (H9.out.keep h10)
            clear h10
            go_wp2_with fail
            go_meet
            exact ⟨_, _, _, RL, RG, by omega, GL, LL, H10⟩
          | true =>
            have mayT : May lo ow al := HQ.out.1 rfl
            have HM := Lib.hid mayT
            clear mayT HQ
            rw [show cd true = 0 from rfl]
            go_wp2_with fail
            refine (may_calls lo ow al lo0 lo1 ow0 ow1 al0 al1 true ⟨fun _ => HM.out, fun _ => rfl⟩ _).mono ?_
            rintro e9 w9 ⟨rfl, h9⟩
            have H9 := Lib.hid (H8.out.keep h9)
            obtain ⟨f3, f4, f5⟩ : w9.cell? ⟨wr.heap.size, 3, none⟩ = some (.int .u32 lo) ∧ w9.cell? ⟨wr.heap.size, 4, none⟩ = some (.int .u32 ow) ∧ w9.cell? ⟨wr.heap.size, 5, none⟩ = some (.int .u32 al) := ⟨((H8.out.keep h9).pk [1]).blk.cell (i := 3) rfl, ((H8.out.keep h9).pk [1]).blk.cell (i := 4) rfl, ((H8.out.keep h9).pk [1]).blk.cell (i := 5) rfl⟩
            clear h9
            go_wp2_with fail
            refine (may_calls lo ow al lo0 lo1 ow0 ow1 al0 al1 true ⟨fun _ => HM.out, fun _ => rfl⟩ _).mono ?_
            rintro e10 w10 ⟨rfl, h10⟩
            have H10 : Hid (Hp W w10 [rencA f R, encA e (putS s lo ow al), mdlA m L false, mdlA fm [1, 7, 300] true, rmdlA x L false, rmdlA fx [1, 7, 300] true]) := Lib.hid ((H9.out.keep h10).pk [4, 0, 1, 1, 1, 1])
            obtain ⟨g3, g4, g5⟩ : w10.cell? ⟨wr.heap.size, 3, none⟩ = some (.int .u32 lo) ∧ w10.cell? ⟨wr.heap.size, 4, none⟩ = some (.int .u32 ow) ∧ w10.cell? ⟨wr.heap.size, 5, none⟩ = some (.int .u32 al) := ⟨((H9.out.keep h10).pk [1]).blk.cell (i := 3) rfl, ((H9.out.keep h10).pk [1]).blk.cell (i := 4) rfl, ((H9.out.keep h10).pk [1]).blk.cell (i := 5) rfl⟩
            clear h10
            go_wp2_with fail
            refine (RPut_h H10.out RG.out (by rw [← RL.out.k]; omega) lo ow al HM.out).mono ?_
            rintro e11 w11 ⟨rfl, h11⟩
            have H11 : Hid (Hp W w11 [encA e (putS s lo ow al), mdlA m L false, mdlA fm [1, 7, 300] true, rencA f (rputS R lo ow al), rmdlA x L false, rmdlA fx [1, 7, 300] true]) := Lib.hid (h11.pk [1, 1, 1, 0, 0, 0])
            clear h11
            go_wp2_with fail
            go_meet
            have SR := put_ready (RL.out.ready RG.out) HM.out
            exact ⟨_, _, _, Lib.hid (put_rel RL.out RG.out HM.out), Lib.hid (rput_good RG.out HM.out).1, by omega, GL, LL, H11⟩
        · obtain ⟨j3, hj3⟩ : ∃ j : Nat, (j : Int) = an % 3 := ⟨(an % 3).toNat, Int.toNat_of_nonneg (Int.emod_nonneg _ (by omega))⟩
          have lt3 : j3 < 3 := by omega
          have HJ3 := Lib.hid hj3
          clear hj3
          go_wp2_with fail
          rw [← HJ3.out]
          refine (Symbol_h (HB.out.pk [1, 2, 0, 0, 0, 0, 0]) (RL.out.ready RG.out) (by omega) good3 j3 lt3).mono ?_
          rintro e8 w8 ⟨rfl, h8⟩
          rw [nx_fixed] at h8
          have H8 : Hid (Hp W w8 [rencA f R, rmdlA fx [1, 7, 300] true, encA e (symS s [1, 7, 300] j3), mdlA m L false, mdlA fm [1, 7, 300] true, rmdlA x L false]) := Lib.hid (h8.pk [4, 5, 0, 2, 0, 1])
          have B8 := h8.up2.blk
          have d1 := B8.cell (i := 1) rfl
          clear h8 B8
          go_wp2_with fail
          rw [← HJ3.out]
          refine (RSymbol_h H8.out RG.out (by rw [← RL.out.k]; omega) good3 j3 lt3).mono ?_
          rintro e9 w9 ⟨rfl, h9⟩
          rw [nx_fixed] at h9
          have H9 := Lib.hid (h9.pk [2, 2, 2, 0, 1, 0])
          clear h9
          go_wp2_with fail
          go_meet
          have SR := symS_ready (RL.out.ready RG.out) good3 lt3
          exact ⟨_, _, _, Lib.hid (symS_rel RL.out RG.out good3 lt3), Lib.hid (rsymS_good RG.out good3 lt3).1, by omega, GL, LL, H9⟩
      case rest =>
        obtain ⟨s', R', L', RL2, RG2, hks2, GL2, LL2, H2'⟩ := hcut
        have H2 : Hid (Hp W wc [encA e s', rencA f R', mdlA m L' false, mdlA fm [1, 7, 300] true, rmdlA x L' false, rmdlA fx [1, 7, 300] true]) := Lib.hid (H2'.out.pk [0, 2, 0, 0, 0, 0])
        clear H HB RL RG GL LL H2' hks
        have RDY := Lib.hid (RL2.out.ready RG2.out)
        have HE := Lib.hid RL2.out.he0
        have BR := Lib.hid (bytes_rel RL2.out RG2.out)
        have DIG := Lib.hid RG2.out.dig
        have kK := RL2.out.k
        have bD : R'.D.length ≤ 900000000 := by have := RG2.out.len; omega
        have KE : Hid (((s'.k + 4 : Nat) : Int) = (R'.K : Int) + 4) := Lib.hid (by omega)
        have bK : R'.K ≤ 1300 := by omega
        clear kK
        have kW : IntKind.i64.wrap ((R'.K : Int) + 4) = (R'.K : Int) + 4 := IntWalk.i64_in _ (by omega)
        by_cases h16 : k % 16 = 0
        · have t16 : Int.tmod (k : Int) 16 = 0 := by rw [Int.tmod_eq_emod_of_nonneg (by omega)]; omega
          clear h16
          go_wp2_with fail
          refine wp_region_noPanic ?_
          refine wp_region_any (by kernel_rfl) ?_
          try (change wpAny _ _ _ _ _ _ _ (World.drew _))
          refine wpAny_of_held (S := fun w => Hp W w [encA e s', rencA f R', mdlA m L' false, mdlA fm [1, 7, 300] true, rmdlA x L' false, rmdlA fx [1, 7, 300] true]) _ _ _ _ ?_
          have hHeld := H2.out.drew
          refine wpAnyH_take (i := 0) (v := ?_) rfl (by kernel_rfl) (by kernel_rfl) (by kernel_rfl) (fun _ _ _ h => h) (Or.inl ⟨by kernel_rfl, ?_⟩) hHeld ?_
          rotate_left
          · intro w hSw
            first | (go_simp; done) | (go_simp; with_reducible rfl)
          try simp only [Act.put, List.getElem_toArray, List.getElem_cons_zero, List.getElem_cons_succ, List.setIfInBounds_toArray, List.set_cons_zero, List.set_cons_succ]
          refine wpAnyH_take (i := 2) (v := ?_) rfl (by kernel_rfl) (by kernel_rfl) (by kernel_rfl) (fun _ _ _ h => h) (Or.inl ⟨by kernel_rfl, ?_⟩) hHeld ?_
          rotate_left
          · intro w hSw
            first | (go_simp; done) | (go_simp; with_reducible rfl)
          try simp only [Act.put, List.getElem_toArray, List.getElem_cons_zero, List.getElem_cons_succ, List.setIfInBounds_toArray, List.set_cons_zero, List.set_cons_succ]
          refine wpAnyH_take (i := 3) (v := ?_) rfl (by kernel_rfl) (by kernel_rfl) (by kernel_rfl) (fun _ _ _ h => h) (Or.inl ⟨by kernel_rfl, ?_⟩) hHeld ?_
          rotate_left
          · intro w hSw
            first | (go_simp; done) | (go_simp; with_reducible rfl)
          try simp only [Act.put, List.getElem_toArray, List.getElem_cons_zero, List.getElem_cons_succ, List.setIfInBounds_toArray, List.set_cons_zero, List.set_cons_succ]
          refine wpAnyH_take (i := 4) (v := ?_) rfl (by kernel_rfl) (by kernel_rfl) (by kernel_rfl) (fun _ _ _ h => h) (Or.inl ⟨by kernel_rfl, ?_⟩) hHeld ?_
          rotate_left
          · intro w hSw
            first | (go_simp; done) | (go_simp; with_reducible rfl)
          try simp only [Act.put, List.getElem_toArray, List.getElem_cons_zero, List.getElem_cons_succ, List.setIfInBounds_toArray, List.set_cons_zero, List.set_cons_succ]
          refine wpAnyH_take (i := 5) (v := ?_) rfl (by kernel_rfl) (by kernel_rfl) (by kernel_rfl) (fun _ _ _ h => h) (Or.inl ⟨by kernel_rfl, ?_⟩) hHeld ?_
          rotate_left
          · intro w hSw
            have c2 := Hp.rK (Hp.up1 hSw)
            first | (go_simp; done) | (go_simp; with_reducible rfl)
          try simp only [Act.put, List.getElem_toArray, List.getElem_cons_zero, List.getElem_cons_succ, List.setIfInBounds_toArray, List.set_cons_zero, List.set_cons_succ]
          refine wpAnyH_take (i := 6) (v := ?_) rfl (by kernel_rfl) (by kernel_rfl) (by kernel_rfl) (fun _ _ _ h => h) (Or.inl ⟨by kernel_rfl, ?_⟩) hHeld ?_
          rotate_left
          · intro w hSw
            first | (go_simp; done) | (go_simp; with_reducible rfl)
          try simp only [Act.put, List.getElem_toArray, List.getElem_cons_zero, List.getElem_cons_succ, List.setIfInBounds_toArray, List.set_cons_zero, List.set_cons_succ]
          refine wpAnyH_ready (rs := [1]) (by kernel_rfl) (by simp) ?_
          refine AllReadyH.cons rfl (fun K hK => ?_) AllReadyH.nil
          go_simp
          go_at_call 20
          refine (Len_h hHeld HE.out (by omega)).mono ?_
          rintro e8 w8 ⟨rfl, h8⟩
          rw [KE.out]
          have H8 := Lib.hid h8
          clear h8
          go_simp
          refine hK.out _ _ (H8.out) (fun hHeld => ?_)
          clear hK K
          try simp only [Act.put, List.getElem_toArray, List.getElem_cons_zero, List.getElem_cons_succ, List.setIfInBounds_toArray, List.set_cons_zero, List.set_cons_succ]
          refine wpAnyH_take (i := 7) (v := ?_) rfl (by kernel_rfl) (by kernel_rfl) (by kernel_rfl) (fun _ _ _ h => h) (Or.inl ⟨by kernel_rfl, ?_⟩) hHeld ?_
          rotate_left
          · intro w hSw
            first | (go_simp; done) | (go_simp; with_reducible rfl)
          try simp only [Act.put, List.getElem_toArray, List.getElem_cons_zero, List.getElem_cons_succ, List.setIfInBounds_toArray, List.set_cons_zero, List.set_cons_succ]
          refine wpAnyH_take (i := 8) (v := ?_) rfl (by kernel_rfl) (by kernel_rfl) (by kernel_rfl) (fun _ _ _ h => h) (Or.inl ⟨by kernel_rfl, ?_⟩) hHeld ?_
          rotate_left
          · intro w hSw
            first | (go_simp; done) | (go_simp; with_reducible rfl)
          try simp only [Act.put, List.getElem_toArray, List.getElem_cons_zero, List.getElem_cons_succ, List.setIfInBounds_toArray, List.set_cons_zero, List.set_cons_succ]
          refine wpAnyH_take (i := 9) (v := ?_) rfl (by kernel_rfl) (by kernel_rfl) (by kernel_rfl) (fun _ _ _ h => h) (Or.inl ⟨by kernel_rfl, ?_⟩) hHeld ?_
          rotate_left
          · intro w hSw
            first | (go_simp; done) | (go_simp; with_reducible rfl)
          try simp only [Act.put, List.getElem_toArray, List.getElem_cons_zero, List.getElem_cons_succ, List.setIfInBounds_toArray, List.set_cons_zero, List.set_cons_succ]
          refine wpAnyH_take (i := 10) (v := ?_) rfl (by kernel_rfl) (by kernel_rfl) (by kernel_rfl) (fun _ _ _ h => h) (Or.inl ⟨by kernel_rfl, ?_⟩) hHeld ?_
          rotate_left
          · intro w hSw
            first | (go_simp; done) | (go_simp; with_reducible rfl)
          try simp only [Act.put, List.getElem_toArray, List.getElem_cons_zero, List.getElem_cons_succ, List.setIfInBounds_toArray, List.set_cons_zero, List.set_cons_succ]
          refine wpAnyH_take (i := 11) (v := ?_) rfl (by kernel_rfl) (by kernel_rfl) (by kernel_rfl) (fun _ _ _ h => h) (Or.inl ⟨by kernel_rfl, ?_⟩) hHeld ?_
          rotate_left
          · intro w hSw
            first | (go_simp; done) | (go_simp; with_reducible rfl)
          try simp only [Act.put, List.getElem_toArray, List.getElem_cons_zero, List.getElem_cons_succ, List.setIfInBounds_toArray, List.set_cons_zero, List.set_cons_succ]
          refine wpAnyH_take (i := 12) (v := ?_) rfl (by kernel_rfl) (by kernel_rfl) (by kernel_rfl) (fun _ _ _ h => h) (Or.inl ⟨by kernel_rfl, ?_⟩) hHeld ?_
          rotate_left
          · intro w hSw
            first | (go_simp; done) | (go_simp; with_reducible rfl)
          try simp only [Act.put, List.getElem_toArray, List.getElem_cons_zero, List.getElem_cons_succ, List.setIfInBounds_toArray, List.set_cons_zero, List.set_cons_succ]
          refine wpAnyH_take (i := 13) (v := ?_) rfl (by kernel_rfl) (by kernel_rfl) (by kernel_rfl) (fun _ _ _ h => h) (Or.inl ⟨by kernel_rfl, ?_⟩) hHeld ?_
          rotate_left
          · intro w hSw
            first | (go_simp; done) | (go_simp; with_reducible rfl)
          try simp only [Act.put, List.getElem_toArray, List.getElem_cons_zero, List.getElem_cons_succ, List.setIfInBounds_toArray, List.set_cons_zero, List.set_cons_succ]
          refine wpAnyH_take (i := 16) (v := ?_) rfl (by kernel_rfl) (by kernel_rfl) (by kernel_rfl) (fun _ _ _ h => h) (Or.inl ⟨by kernel_rfl, ?_⟩) hHeld ?_
          rotate_left
          · intro w hSw
            first | (go_simp; done) | (go_simp; with_reducible rfl)
          try simp only [Act.put, List.getElem_toArray, List.getElem_cons_zero, List.getElem_cons_succ, List.setIfInBounds_toArray, List.set_cons_zero, List.set_cons_succ]
          refine wpAnyH_ready (rs := [14]) (by kernel_rfl) (by simp) ?_
          refine AllReadyH.cons rfl (fun K hK => ?_) AllReadyH.nil
          go_simp
          go_at_call 21
          refine (Bytes_h hHeld RDY.out (by omega)).mono ?_
          rintro e9 w9 ⟨v9, rfl, h9⟩
          rw [BR.out] at h9
          have H9 := Lib.hid h9
          clear h9
          go_simp
          refine hK.out _ _ (H9.out.drop) (fun hHeld => ?_)
          clear hK K
          try simp only [Act.put, List.getElem_toArray, List.getElem_cons_zero, List.getElem_cons_succ, List.setIfInBounds_toArray, List.set_cons_zero, List.set_cons_succ]
          refine wpAnyH_imp (S := fun w => Hp W w [slA 5 .u8 v9 (strip R'.D), encA e s', rencA f R', mdlA m L' false, mdlA fm [1, 7, 300] true, rmdlA x L' false, rmdlA fx [1, 7, 300] true]) (fun _ h => Hp.drop h) _ _ _ _ ?_
          have hHeld := H9.out
          refine wpAnyH_take (i := 15) (v := ?_) rfl (by kernel_rfl) (by kernel_rfl) (by kernel_rfl) (fun _ _ _ h => h) (Or.inl ⟨by kernel_rfl, ?_⟩) hHeld ?_
          rotate_left
          · intro w hSw
            have cvA := Src.str (P := Try.prog) (w := w) (src := 35) (dst := 9) Try.underlying35 Try.underlying5 Try.underlying9 (Src.of_sl (Hp.sl hSw))
            first | (go_simp; done) | (go_simp; with_reducible rfl)
          try simp only [Act.put, List.getElem_toArray, List.getElem_cons_zero, List.getElem_cons_succ, List.setIfInBounds_toArray, List.set_cons_zero, List.set_cons_succ]
          refine wpAnyH_ready (rs := [17]) (by kernel_rfl) (by simp) ?_
          refine AllReadyH.cons rfl (fun K hK => ?_) AllReadyH.nil
          go_simp
          go_at_call 31
          refine (RBytes_h (Hp.up2 hHeld) DIG.out (by omega)).mono ?_
          rintro e10 w10 ⟨v10, rfl, h10⟩
          have H10 : Hid (Hp W w10 [slA 5 .u8 v10 (strip R'.D), slA 5 .u8 v9 (strip R'.D), encA e s', rencA f R', mdlA m L' false, mdlA fm [1, 7, 300] true, rmdlA x L' false, rmdlA fx [1, 7, 300] true]) := Lib.hid (h10.pk [0, 1, 1, 0, 0, 0, 0, 0])
          clear h10
          go_simp
          refine hK.out _ _ (H10.out.drop) (fun hHeld => ?_)
          clear hK K
          try simp only [Act.put, List.getElem_toArray, List.getElem_cons_zero, List.getElem_cons_succ, List.setIfInBounds_toArray, List.set_cons_zero, List.set_cons_succ]
          refine wpAnyH_imp (S := fun w => Hp W w [slA 5 .u8 v10 (strip R'.D), slA 5 .u8 v9 (strip R'.D), encA e s', rencA f R', mdlA m L' false, mdlA fm [1, 7, 300] true, rmdlA x L' false, rmdlA fx [1, 7, 300] true]) (fun _ h => Hp.drop h) _ _ _ _ ?_
          have hHeld := H10.out
          refine wpAnyH_take (i := 18) (v := ?_) rfl (by kernel_rfl) (by kernel_rfl) (by kernel_rfl) (fun _ _ _ h => h) (Or.inl ⟨by kernel_rfl, ?_⟩) hHeld ?_
          rotate_left
          · intro w hSw
            have cvB := Src.str (P := Try.prog) (w := w) (src := 35) (dst := 9) Try.underlying35 Try.underlying5 Try.underlying9 (Src.of_sl (Hp.sl hSw))
            first | (go_simp; done) | (go_simp; with_reducible rfl)
          try simp only [Act.put, List.getElem_toArray, List.getElem_cons_zero, List.getElem_cons_succ, List.setIfInBounds_toArray, List.set_cons_zero, List.set_cons_succ]
          refine wpAnyH_take (i := 19) (v := ?_) rfl (by kernel_rfl) (by kernel_rfl) (by kernel_rfl) (fun _ _ _ h => h) (Or.inl ⟨by kernel_rfl, ?_⟩) hHeld ?_
          rotate_left
          · intro w hSw
            first | (go_simp; done) | (go_simp; with_reducible rfl)
          try simp only [Act.put, List.getElem_toArray, List.getElem_cons_zero, List.getElem_cons_succ, List.setIfInBounds_toArray, List.set_cons_zero, List.set_cons_succ]
          refine wpAnyH_take (i := 20) (v := ?_) rfl (by kernel_rfl) (by kernel_rfl) (by kernel_rfl) (fun _ _ _ h => h) (Or.inl ⟨by kernel_rfl, ?_⟩) hHeld ?_
          rotate_left
          · intro w hSw
            first | (go_simp; done) | (go_simp; with_reducible rfl)
          try simp only [Act.put, List.getElem_toArray, List.getElem_cons_zero, List.getElem_cons_succ, List.setIfInBounds_toArray, List.set_cons_zero, List.set_cons_succ]
          refine wpAnyH_take (i := 21) (v := ?_) rfl (by kernel_rfl) (by kernel_rfl) (by kernel_rfl) (fun _ _ _ h => h) (Or.inl ⟨by kernel_rfl, ?_⟩) hHeld ?_
          rotate_left
          · intro w hSw
            first | (go_simp; done) | (go_simp; with_reducible rfl)
          try simp only [Act.put, List.getElem_toArray, List.getElem_cons_zero, List.getElem_cons_succ, List.setIfInBounds_toArray, List.set_cons_zero, List.set_cons_succ]
          refine wpAnyH_done (by kernel_rfl) ?_ _
          refine NoPanic.normal ?_
          have H12 : Hid (Hp W w10 [encA e s', mdlA m L' false, mdlA fm [1, 7, 300] true, rencA f R', rmdlA x L' false, rmdlA fx [1, 7, 300] true]) := Lib.hid (H10.out.pk [2, 3, 3, 2, 2, 2])
          clear H10 H9 H8 H2
          go_wp2_with fail
          go_roundw
          case rel => exact ⟨k + 1, s', R', L', by omega, by go_num, RL2, RG2, hks2, GL2, LL2, H12⟩
          case measure => simp [intOf]; omega
        · have t16 : (Int.tmod (k : Int) 16 == 0) = false := by
            rw [Int.tmod_eq_emod_of_nonneg (by omega), beq_eq_false_iff_ne]; omega
          clear h16
          go_wp2_with fail
          refine wp_region_noPanic ?_
          refine wp_region_any (by kernel_rfl) ?_
          try (change wpAny _ _ _ _ _ _ _ (World.drew _))
          refine wpAny_of_held (S := fun w => Hp W w [encA e s', rencA f R', mdlA m L' false, mdlA fm [1, 7, 300] true, rmdlA x L' false, rmdlA fx [1, 7, 300] true]) _ _ _ _ ?_
          have hHeld := H2.out.drew
          refine wpAnyH_take (i := 0) (v := ?_) rfl (by kernel_rfl) (by kernel_rfl) (by kernel_rfl) (fun _ _ _ h => h) (Or.inl ⟨by kernel_rfl, ?_⟩) hHeld ?_
          rotate_left
          · intro w hSw
            first | (go_simp; done) | (go_simp; with_reducible rfl)
          try simp only [Act.put, List.getElem_toArray, List.getElem_cons_zero, List.getElem_cons_succ, List.setIfInBounds_toArray, List.set_cons_zero, List.set_cons_succ]
          refine wpAnyH_take (i := 2) (v := ?_) rfl (by kernel_rfl) (by kernel_rfl) (by kernel_rfl) (fun _ _ _ h => h) (Or.inl ⟨by kernel_rfl, ?_⟩) hHeld ?_
          rotate_left
          · intro w hSw
            first | (go_simp; done) | (go_simp; with_reducible rfl)
          try simp only [Act.put, List.getElem_toArray, List.getElem_cons_zero, List.getElem_cons_succ, List.setIfInBounds_toArray, List.set_cons_zero, List.set_cons_succ]
          refine wpAnyH_take (i := 3) (v := ?_) rfl (by kernel_rfl) (by kernel_rfl) (by kernel_rfl) (fun _ _ _ h => h) (Or.inl ⟨by kernel_rfl, ?_⟩) hHeld ?_
          rotate_left
          · intro w hSw
            first | (go_simp; done) | (go_simp; with_reducible rfl)
          try simp only [Act.put, List.getElem_toArray, List.getElem_cons_zero, List.getElem_cons_succ, List.setIfInBounds_toArray, List.set_cons_zero, List.set_cons_succ]
          refine wpAnyH_take (i := 4) (v := ?_) rfl (by kernel_rfl) (by kernel_rfl) (by kernel_rfl) (fun _ _ _ h => h) (Or.inl ⟨by kernel_rfl, ?_⟩) hHeld ?_
          rotate_left
          · intro w hSw
            first | (go_simp; done) | (go_simp; with_reducible rfl)
          try simp only [Act.put, List.getElem_toArray, List.getElem_cons_zero, List.getElem_cons_succ, List.setIfInBounds_toArray, List.set_cons_zero, List.set_cons_succ]
          refine wpAnyH_take (i := 5) (v := ?_) rfl (by kernel_rfl) (by kernel_rfl) (by kernel_rfl) (fun _ _ _ h => h) (Or.inl ⟨by kernel_rfl, ?_⟩) hHeld ?_
          rotate_left
          · intro w hSw
            have c2 := Hp.rK (Hp.up1 hSw)
            first | (go_simp; done) | (go_simp; with_reducible rfl)
          try simp only [Act.put, List.getElem_toArray, List.getElem_cons_zero, List.getElem_cons_succ, List.setIfInBounds_toArray, List.set_cons_zero, List.set_cons_succ]
          refine wpAnyH_take (i := 6) (v := ?_) rfl (by kernel_rfl) (by kernel_rfl) (by kernel_rfl) (fun _ _ _ h => h) (Or.inl ⟨by kernel_rfl, ?_⟩) hHeld ?_
          rotate_left
          · intro w hSw
            first | (go_simp; done) | (go_simp; with_reducible rfl)
          try simp only [Act.put, List.getElem_toArray, List.getElem_cons_zero, List.getElem_cons_succ, List.setIfInBounds_toArray, List.set_cons_zero, List.set_cons_succ]
          refine wpAnyH_ready (rs := [1]) (by kernel_rfl) (by simp) ?_
          refine AllReadyH.cons rfl (fun K hK => ?_) AllReadyH.nil
          go_simp
          go_at_call 20
          refine (Len_h hHeld HE.out (by omega)).mono ?_
          rintro e8 w8 ⟨rfl, h8⟩
          rw [KE.out]
          have H8 := Lib.hid h8
          clear h8
          go_simp
          refine hK.out _ _ (H8.out) (fun hHeld => ?_)
          clear hK K
          try simp only [Act.put, List.getElem_toArray, List.getElem_cons_zero, List.getElem_cons_succ, List.setIfInBounds_toArray, List.set_cons_zero, List.set_cons_succ]
          refine wpAnyH_take (i := 7) (v := ?_) rfl (by kernel_rfl) (by kernel_rfl) (by kernel_rfl) (fun _ _ _ h => h) (Or.inl ⟨by kernel_rfl, ?_⟩) hHeld ?_
          rotate_left
          · intro w hSw
            first | (go_simp; done) | (go_simp; with_reducible rfl)
          try simp only [Act.put, List.getElem_toArray, List.getElem_cons_zero, List.getElem_cons_succ, List.setIfInBounds_toArray, List.set_cons_zero, List.set_cons_succ]
          refine wpAnyH_take (i := 8) (v := ?_) rfl (by kernel_rfl) (by kernel_rfl) (by kernel_rfl) (fun _ _ _ h => h) (Or.inl ⟨by kernel_rfl, ?_⟩) hHeld ?_
          rotate_left
          · intro w hSw
            first | (go_simp; done) | (go_simp; with_reducible rfl)
          try simp only [Act.put, List.getElem_toArray, List.getElem_cons_zero, List.getElem_cons_succ, List.setIfInBounds_toArray, List.set_cons_zero, List.set_cons_succ]
          refine wpAnyH_take (i := 9) (v := ?_) rfl (by kernel_rfl) (by kernel_rfl) (by kernel_rfl) (fun _ _ _ h => h) (Or.inl ⟨by kernel_rfl, ?_⟩) hHeld ?_
          rotate_left
          · intro w hSw
            first | (go_simp; done) | (go_simp; with_reducible rfl)
          try simp only [Act.put, List.getElem_toArray, List.getElem_cons_zero, List.getElem_cons_succ, List.setIfInBounds_toArray, List.set_cons_zero, List.set_cons_succ]
          refine wpAnyH_take (i := 10) (v := ?_) rfl (by kernel_rfl) (by kernel_rfl) (by kernel_rfl) (fun _ _ _ h => h) (Or.inl ⟨by kernel_rfl, ?_⟩) hHeld ?_
          rotate_left
          · intro w hSw
            first | (go_simp; done) | (go_simp; with_reducible rfl)
          try simp only [Act.put, List.getElem_toArray, List.getElem_cons_zero, List.getElem_cons_succ, List.setIfInBounds_toArray, List.set_cons_zero, List.set_cons_succ]
          refine wpAnyH_take (i := 11) (v := ?_) rfl (by kernel_rfl) (by kernel_rfl) (by kernel_rfl) (fun _ _ _ h => h) (Or.inl ⟨by kernel_rfl, ?_⟩) hHeld ?_
          rotate_left
          · intro w hSw
            first | (go_simp; done) | (go_simp; with_reducible rfl)
          try simp only [Act.put, List.getElem_toArray, List.getElem_cons_zero, List.getElem_cons_succ, List.setIfInBounds_toArray, List.set_cons_zero, List.set_cons_succ]
          refine wpAnyH_take (i := 12) (v := ?_) rfl (by kernel_rfl) (by kernel_rfl) (by kernel_rfl) (fun _ _ _ h => h) (Or.inl ⟨by kernel_rfl, ?_⟩) hHeld ?_
          rotate_left
          · intro w hSw
            first | (go_simp; done) | (go_simp; with_reducible rfl)
          try simp only [Act.put, List.getElem_toArray, List.getElem_cons_zero, List.getElem_cons_succ, List.setIfInBounds_toArray, List.set_cons_zero, List.set_cons_succ]
          refine wpAnyH_take (i := 13) (v := undef) rfl (by kernel_rfl) (by kernel_rfl) (by kernel_rfl) (fun _ _ _ h => h) (Or.inr ⟨by kernel_rfl, rfl⟩) hHeld ?_
          try simp only [Act.put, List.getElem_toArray, List.getElem_cons_zero, List.getElem_cons_succ, List.setIfInBounds_toArray, List.set_cons_zero, List.set_cons_succ]
          refine wpAnyH_take (i := 14) (v := undef) rfl (by kernel_rfl) (by kernel_rfl) (by kernel_rfl) (fun _ _ _ h => h) (Or.inr ⟨by kernel_rfl, rfl⟩) hHeld ?_
          try simp only [Act.put, List.getElem_toArray, List.getElem_cons_zero, List.getElem_cons_succ, List.setIfInBounds_toArray, List.set_cons_zero, List.set_cons_succ]
          refine wpAnyH_take (i := 15) (v := undef) rfl (by kernel_rfl) (by kernel_rfl) (by kernel_rfl) (fun _ _ _ h => h) (Or.inr ⟨by kernel_rfl, rfl⟩) hHeld ?_
          try simp only [Act.put, List.getElem_toArray, List.getElem_cons_zero, List.getElem_cons_succ, List.setIfInBounds_toArray, List.set_cons_zero, List.set_cons_succ]
          refine wpAnyH_take (i := 16) (v := undef) rfl (by kernel_rfl) (by kernel_rfl) (by kernel_rfl) (fun _ _ _ h => h) (Or.inr ⟨by kernel_rfl, rfl⟩) hHeld ?_
          try simp only [Act.put, List.getElem_toArray, List.getElem_cons_zero, List.getElem_cons_succ, List.setIfInBounds_toArray, List.set_cons_zero, List.set_cons_succ]
          refine wpAnyH_take (i := 17) (v := undef) rfl (by kernel_rfl) (by kernel_rfl) (by kernel_rfl) (fun _ _ _ h => h) (Or.inr ⟨by kernel_rfl, rfl⟩) hHeld ?_
          try simp only [Act.put, List.getElem_toArray, List.getElem_cons_zero, List.getElem_cons_succ, List.setIfInBounds_toArray, List.set_cons_zero, List.set_cons_succ]
          refine wpAnyH_take (i := 18) (v := undef) rfl (by kernel_rfl) (by kernel_rfl) (by kernel_rfl) (fun _ _ _ h => h) (Or.inr ⟨by kernel_rfl, rfl⟩) hHeld ?_
          try simp only [Act.put, List.getElem_toArray, List.getElem_cons_zero, List.getElem_cons_succ, List.setIfInBounds_toArray, List.set_cons_zero, List.set_cons_succ]
          refine wpAnyH_take (i := 19) (v := undef) rfl (by kernel_rfl) (by kernel_rfl) (by kernel_rfl) (fun _ _ _ h => h) (Or.inr ⟨by kernel_rfl, rfl⟩) hHeld ?_
          try simp only [Act.put, List.getElem_toArray, List.getElem_cons_zero, List.getElem_cons_succ, List.setIfInBounds_toArray, List.set_cons_zero, List.set_cons_succ]
          refine wpAnyH_take (i := 20) (v := ?_) rfl (by kernel_rfl) (by kernel_rfl) (by kernel_rfl) (fun _ _ _ h => h) (Or.inl ⟨by kernel_rfl, ?_⟩) hHeld ?_
          rotate_left
          · intro w hSw
            first | (go_simp; done) | (go_simp; with_reducible rfl)
          try simp only [Act.put, List.getElem_toArray, List.getElem_cons_zero, List.getElem_cons_succ, List.setIfInBounds_toArray, List.set_cons_zero, List.set_cons_succ]
          refine wpAnyH_take (i := 21) (v := ?_) rfl (by kernel_rfl) (by kernel_rfl) (by kernel_rfl) (fun _ _ _ h => h) (Or.inl ⟨by kernel_rfl, ?_⟩) hHeld ?_
          rotate_left
          · intro w hSw
            first | (go_simp; done) | (go_simp; with_reducible rfl)
          try simp only [Act.put, List.getElem_toArray, List.getElem_cons_zero, List.getElem_cons_succ, List.setIfInBounds_toArray, List.set_cons_zero, List.set_cons_succ]
          refine wpAnyH_done (by kernel_rfl) ?_ _
          refine NoPanic.normal ?_
          have H12 : Hid (Hp W w8 [encA e s', mdlA m L' false, mdlA fm [1, 7, 300] true, rencA f R', rmdlA x L' false, rmdlA fx [1, 7, 300] true]) := Lib.hid (H8.out.pk [0, 1, 1, 0, 0, 0])
          clear H8 H2
          go_wp2_with fail
          go_roundw
          case rel => exact ⟨k + 1, s', R', L', by omega, by go_num, RL2, RG2, hks2, GL2, LL2, H12⟩
          case measure => simp [intOf]; omega
    · have e : k = len0 := by omega
      subst e
      have H' : Hid (Hp W wr [encA e s, rencA f R]) := Lib.hid (H.out.pk [0, 2])
      have RDY := Lib.hid (RL.out.ready RG.out)
      have HE := Lib.hid RL.out.he0
      obtain ⟨bs, hbs⟩ : ∃ bs, strip R.D = bs := ⟨_, rfl⟩
      have RB := Lib.hid hbs
      have BR : Hid (bytesS s = bs) := Lib.hid (by rw [← hbs]; exact bytes_rel RL.out RG.out)
      have bl : bs.length ≤ s.k + 4 := by rw [← BR.out]; exact (bytes_byt RL.out RG.out).2
      have DIG := Lib.hid RG.out.dig
      have kK := RL.out.k
      have bD : R.D.length ≤ 900000000 := by have := RG.out.len; omega
      have KE : Hid (((s.k + 4 : Nat) : Int) = (R.K : Int) + 4) := Lib.hid (by omega)
      have bK : R.K ≤ 1300 := by omega
      have bl2 : (bs.length : Int) ≤ (R.K : Int) + 4 := by omega
      clear kK hbs H RL RG GL LL
      go_wp2_with fail
      refine (Bytes_h H'.out RDY.out (by omega)).mono ?_
      rintro e8 w8 ⟨v8, rfl, h8⟩
      rw [BR.out] at h8
      obtain ⟨A, c, rfl, _⟩ := h8.sl.form
      have H9 := Lib.hid h8
      clear h8 H'
      go_wp2_with fail
      refine wp_region_noPanic ?_
      refine wp_region_any (by kernel_rfl) ?_
      try (change wpAny _ _ _ _ _ _ _ (World.drew _))
      refine wpAny_of_held (S := fun w => Hp W w [slA 5 .u8 (.slice A bs.length c) bs, encA e s, rencA f R]) _ _ _ _ ?_
      have hHeld := H9.out.drew
      refine wpAnyH_take (i := 0) (v := ?_) rfl (by kernel_rfl) (by kernel_rfl) (by kernel_rfl) (fun _ _ _ h => h) (Or.inl ⟨by kernel_rfl, ?_⟩) hHeld ?_
      rotate_left
      · intro w hSw
        first | (go_simp; done) | (go_simp; with_reducible rfl)
      try simp only [Act.put, List.getElem_toArray, List.getElem_cons_zero, List.getElem_cons_succ, List.setIfInBounds_toArray, List.set_cons_zero, List.set_cons_succ]
      refine wpAnyH_take (i := 1) (v := ?_) rfl (by kernel_rfl) (by kernel_rfl) (by kernel_rfl) (fun _ _ _ h => h) (Or.inl ⟨by kernel_rfl, ?_⟩) hHeld ?_
      rotate_left
      · intro w hSw
        have cvA := Src.str (P := Try.prog) (w := w) (src := 35) (dst := 9) Try.underlying35 Try.underlying5 Try.underlying9 (Src.of_sl (Hp.sl (hSw)))
        first | (go_simp; done) | (go_simp; with_reducible rfl)
      try simp only [Act.put, List.getElem_toArray, List.getElem_cons_zero, List.getElem_cons_succ, List.setIfInBounds_toArray, List.set_cons_zero, List.set_cons_succ]
      refine wpAnyH_take (i := 2) (v := ?_) rfl (by kernel_rfl) (by kernel_rfl) (by kernel_rfl) (fun _ _ _ h => h) (Or.inl ⟨by kernel_rfl, ?_⟩) hHeld ?_
      rotate_left
      · intro w hSw
        first | (go_simp; done) | (go_simp; with_reducible rfl)
      try simp only [Act.put, List.getElem_toArray, List.getElem_cons_zero, List.getElem_cons_succ, List.setIfInBounds_toArray, List.set_cons_zero, List.set_cons_succ]
      refine wpAnyH_ready (rs := [3]) (by kernel_rfl) (by simp) ?_
      refine AllReadyH.cons rfl (fun K hK => ?_) AllReadyH.nil
      go_simp
      go_at_call 31
      refine (RBytes_h (Hp.up2 hHeld) DIG.out (by omega)).mono ?_
      rintro e9 w9 ⟨v9, rfl, h9⟩
      rw [RB.out] at h9
      have H9 : Hid (Hp W w9 [slA 5 .u8 v9 bs, slA 5 .u8 (.slice A bs.length c) bs, encA e s, rencA f R]) := Lib.hid (h9.pk [0, 1, 1, 0])
      clear h9
      go_simp
      refine hK.out _ _ (H9.out.drop) (fun hHeld => ?_)
      clear hK K
      try simp only [Act.put, List.getElem_toArray, List.getElem_cons_zero, List.getElem_cons_succ, List.setIfInBounds_toArray, List.set_cons_zero, List.set_cons_succ]
      refine wpAnyH_imp (S := fun w => Hp W w [slA 5 .u8 v9 bs, slA 5 .u8 (.slice A bs.length c) bs, encA e s, rencA f R]) (fun _ h => Hp.drop h) _ _ _ _ ?_
      have hHeld := H9.out
      refine wpAnyH_take (i := 4) (v := ?_) rfl (by kernel_rfl) (by kernel_rfl) (by kernel_rfl) (fun _ _ _ h => h) (Or.inl ⟨by kernel_rfl, ?_⟩) hHeld ?_
      rotate_left
      · intro w hSw
        have cvA := Src.str (P := Try.prog) (w := w) (src := 35) (dst := 9) Try.underlying35 Try.underlying5 Try.underlying9 (Src.of_sl (Hp.sl (hSw)))
        first | (go_simp; done) | (go_simp; with_reducible rfl)
      try simp only [Act.put, List.getElem_toArray, List.getElem_cons_zero, List.getElem_cons_succ, List.setIfInBounds_toArray, List.set_cons_zero, List.set_cons_succ]
      refine wpAnyH_take (i := 5) (v := ?_) rfl (by kernel_rfl) (by kernel_rfl) (by kernel_rfl) (fun _ _ _ h => h) (Or.inl ⟨by kernel_rfl, ?_⟩) hHeld ?_
      rotate_left
      · intro w hSw
        first | (go_simp; done) | (go_simp; with_reducible rfl)
      try simp only [Act.put, List.getElem_toArray, List.getElem_cons_zero, List.getElem_cons_succ, List.setIfInBounds_toArray, List.set_cons_zero, List.set_cons_succ]
      refine wpAnyH_take (i := 6) (v := ?_) rfl (by kernel_rfl) (by kernel_rfl) (by kernel_rfl) (fun _ _ _ h => h) (Or.inl ⟨by kernel_rfl, ?_⟩) hHeld ?_
      rotate_left
      · intro w hSw
        first | (go_simp; done) | (go_simp; with_reducible rfl)
      try simp only [Act.put, List.getElem_toArray, List.getElem_cons_zero, List.getElem_cons_succ, List.setIfInBounds_toArray, List.set_cons_zero, List.set_cons_succ]
      refine wpAnyH_take (i := 7) (v := ?_) rfl (by kernel_rfl) (by kernel_rfl) (by kernel_rfl) (fun _ _ _ h => h) (Or.inl ⟨by kernel_rfl, ?_⟩) hHeld ?_
      rotate_left
      · intro w hSw
        first | (go_simp; done) | (go_simp; with_reducible rfl)
      try simp only [Act.put, List.getElem_toArray, List.getElem_cons_zero, List.getElem_cons_succ, List.setIfInBounds_toArray, List.set_cons_zero, List.set_cons_succ]
      refine wpAnyH_take (i := 8) (v := ?_) rfl (by kernel_rfl) (by kernel_rfl) (by kernel_rfl) (fun _ _ _ h => h) (Or.inl ⟨by kernel_rfl, ?_⟩) hHeld ?_
      rotate_left
      · intro w hSw
        first | (go_simp; done) | (go_simp; with_reducible rfl)
      try simp only [Act.put, List.getElem_toArray, List.getElem_cons_zero, List.getElem_cons_succ, List.setIfInBounds_toArray, List.set_cons_zero, List.set_cons_succ]
      refine wpAnyH_take (i := 9) (v := ?_) rfl (by kernel_rfl) (by kernel_rfl) (by kernel_rfl) (fun _ _ _ h => h) (Or.inl ⟨by kernel_rfl, ?_⟩) hHeld ?_
      rotate_left
      · intro w hSw
        first | (go_simp; done) | (go_simp; with_reducible rfl)
      try simp only [Act.put, List.getElem_toArray, List.getElem_cons_zero, List.getElem_cons_succ, List.setIfInBounds_toArray, List.set_cons_zero, List.set_cons_succ]
      refine wpAnyH_ready (rs := [10]) (by kernel_rfl) (by simp) ?_
      refine AllReadyH.cons rfl (fun K hK => ?_) AllReadyH.nil
      go_simp
      go_at_call 20
      refine (Len_h (Hp.up2 hHeld) HE.out (by omega)).mono ?_
      rintro e8 w8 ⟨rfl, h8⟩
      rw [KE.out]
      have H8 : Hid (Hp W w8 [slA 5 .u8 v9 bs, slA 5 .u8 (.slice A bs.length c) bs, encA e s, rencA f R]) := Lib.hid (h8.pk [1, 1, 0, 0])
      clear h8
      go_simp
      refine hK.out _ _ (H8.out) (fun hHeld => ?_)
      clear hK K
      try simp only [Act.put, List.getElem_toArray, List.getElem_cons_zero, List.getElem_cons_succ, List.setIfInBounds_toArray, List.set_cons_zero, List.set_cons_succ]
      refine wpAnyH_take (i := 11) (v := ?_) rfl (by kernel_rfl) (by kernel_rfl) (by kernel_rfl) (fun _ _ _ h => h) (Or.inl ⟨by kernel_rfl, ?_⟩) hHeld ?_
      rotate_left
      · intro w hSw
        first | (go_simp; done) | (go_simp; with_reducible rfl)
      try simp only [Act.put, List.getElem_toArray, List.getElem_cons_zero, List.getElem_cons_succ, List.setIfInBounds_toArray, List.set_cons_zero, List.set_cons_succ]
      refine wpAnyH_take (i := 12) (v := ?_) rfl (by kernel_rfl) (by kernel_rfl) (by kernel_rfl) (fun _ _ _ h => h) (Or.inl ⟨by kernel_rfl, ?_⟩) hHeld ?_
      rotate_left
      · intro w hSw
        first | (go_simp; done) | (go_simp; with_reducible rfl)
      try simp only [Act.put, List.getElem_toArray, List.getElem_cons_zero, List.getElem_cons_succ, List.setIfInBounds_toArray, List.set_cons_zero, List.set_cons_succ]
      refine wpAnyH_take (i := 13) (v := ?_) rfl (by kernel_rfl) (by kernel_rfl) (by kernel_rfl) (fun _ _ _ h => h) (Or.inl ⟨by kernel_rfl, ?_⟩) hHeld ?_
      rotate_left
      · intro w hSw
        first | (go_simp; done) | (go_simp; with_reducible rfl)
      try simp only [Act.put, List.getElem_toArray, List.getElem_cons_zero, List.getElem_cons_succ, List.setIfInBounds_toArray, List.set_cons_zero, List.set_cons_succ]
      refine wpAnyH_take (i := 14) (v := ?_) rfl (by kernel_rfl) (by kernel_rfl) (by kernel_rfl) (fun _ _ _ h => h) (Or.inl ⟨by kernel_rfl, ?_⟩) hHeld ?_
      rotate_left
      · intro w hSw
        first | (go_simp; done) | (go_simp; with_reducible rfl)
      try simp only [Act.put, List.getElem_toArray, List.getElem_cons_zero, List.getElem_cons_succ, List.setIfInBounds_toArray, List.set_cons_zero, List.set_cons_succ]
      refine wpAnyH_take (i := 17) (v := ?_) rfl (by kernel_rfl) (by kernel_rfl) (by kernel_rfl) (fun _ _ _ h => h) (Or.inl ⟨by kernel_rfl, ?_⟩) hHeld ?_
      rotate_left
      · intro w hSw
        first | (go_simp; done) | (go_simp; with_reducible rfl)
      try simp only [Act.put, List.getElem_toArray, List.getElem_cons_zero, List.getElem_cons_succ, List.setIfInBounds_toArray, List.set_cons_zero, List.set_cons_succ]
      refine wpAnyH_take (i := 18) (v := ?_) rfl (by kernel_rfl) (by kernel_rfl) (by kernel_rfl) (fun _ _ _ h => h) (Or.inl ⟨by kernel_rfl, ?_⟩) hHeld ?_
      rotate_left
      · intro w hSw
        have cvA := Src.str (P := Try.prog) (w := w) (src := 35) (dst := 9) Try.underlying35 Try.underlying5 Try.underlying9 (Src.of_sl (Hp.sl (Hp.up1 hSw)))
        first | (go_simp; done) | (go_simp; with_reducible rfl)
      try simp only [Act.put, List.getElem_toArray, List.getElem_cons_zero, List.getElem_cons_succ, List.setIfInBounds_toArray, List.set_cons_zero, List.set_cons_succ]
      refine wpAnyH_ready (rs := [15]) (by kernel_rfl) (by simp) ?_
      refine AllReadyH.cons rfl (fun K hK => ?_) AllReadyH.nil
      go_simp
      go_at_call 21
      refine (Bytes_h (Hp.up2 hHeld) RDY.out (by omega)).mono ?_
      rintro e10 w10 ⟨v10, rfl, h10⟩
      rw [BR.out] at h10
      have H10 : Hid (Hp W w10 [slA 5 .u8 v10 bs, slA 5 .u8 v9 bs, slA 5 .u8 (.slice A bs.length c) bs, encA e s, rencA f R]) := Lib.hid (h10.pk [0, 1, 1, 0, 0])
      clear h10
      go_simp
      refine hK.out _ _ (H10.out.drop) (fun hHeld => ?_)
      clear hK K
      try simp only [Act.put, List.getElem_toArray, List.getElem_cons_zero, List.getElem_cons_succ, List.setIfInBounds_toArray, List.set_cons_zero, List.set_cons_succ]
      refine wpAnyH_imp (S := fun w => Hp W w [slA 5 .u8 v10 bs, slA 5 .u8 v9 bs, slA 5 .u8 (.slice A bs.length c) bs, encA e s, rencA f R]) (fun _ h => Hp.drop h) _ _ _ _ ?_
      have hHeld := H10.out
      refine wpAnyH_take (i := 16) (v := ?_) rfl (by kernel_rfl) (by kernel_rfl) (by kernel_rfl) (fun _ _ _ h => h) (Or.inl ⟨by kernel_rfl, ?_⟩) hHeld ?_
      rotate_left
      · intro w hSw
        have cvA := Src.str (P := Try.prog) (w := w) (src := 35) (dst := 9) Try.underlying35 Try.underlying5 Try.underlying9 (Src.of_sl (Hp.sl (hSw)))
        first | (go_simp; done) | (go_simp; with_reducible rfl)
      try simp only [Act.put, List.getElem_toArray, List.getElem_cons_zero, List.getElem_cons_succ, List.setIfInBounds_toArray, List.set_cons_zero, List.set_cons_succ]
      refine wpAnyH_take (i := 19) (v := ?_) rfl (by kernel_rfl) (by kernel_rfl) (by kernel_rfl) (fun _ _ _ h => h) (Or.inl ⟨by kernel_rfl, ?_⟩) hHeld ?_
      rotate_left
      · intro w hSw
        first | (go_simp; done) | (go_simp; with_reducible rfl)
      try simp only [Act.put, List.getElem_toArray, List.getElem_cons_zero, List.getElem_cons_succ, List.setIfInBounds_toArray, List.set_cons_zero, List.set_cons_succ]
      refine wpAnyH_take (i := 20) (v := ?_) rfl (by kernel_rfl) (by kernel_rfl) (by kernel_rfl) (fun _ _ _ h => h) (Or.inl ⟨by kernel_rfl, ?_⟩) hHeld ?_
      rotate_left
      · intro w hSw
        first | (go_simp; done) | (go_simp; with_reducible rfl)
      try simp only [Act.put, List.getElem_toArray, List.getElem_cons_zero, List.getElem_cons_succ, List.setIfInBounds_toArray, List.set_cons_zero, List.set_cons_succ]
      refine wpAnyH_take (i := 21) (v := ?_) rfl (by kernel_rfl) (by kernel_rfl) (by kernel_rfl) (fun _ _ _ h => h) (Or.inl ⟨by kernel_rfl, ?_⟩) hHeld ?_
      rotate_left
      · intro w hSw
        first | (go_simp; done) | (go_simp; with_reducible rfl)
      try simp only [Act.put, List.getElem_toArray, List.getElem_cons_zero, List.getElem_cons_succ, List.setIfInBounds_toArray, List.set_cons_zero, List.set_cons_succ]
      refine wpAnyH_done (by kernel_rfl) ?_ _
      refine NoPanic.normal ?_
      go_wp2_with fail
      go_ret
      exact ⟨rfl, H10.out.b⟩
end Go.Proofs.Ytlbjoflmfboeeaa.Enc

/-
  Words: arguments opened to their cells, structs in structs and slices of these. Plain theorems; no condition.
-/
set_option linter.unusedVariables false
namespace Go.Proofs.Ytlbjoflmfboeeaa.Op
open Go.ChangeShapes Go.WideShapes Go.Deep Go.RowKit

/-- The cells of a type that are no struct: how far behind, of which type. -/
def leafs (P : Program) : Nat → Nat → TypeId → List (Nat × TypeId)
  | 0, o, t => [(o, t)]
  | n + 1, o, t => match P.underlying t with
    | some (.struct fs) => fs.toList.flatMap fun f => leafs P n (o + f.offset) f.type
    | _ => [(o, t)]
/-- Each lies inside. -/
def leafsOk (P : Program) : Nat → TypeId → Bool
  | 0, t => P.cellsOf t == 1
  | n + 1, t => match P.underlying t with
    | some (.struct fs) => fs.toList.all fun f => decide (f.offset + P.cellsOf f.type ≤ P.cellsOf t) && leafsOk P n f.type
    | _ => P.cellsOf t == 1
section
variable {H : Type} {enc : TypeId × Value → H} {P : Program} {w : World} {base : Nat} {spare : Nat → Bool} {held : Bool}
theorem open_leafs : ∀ (n o fuel : Nat) (t : TypeId) (cs : List Value) (x : DataW H × List MemPlace), DataW.trod enc P w base spare held fuel t cs = some x → leafsOk P n t = true → cs.length = P.cellsOf t →
    ∀ p ∈ leafs P n o t, ∃ (i : Nat) (v : Value) (y : DataW H × List MemPlace) (m : Nat), p.1 = o + i ∧ i < P.cellsOf t ∧ cs[i]? = some v ∧ DataW.trod enc P w base spare held m p.2 [v] = some y
  | 0, o, fuel, t, cs, x, h, ok, hl, p, hp => by
    simp only [leafs, List.mem_singleton] at hp
    simp only [leafsOk, beq_iff_eq] at ok
    subst hp
    rw [ok] at hl
    match cs, hl with
    | [v], _ => exact ⟨0, v, x, fuel, rfl, by omega, rfl, h⟩
  | n + 1, o, fuel, t, cs, x, h, ok, hl, p, hp => by
    unfold leafs at hp
    unfold leafsOk at ok
    split at hp
    · rename_i fs hfs
      rw [hfs] at ok
      simp only at ok
      rw [List.mem_flatMap] at hp
      obtain ⟨f, hf, hp⟩ := hp
      have hok := List.all_eq_true.1 ok f hf
      simp only [Bool.and_eq_true, decide_eq_true_eq] at hok
      obtain ⟨ys, m, hm, hx, hc, hyl, hg⟩ := DataW.trod_struct hfs h
      obtain ⟨j, hj, hjf⟩ := List.getElem_of_mem hf
      have hfj : fs[j]? = some f := by
        rw [Array.getElem?_eq_some_iff]
        exact ⟨by simpa using hj, by simpa using hjf⟩
      have h1 := hg j f hfj
      have hjl : j < ys.length := by rw [hyl]; simpa using hj
      rw [List.getElem?_eq_getElem hjl] at h1
      obtain ⟨i, v, y, m', e1, e2, e3, e4⟩ := open_leafs n (o + f.offset) m f.type _ _ h1 hok.2 (by rw [List.length_take, List.length_drop, hl]; omega) p hp
      refine ⟨f.offset + i, v, y, m', by omega, by omega, ?_, e4⟩
      rw [List.getElem?_take, if_pos e2, List.getElem?_drop] at e3
      exact e3
    · rename_i hns
      simp only [List.mem_singleton] at hp
      subst hp
      have ok1 : P.cellsOf t = 1 := by
        split at ok
        · rename_i fs hfs
          exact absurd hfs (hns fs)
        · simpa using ok
      rw [ok1] at hl
      match cs, hl with
      | [v], _ => exact ⟨0, v, x, fuel, rfl, by omega, rfl, h⟩
/-- A slice of such. -/
theorem open_rows {t e : TypeId} {fuel : Nat} {cs : List Value} {x : DataW H × List MemPlace} {n C : Nat} (ht : P.underlying t = some (.slice e)) (ok : leafsOk P n e = true) (hC : P.cellsOf e = C) (h : DataW.trod enc P w base spare held fuel t cs = some x) :
    cs = [.slice none 0 0] ∨ ∃ (a : Addr) (len cap : Nat), cs = [.slice (some a) len cap] ∧ len ≤ cap ∧ cap ≤ maxLen ∧
      ∀ i, i < len → ∀ p ∈ leafs P n 0 e, ∃ (v : Value) (y : DataW H × List MemPlace) (m : Nat), w.cell? (a.add (i * C + p.1)) = some v ∧ DataW.trod enc P w base spare held m p.2 [v] = some y := by
  rcases open_slice ht h with ⟨h0, _⟩ | ⟨a, len, cap, m, k, D, Pl, rfl, hb, hl, hm, hmm, rfl, hx⟩
  · exact .inl h0
  · refine .inr ⟨a, len, cap, rfl, hl, hm, fun i hi p hp => ?_⟩
    have hlm : len ≤ m := by rw [hmm]; split <;> omega
    obtain ⟨cs', h1, h2⟩ := hx i (by omega)
    rw [hC] at h1
    obtain ⟨_, hlen, hcell⟩ := World.cells?_some h1
    obtain ⟨o, v, y, m', e1, e2, e3, e4⟩ := open_leafs n 0 k e cs' _ h2 ok (by rw [hlen, hC]) p hp
    rw [hC] at e2
    refine ⟨v, y, m', ?_, e4⟩
    rw [← add_add, show p.1 = o by omega, hcell o e2, e3]
theorem leaf_int {t : TypeId} {k : IntKind} {m : Nat} {v : Value} {y : DataW H × List MemPlace} (ht : P.underlying t = some (.int k)) (h : DataW.trod enc P w base spare held m t [v] = some y) : ∃ n, v = .int k n ∧ (Lit.int k n).wf = true := by
  obtain ⟨n, h1, _, h2⟩ := DataW.trod_int ht h
  simp only [List.cons.injEq, and_true] at h1
  exact ⟨n, h1, h2⟩
theorem leaf_bool {t : TypeId} {m : Nat} {v : Value} {y : DataW H × List MemPlace} (ht : P.underlying t = some .bool) (h : DataW.trod enc P w base spare held m t [v] = some y) : ∃ b, v = .bool b := by
  obtain ⟨n, h1, _⟩ := DataW.trod_bool ht h
  simp only [List.cons.injEq, and_true] at h1
  exact ⟨n, h1⟩
theorem leaf_string {t : TypeId} {m : Nat} {v : Value} {y : DataW H × List MemPlace} (ht : P.underlying t = some .string) (h : DataW.trod enc P w base spare held m t [v] = some y) : ∃ s : ByteArray, v = .string s ∧ s.size ≤ maxLen := by
  obtain ⟨n, h1, _, h2⟩ := DataW.trod_string ht h
  simp only [List.cons.injEq, and_true] at h1
  exact ⟨n, h1, h2⟩
/-- A row of things, one for each index. -/
theorem rows_list {α : Type} [Inhabited α] {n : Nat} {p : Nat → α → Prop} (h : ∀ i, i < n → ∃ x, p i x) : ∃ l : List α, l.length = n ∧ ∀ i (hi : i < l.length), p i l[i] := by
  obtain ⟨f, hf⟩ := choose_lt h
  refine ⟨(List.range n).map f, by simp, fun i hi => ?_⟩
  simp at hi
  simp [hf i hi]
end
end Go.Proofs.Ytlbjoflmfboeeaa.Op

/-
  Law 6: RangeencBytes, its argument opened; no condition.
-/
set_option linter.unusedVariables false
namespace Go.Proofs.Ytlbjoflmfboeeaa.Enc
open Go.RowKit Go.Proofs.Ytlbjoflmfboeeaa

instance : Inhabited Ac := ⟨⟨0, 0, 0, 0, 0, 0⟩⟩
theorem add_at (a : Addr) (i j : Nat) (h : j ≠ 0) : a.add (i + j) = ⟨(a.add i).block, (a.add i).off + j, none⟩ := by
  rw [← Go.Deep.add_add]
  generalize a.add i = b
  unfold Addr.add
  rw [if_neg h]
theorem wf_kind {k : IntKind} {n : Int} (h : (Lit.int k n).wf = true) : k.min ≤ n ∧ n ≤ k.max := by
  simp only [Lit.wf, Bool.and_eq_true, decide_eq_true_eq] at h
  exact h
theorem wf_b {n : Int} (h : (Lit.int .u8 n).wf = true) : 0 ≤ n ∧ n < 256 := by
  have := wf_kind h
  have e1 : IntKind.min .u8 = 0 := by decide
  have e2 : IntKind.max .u8 = 255 := by decide
  omega
theorem wf_w {n : Int} (h : (Lit.int .u32 n).wf = true) : 0 ≤ n ∧ n < 4294967296 := by
  have := wf_kind h
  have e1 : IntKind.min .u32 = 0 := by decide
  have e2 : IntKind.max .u32 = 4294967295 := by decide
  omega
theorem acts_open {H : Type} {enc : TypeId × Value → H} {W : World} {base fuel : Nat} {spare : Nat → Bool} {held : Bool} {A : Option Addr} {len cap : Nat} {x : DataW H × List MemPlace}
    (h : DataW.trod enc Try.prog W base spare held fuel 39 [.slice A len cap] = some x) : ∃ z, Acts W A len cap z := by
  rcases Op.open_rows (n := 3) (C := 6) (e := 49) (by kernel_rfl) (by kernel_rfl) (by kernel_rfl) h with h0 | ⟨a, l, c, e, h1, h2, hx⟩
  · simp only [List.cons.injEq, Value.slice.injEq, and_true] at h0
    obtain ⟨rfl, rfl, rfl⟩ := h0
    exact ⟨[], .inl ⟨rfl, rfl, rfl, rfl⟩⟩
  · simp only [List.cons.injEq, Value.slice.injEq, and_true] at e
    obtain ⟨rfl, rfl, rfl⟩ := e
    have el : Op.leafs Try.prog 3 0 49 = [(0, 5), (1, 22), (2, 22), (3, 22), (4, 22), (5, 22)] := by kernel_rfl
    have u8 : Try.prog.underlying 5 = some (.int .u8) := by kernel_rfl
    have u32 : Try.prog.underlying 22 = some (.int .u32) := by kernel_rfl
    obtain ⟨z, hz, hzz⟩ := Op.rows_list (p := fun i (q : Ac) => q.At W (a.add (i * 6)) ∧ q.Ok) (n := len) (fun i hi => by
      obtain ⟨v0, y0, m0, c0, t0⟩ := hx i hi (0, 5) (by rw [el]; simp)
      obtain ⟨v1, y1, m1, c1, t1⟩ := hx i hi (1, 22) (by rw [el]; simp)
      obtain ⟨v2, y2, m2, c2, t2⟩ := hx i hi (2, 22) (by rw [el]; simp)
      obtain ⟨v3, y3, m3, c3, t3⟩ := hx i hi (3, 22) (by rw [el]; simp)
      obtain ⟨v4, y4, m4, c4, t4⟩ := hx i hi (4, 22) (by rw [el]; simp)
      obtain ⟨v5, y5, m5, c5, t5⟩ := hx i hi (5, 22) (by rw [el]; simp)
      obtain ⟨n0, rfl, f0⟩ := Op.leaf_int u8 t0
      obtain ⟨n1, rfl, f1⟩ := Op.leaf_int u32 t1
      obtain ⟨n2, rfl, f2⟩ := Op.leaf_int u32 t2
      obtain ⟨n3, rfl, f3⟩ := Op.leaf_int u32 t3
      obtain ⟨n4, rfl, f4⟩ := Op.leaf_int u32 t4
      obtain ⟨n5, rfl, f5⟩ := Op.leaf_int u32 t5
      rw [add_at _ _ _ (by decide)] at c1 c2 c3 c4 c5
      exact ⟨⟨n0, n1, n2, n3, n4, n5⟩, ⟨c0, c1, c2, c3, c4, c5⟩, wf_b f0, wf_w f1, wf_w f2, wf_w f3, wf_w f4, wf_w f5⟩)
    exact ⟨z, .inr ⟨_, rfl, h1, h2, hz, hzz⟩⟩
end Go.Proofs.Ytlbjoflmfboeeaa.Enc
