/-
  Packets as bytes; plain. No program in sight; no condition but those told.
-/
import Derived.Test.YtdekdcleeignoaaChk
set_option linter.unusedVariables false
namespace Go.Proofs.Ytdekdcleeignoaa.Pk

/-- Bytes of a number, the lowest first. -/
def leN : Int → Nat → List Int
  | _, 0 => []
  | n, k + 1 => n % 256 :: leN (n / 256) k
/-- The number of bytes. -/
def val : List Int → Int
  | [] => 0
  | c :: l => c + 256 * val l
/-- Are these bytes? -/
def Bytes (l : List Int) : Prop := ∀ x ∈ l, 0 ≤ x ∧ x < 256
theorem leN_len (n : Int) (k : Nat) : (leN n k).length = k := by
  induction k generalizing n with
  | zero => rfl
  | succ k ih => simp [leN, ih]
theorem leN_bytes (n : Int) (k : Nat) : Bytes (leN n k) := by
  induction k generalizing n with
  | zero => intro x hx; cases hx
  | succ k ih =>
    intro x hx
    rcases List.mem_cons.1 hx with rfl | hx
    · omega
    · exact ih _ x hx
theorem val_leN (n : Int) (k : Nat) : val (leN n k) = n % 256 ^ k := by
  induction k generalizing n with
  | zero => show (0 : Int) = n % 1; omega
  | succ k ih =>
    show n % 256 + 256 * val (leN (n / 256) k) = n % 256 ^ (k + 1)
    rw [ih, Int.pow_succ]
    have hP : (0 : Int) < 256 ^ k := Int.pow_pos (by decide)
    generalize (256 : Int) ^ k = P at hP ⊢
    have h1 := Int.emod_add_mul_ediv (n / 256) P
    have h2 := Int.emod_nonneg (n / 256) (Int.ne_of_gt hP)
    have h3 := Int.emod_lt_of_pos (n / 256) hP
    have e : n = (n % 256 + 256 * ((n / 256) % P)) + (P * 256) * ((n / 256) / P) := by
      have h4 : (P * 256) * ((n / 256) / P) = 256 * (P * ((n / 256) / P)) := by rw [Int.mul_comm P 256, Int.mul_assoc]
      rw [h4]
      omega
    have e2 : n % (P * 256) = (n % 256 + 256 * ((n / 256) % P)) % (P * 256) := by
      conv => lhs; rw [e]
      rw [Int.add_mul_emod_self_left]
    rw [e2]
    exact (Int.emod_eq_of_lt (by omega) (by omega)).symm
theorem val_bd {l : List Int} (h : Bytes l) : 0 ≤ val l ∧ val l < 256 ^ l.length := by
  induction l with
  | nil => exact ⟨Int.le_refl _, by decide⟩
  | cons c l ih =>
    have h1 := h c (by simp)
    have h2 := ih (fun x hx => h x (by simp [hx]))
    show 0 ≤ c + 256 * val l ∧ c + 256 * val l < 256 ^ (l.length + 1)
    rw [Int.pow_succ]
    generalize (256 : Int) ^ l.length = P at *
    omega
theorem leN_val {l : List Int} (h : Bytes l) : leN (val l) l.length = l := by
  induction l with
  | nil => rfl
  | cons c l ih =>
    have h1 := h c (by simp)
    have h2 := ih (fun x hx => h x (by simp [hx]))
    show (c + 256 * val l) % 256 :: leN ((c + 256 * val l) / 256) l.length = c :: l
    rw [show (c + 256 * val l) % 256 = c by omega, show (c + 256 * val l) / 256 = val l by omega, h2]
theorem val_inj {l m : List Int} (h : Bytes l) (g : Bytes m) (hl : l.length = m.length) (e : val l = val m) : l = m := by
  rw [← leN_val h, ← leN_val g, hl, e]
/-- The check sum of bytes, as a whole number. -/
def crcI (l : List Int) : Int := ((Chk.crc (l.map Int.toNat)).toNat : Int)
theorem crc_bd (l : List Int) : 0 ≤ crcI l ∧ crcI l < 4294967296 := by
  unfold crcI
  have := (Chk.crc (l.map Int.toNat)).isLt
  omega
/-- A packet. -/
structure P where
  (ep nu : Int) (wh : Bool) (pay : List Int)
def P.Ok (p : P) : Prop := (0 ≤ p.ep ∧ p.ep < 4294967296) ∧ (0 ≤ p.nu ∧ p.nu < 4294967296) ∧ Bytes p.pay
/-- What stands ahead of the sum. -/
def pre (p : P) : List Int := [83, 66, if p.wh then 1 else 0] ++ leN p.ep 4 ++ leN p.nu 4 ++ leN p.pay.length 2 ++ p.pay
def bts (p : P) : List Int := pre p ++ leN (crcI (pre p)) 4
theorem pre_len (p : P) : (pre p).length = 13 + p.pay.length := by simp [pre, leN_len]; omega
theorem bts_len (p : P) : (bts p).length = 17 + p.pay.length := by unfold bts; rw [List.length_append, pre_len, leN_len]; omega
theorem bytes_app {l m : List Int} (h : Bytes l) (g : Bytes m) : Bytes (l ++ m) := fun x hx => (List.mem_append.1 hx).elim (h x) (g x)
theorem pre_bytes {p : P} (h : Bytes p.pay) : Bytes (pre p) := by
  unfold pre
  refine bytes_app (bytes_app (bytes_app (bytes_app ?_ (leN_bytes _ _)) (leN_bytes _ _)) (leN_bytes _ _)) h
  intro x hx
  simp only [List.mem_cons, List.not_mem_nil, or_false] at hx
  rcases hx with rfl | rfl | rfl
  · decide
  · decide
  · split <;> decide
theorem bts_bytes {p : P} (h : Bytes p.pay) : Bytes (bts p) := bytes_app (pre_bytes h) (leN_bytes _ _)
/-- Some bytes of a row. -/
def cut (b : List Int) (i j : Nat) : List Int := (b.take j).drop i
theorem cut_len {b : List Int} {i j : Nat} (h : j ≤ b.length) : (cut b i j).length = j - i := by simp [cut]; omega
theorem cut_bytes {b : List Int} (h : Bytes b) (i j : Nat) : Bytes (cut b i j) := fun x hx => h x (List.mem_of_mem_take (List.mem_of_mem_drop hx))
/-- Does a row begin as no packet does? -/
def odd (b : List Int) : Bool := (decide (0 < b.length) && b.getD 0 0 != 83) || (decide (1 < b.length) && b.getD 1 0 != 66) || (decide (2 < b.length) && decide (1 < b.getD 2 0))
/-- How many bytes the payload is told to have. -/
def told (b : List Int) : Nat := (val (cut b 11 13)).toNat
/-- The packet of bytes that are one. -/
def pkt (b : List Int) : P := ⟨val (cut b 3 7), val (cut b 7 11), b.getD 2 0 == 1, cut b 13 (13 + told b)⟩
/-- What bytes begin with: a packet, how many bytes it has; the error. -/
def parse (b : List Int) : Option P × Nat × Int :=
  if odd b then (none, 0, 3)
  else if b.length < 13 then (none, 0, 2)
  else if 600 < told b then (none, 0, 5)
  else if b.length < 17 + told b then (none, 0, 2)
  else if crcI (cut b 0 (13 + told b)) ≠ val (cut b (13 + told b) (17 + told b)) then (none, 0, 4)
  else (some (pkt b), 17 + told b, 0)
theorem cut_app (b : List Int) {i j k : Nat} (h1 : i ≤ j) (h2 : j ≤ k) : cut b i j ++ cut b j k = cut b i k := by
  unfold cut
  have e : b.take j = (b.take k).take j := by rw [List.take_take, Nat.min_eq_left h2]
  rw [e]
  generalize b.take k = c
  have e2 : c.drop j = (c.drop i).drop (j - i) := by rw [List.drop_drop]; congr 1; omega
  rw [List.drop_take, e2]
  exact List.take_append_drop _ _
theorem cut_zero (b : List Int) (j : Nat) : cut b 0 j = b.take j := rfl
theorem three {b : List Int} (h : 3 ≤ b.length) : cut b 0 3 = [b.getD 0 0, b.getD 1 0, b.getD 2 0] := by
  match b, h with
  | x :: y :: z :: l, _ => rfl
/-- What stands ahead of the sum, of bytes that tell a payload that is there. -/
theorem pre_pkt {b : List Int} (hb : Bytes b) (ho : odd b = false) (h13 : 13 ≤ b.length) (hl : 17 + told b ≤ b.length) : pre (pkt b) = cut b 0 (13 + told b) := by
  have e0 : b.getD 0 0 = 83 ∧ b.getD 1 0 = 66 ∧ (b.getD 2 0 = 0 ∨ b.getD 2 0 = 1) := by
    unfold odd at ho
    simp only [Bool.or_eq_false_iff, Bool.and_eq_false_iff, decide_eq_false_iff_not, bne_eq_false_iff_eq] at ho
    obtain ⟨⟨h1, h2⟩, h3⟩ := ho
    have b2 : 0 ≤ b.getD 2 0 := by
      rw [List.getD_eq_getElem?_getD, List.getElem?_eq_getElem (by omega)]
      exact (hb _ (List.getElem_mem _)).1
    omega
  obtain ⟨e1, e2, e3⟩ := e0
  have l1 : (cut b 13 (13 + told b)).length = told b := by rw [cut_len (by omega)]; omega
  have t0 : ((told b : Nat) : Int) = val (cut b 11 13) := by
    unfold told
    have := (val_bd (cut_bytes hb 11 13)).1
    omega
  unfold pre pkt
  rw [l1, t0]
  have f1 := leN_val (cut_bytes hb 3 7)
  have f2 := leN_val (cut_bytes hb 7 11)
  have f3 := leN_val (cut_bytes hb 11 13)
  rw [cut_len (by omega)] at f1 f2 f3
  rw [show 7 - 3 = 4 from rfl] at f1
  rw [show 11 - 7 = 4 from rfl] at f2
  rw [show 13 - 11 = 2 from rfl] at f3
  show [83, 66, if (b.getD 2 0 == 1) = true then 1 else 0] ++ leN (val (cut b 3 7)) 4 ++ leN (val (cut b 7 11)) 4 ++ leN (val (cut b 11 13)) 2 ++ cut b 13 (13 + told b) = _
  rw [f1, f2, f3]
  have f0 : [83, 66, if (b.getD 2 0 == 1) = true then 1 else 0] = cut b 0 3 := by
    rw [three (by omega), e1, e2]
    rcases e3 with e3 | e3 <;> rw [e3] <;> rfl
  rw [f0, cut_app b (by omega) (by omega), cut_app b (by omega) (by omega), cut_app b (by omega) (by omega), cut_app b (by omega) (by omega)]
/-- The document's test: every byte is as in the packet's bytes. -/
theorem all_same {b : List Int} (hb : Bytes b) (ho : odd b = false) (h13 : 13 ≤ b.length) (hl : 17 + told b ≤ b.length) : (∀ i, i < 17 + told b → (bts (pkt b)).getD i 0 = b.getD i 0) ↔ crcI (cut b 0 (13 + told b)) = val (cut b (13 + told b) (17 + told b)) := by
  have hp := pre_pkt hb ho h13 hl
  have lp : (pre (pkt b)).length = 13 + told b := by rw [hp, cut_len (by omega)]; omega
  have lc : (cut b (13 + told b) (17 + told b)).length = 4 := by rw [cut_len hl]; omega
  have ll : (bts (pkt b)).length = 17 + told b := by unfold bts; rw [List.length_append, lp, leN_len]; omega
  have ea : cut b 0 (13 + told b) ++ cut b (13 + told b) (17 + told b) = b.take (17 + told b) := cut_app b (by omega) (by omega)
  constructor
  · intro h
    have e : bts (pkt b) = b.take (17 + told b) := by
      apply List.ext_getElem
      · rw [ll, List.length_take]; omega
      · intro i h1 h2
        have := h i (by omega)
        rw [List.getD_eq_getElem?_getD, List.getElem?_eq_getElem h1, List.getD_eq_getElem?_getD, List.getElem?_eq_getElem (by rw [List.length_take] at h2; omega)] at this
        rw [List.getElem_take]
        exact this
    unfold bts at e
    rw [hp, ← ea] at e
    have e2 := List.append_cancel_left e
    have := val_leN (crcI (cut b 0 (13 + told b))) 4
    rw [e2] at this
    rw [this]
    have := crc_bd (cut b 0 (13 + told b))
    omega
  · intro h i hi
    have e2 : leN (crcI (cut b 0 (13 + told b))) 4 = cut b (13 + told b) (17 + told b) := by
      rw [h]
      have := leN_val (cut_bytes hb (13 + told b) (17 + told b))
      rw [lc] at this
      exact this
    have e : bts (pkt b) = b.take (17 + told b) := by unfold bts; rw [hp, e2, ea]
    rw [e, List.getD_eq_getElem?_getD, List.getElem?_take, if_pos hi, ← List.getD_eq_getElem?_getD]
/-- A packet's bytes are parsed to it, whatever stands behind them. -/
theorem parse_bts {p : P} (h : p.Ok) (hn : p.pay.length ≤ 600) (more : List Int) (hm : Bytes more) : parse (bts p ++ more) = (some p, 17 + p.pay.length, 0) := by
  obtain ⟨he, hu, hy⟩ := h
  have lb := bts_len p
  have cutb : ∀ i j, j ≤ 17 + p.pay.length → cut (bts p ++ more) i j = cut (bts p) i j := fun i j hj => by
    unfold cut
    rw [List.take_append_of_le_length (by omega)]
  have parts : ∀ (x y z : List Int) (i j : Nat), x.length = i → y.length = j - i → i ≤ j → cut (x ++ y ++ z) i j = y := fun x y z i j h1 h2 h3 => by
    unfold cut
    rw [List.take_append_of_le_length (by simp; omega), List.take_of_length_le (by simp; omega), List.drop_append_of_le_length (by omega), List.drop_eq_nil_of_le (by omega)]
    rfl
  have c1 : cut (bts p) 3 7 = leN p.ep 4 := by
    have := parts [83, 66, if p.wh then 1 else 0] (leN p.ep 4) (leN p.nu 4 ++ leN p.pay.length 2 ++ p.pay ++ leN (crcI (pre p)) 4) 3 7 rfl (by rw [leN_len]) (by omega)
    refine Eq.trans ?_ this
    unfold bts pre
    simp only [List.append_assoc]
  have c2 : cut (bts p) 7 11 = leN p.nu 4 := by
    have := parts ([83, 66, if p.wh then 1 else 0] ++ leN p.ep 4) (leN p.nu 4) (leN p.pay.length 2 ++ p.pay ++ leN (crcI (pre p)) 4) 7 11 (by simp [leN_len]) (by rw [leN_len]) (by omega)
    refine Eq.trans ?_ this
    unfold bts pre
    simp only [List.append_assoc]
  have c3 : cut (bts p) 11 13 = leN p.pay.length 2 := by
    have := parts ([83, 66, if p.wh then 1 else 0] ++ leN p.ep 4 ++ leN p.nu 4) (leN p.pay.length 2) (p.pay ++ leN (crcI (pre p)) 4) 11 13 (by simp [leN_len]) (by rw [leN_len]) (by omega)
    refine Eq.trans ?_ this
    unfold bts pre
    simp only [List.append_assoc]
  have c4 : cut (bts p) 13 (13 + p.pay.length) = p.pay := by
    have := parts ([83, 66, if p.wh then 1 else 0] ++ leN p.ep 4 ++ leN p.nu 4 ++ leN p.pay.length 2) p.pay (leN (crcI (pre p)) 4) 13 (13 + p.pay.length) (by simp [leN_len]) (by omega) (by omega)
    refine Eq.trans ?_ this
    unfold bts pre
    simp only [List.append_assoc]
  have c5 : cut (bts p) 0 (13 + p.pay.length) = pre p := by
    unfold cut bts
    rw [List.take_append_of_le_length (by rw [pre_len]; omega), List.take_of_length_le (by rw [pre_len]; omega)]
    rfl
  have c6 : cut (bts p) (13 + p.pay.length) (17 + p.pay.length) = leN (crcI (pre p)) 4 := by
    have := parts (pre p) (leN (crcI (pre p)) 4) [] (13 + p.pay.length) (17 + p.pay.length) (pre_len p) (by rw [leN_len]; omega) (by omega)
    refine Eq.trans ?_ this
    unfold bts
    simp only [List.append_nil]
  have tl : told (bts p ++ more) = p.pay.length := by
    unfold told
    rw [cutb _ _ (by omega), c3, val_leN]
    omega
  have g3 : (bts p ++ more).getD 0 0 = 83 ∧ (bts p ++ more).getD 1 0 = 66 ∧ (bts p ++ more).getD 2 0 = if p.wh then 1 else 0 := ⟨rfl, rfl, rfl⟩
  have ho : odd (bts p ++ more) = false := by
    unfold odd
    rw [g3.1, g3.2.1, g3.2.2]
    cases p.wh <;> simp
  have lt : (bts p ++ more).length = 17 + p.pay.length + more.length := by rw [List.length_append, lb]
  unfold parse
  rw [ho, if_neg (by decide), if_neg (by omega), tl, if_neg (by omega), if_neg (by omega), cutb _ _ (by omega), cutb _ _ (by omega), c5, c6, val_leN]
  have cb := crc_bd (pre p)
  rw [if_neg (by omega)]
  congr 2
  unfold pkt
  rw [g3.2.2, tl, cutb _ _ (by omega), cutb _ _ (by omega), cutb _ _ (by omega), c1, c2, c4, val_leN, val_leN]
  obtain ⟨ep, nu, wh, pay⟩ := p
  simp only at *
  congr 1
  · omega
  · omega
  · cases wh <;> rfl
end Go.Proofs.Ytdekdcleeignoaa.Pk
