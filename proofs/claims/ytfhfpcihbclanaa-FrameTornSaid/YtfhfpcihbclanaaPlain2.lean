/-
  Plain facts (no program in sight): the check sum is linear; bursts are told.
-/
import Derived.Test.YtfhfpcihbclanaaPlain
namespace Go.Proofs.Ytfhfpcihbclanaa

theorem xor_lc (a b c : Nat) : a ^^^ (b ^^^ c) = b ^^^ (a ^^^ c) := by rw [← Nat.xor_assoc, Nat.xor_comm a b, Nat.xor_assoc]
theorem xor_back (a b : Nat) : a ^^^ (a ^^^ b) = b := by rw [← Nat.xor_assoc, Nat.xor_self, Nat.zero_xor]
theorem xor_four (a b c d : Nat) : (a ^^^ b) ^^^ (c ^^^ d) = (a ^^^ c) ^^^ (b ^^^ d) := by
  rw [Nat.xor_assoc, xor_lc b c d, ← Nat.xor_assoc]
theorem xor_eq_zero {a b : Nat} (h : a ^^^ b = 0) : a = b := by
  have := xor_back a b
  rw [h, Nat.xor_zero] at this; exact this
theorem xor_cancel {a b c : Nat} (h : a ^^^ b = a ^^^ c) : b = c := by
  rw [← xor_back a b, h, xor_back]
theorem xor_lt {a b : Nat} (ha : a < 4294967296) (hb : b < 4294967296) : a ^^^ b < 4294967296 := Nat.xor_lt_two_pow (n := 32) ha hb

theorem xor_both (m x y : Nat) : (m ^^^ x) ^^^ (m ^^^ y) = x ^^^ y := by rw [xor_four, Nat.xor_self, Nat.zero_xor]
theorem stp_xor (a b : Nat) : stp (a ^^^ b) = stp a ^^^ stp b := by
  unfold stp
  have h := @Nat.xor_mod_two_eq_one a b
  by_cases ha : a % 2 = 1 <;> by_cases hb : b % 2 = 1
  · rw [if_neg (by rw [h]; simp [ha, hb]), if_pos ha, if_pos hb, Nat.xor_div_two, xor_four, Nat.xor_self, Nat.xor_zero]
  · rw [if_pos (by rw [h]; simp [ha, hb]), if_pos ha, if_neg hb, Nat.xor_div_two, Nat.xor_assoc, Nat.xor_comm (b / 2), ← Nat.xor_assoc]
  · rw [if_pos (by rw [h]; simp [ha, hb]), if_neg ha, if_pos hb, Nat.xor_div_two, Nat.xor_assoc]
  · rw [if_neg (by rw [h]; simp [ha, hb]), if_neg ha, if_neg hb, Nat.xor_div_two]
theorem stpN_xor (k a b : Nat) : stpN k (a ^^^ b) = stpN k a ^^^ stpN k b := by
  induction k with
  | zero => rfl
  | succ k ih => rw [stpN, stpN, stpN, ih, stp_xor]
theorem stp_zero : stp 0 = 0 := rfl
theorem stpN_zero (k : Nat) : stpN k 0 = 0 := by
  induction k with
  | zero => rfl
  | succ k ih => rw [stpN, ih]; rfl
theorem stpN_add (j k n : Nat) : stpN (j + k) n = stpN j (stpN k n) := by
  induction j with
  | zero => rw [Nat.zero_add]; rfl
  | succ j ih => rw [show j + 1 + k = (j + k) + 1 by omega, stpN, ih, stpN]
theorem stp_double (v : Nat) : stp (2 * v) = v := by unfold stp; rw [if_neg (by omega)]; omega
theorem stpN_shift (k v : Nat) : stpN k (2 ^ k * v) = v := by
  induction k generalizing v with
  | zero => simp [stpN]
  | succ k ih => rw [stpN, show 2 ^ (k + 1) * v = 2 ^ k * (2 * v) by rw [Nat.pow_succ]; rw [Nat.mul_assoc], ih, stp_double]
theorem stp_inj0 (n : Nat) (hn : n < 4294967296) (h : stp n = 0) : n = 0 := by
  unfold stp at h
  split at h
  · exfalso
    have := xor_eq_zero h
    omega
  · omega
theorem stpN_inj0 (k n : Nat) (hn : n < 4294967296) (h : stpN k n = 0) : n = 0 := by
  induction k with
  | zero => exact h
  | succ k ih => exact ih (stp_inj0 _ (stpN_lt k n hn) h)
theorem stpN_inj (k a b : Nat) (ha : a < 4294967296) (hb : b < 4294967296) (h : stpN k a = stpN k b) : a = b := by
  refine xor_eq_zero (stpN_inj0 k _ (xor_lt ha hb) ?_)
  rw [stpN_xor, h, Nat.xor_self]

theorem crcB_xor (n m : Nat) (b c : UInt8) : crcB (n ^^^ m) (b ^^^ c) = crcB n b ^^^ crcB m c := by
  unfold crcB
  rw [UInt8.toNat_xor, xor_four, stpN_xor]
theorem crcB_state (n m : Nat) (b : UInt8) : crcB (n ^^^ m) b = crcB n b ^^^ stpN 8 m := by
  unfold crcB
  rw [Nat.xor_assoc, Nat.xor_comm m, ← Nat.xor_assoc, stpN_xor]
theorem crcB_byte (n : Nat) (b e : UInt8) : crcB n (b ^^^ e) = crcB n b ^^^ stpN 8 e.toNat := by
  unfold crcB
  rw [UInt8.toNat_xor, ← Nat.xor_assoc, stpN_xor]
theorem crcR_state (l : List UInt8) : ∀ n m, crcR (n ^^^ m) l = crcR n l ^^^ stpN (8 * l.length) m := by
  induction l with
  | nil => intro n m; rfl
  | cons b l ih =>
    intro n m
    show crcR (crcB (n ^^^ m) b) l = crcR (crcB n b) l ^^^ stpN (8 * (l.length + 1)) m
    rw [crcB_state, ih, ← stpN_add]
    rfl
theorem crcR_xor (l : List UInt8) : ∀ (r : List UInt8) (n m : Nat), l.length = r.length → crcR (n ^^^ m) (List.zipWith (· ^^^ ·) l r) = crcR n l ^^^ crcR m r := by
  induction l with
  | nil => intro r n m h; cases r with | nil => rfl | cons _ _ => cases h
  | cons b l ih =>
    intro r n m h
    cases r with
    | nil => cases h
    | cons c r =>
      show crcR (crcB (n ^^^ m) (b ^^^ c)) (List.zipWith (· ^^^ ·) l r) = crcR (crcB n b) l ^^^ crcR (crcB m c) r
      rw [crcB_xor]
      exact ih r _ _ (by simpa using h)

theorem moreF_xor (l : List UInt8) : moreF 0 l = 4294967295 ^^^ crcR 4294967295 l := by
  unfold moreF
  exact (nat_xor_ones _ (crcR_lt l 4294967295 (by omega))).symm
/-- the sums of three texts of one length -/
theorem moreF_three (a b c : List UInt8) (h1 : a.length = b.length) (h2 : a.length = c.length) :
    moreF 0 a ^^^ moreF 0 b ^^^ moreF 0 c = moreF 0 (List.zipWith (· ^^^ ·) (List.zipWith (· ^^^ ·) a b) c) := by
  rw [moreF_xor, moreF_xor, moreF_xor, moreF_xor]
  have e1 := crcR_xor a b 4294967295 4294967295 h1
  have e2 := crcR_xor (List.zipWith (· ^^^ ·) a b) c (4294967295 ^^^ 4294967295) 4294967295 (by simp; omega)
  rw [show (4294967295 ^^^ 4294967295 : Nat) ^^^ 4294967295 = 4294967295 from rfl] at e2
  rw [e2, e1, xor_both, xor_lc]

/-! ### the register as a number: a text ends with its sum just if the register behind it is one number -/
def numX : List UInt8 → Nat
  | [] => 0
  | b :: l => b.toNat ^^^ 256 * numX l
theorem crcR_num (l : List UInt8) : ∀ s, crcR s l = stpN (8 * l.length) (s ^^^ numX l) := by
  induction l with
  | nil => intro s; simp [crcR, numX, stpN]
  | cons b l ih =>
    intro s
    show crcR (crcB s b) l = stpN (8 * (l.length + 1)) (s ^^^ (b.toNat ^^^ 256 * numX l))
    have e := stpN_xor 8 (s ^^^ b.toNat) (2 ^ 8 * numX l)
    rw [stpN_shift] at e
    rw [ih, crcB, Nat.mul_add, Nat.mul_one, stpN_add, ← Nat.xor_assoc, show (256 : Nat) = 2 ^ 8 from rfl, e]
theorem numX_mod (b : UInt8) (l : List UInt8) : numX (b :: l) % 256 = b.toNat ∧ numX (b :: l) / 256 = numX l := by
  have hb := b.toNat_lt
  have h1 : numX (b :: l) % 2 ^ 8 = b.toNat := by
    rw [numX, Nat.xor_mod_two_pow, show 256 * numX l % 2 ^ 8 = 0 by omega, Nat.xor_zero]
    omega
  have h2 : numX (b :: l) / 2 ^ 8 = numX l := by
    rw [numX, Nat.xor_div_two_pow, show b.toNat / 2 ^ 8 = 0 by omega, Nat.zero_xor]
    omega
  exact ⟨h1, h2⟩
theorem numX_inj (l : List UInt8) : ∀ r : List UInt8, l.length = r.length → numX l = numX r → l = r := by
  induction l with
  | nil => intro r h _; cases r with | nil => rfl | cons _ _ => cases h
  | cons b l ih =>
    intro r h e
    cases r with
    | nil => cases h
    | cons c r =>
      have h1 := numX_mod b l
      have h2 := numX_mod c r
      rw [e] at h1
      have e1 : b = c := UInt8.toNat_inj.1 (by omega)
      have e2 := ih r (by simpa using h) (by omega)
      rw [e1, e2]
theorem numX_lt (l : List UInt8) : numX l < 256 ^ l.length := by
  induction l with
  | nil => simp [numX]
  | cons b l ih =>
    have h := numX_mod b l
    have hb := b.toNat_lt
    rw [List.length_cons, Nat.pow_succ]
    omega
theorem numX_le (k : Nat) : ∀ n, numX ((List.range k).map fun i => UInt8.ofNat (n / 256 ^ i)) = n % 256 ^ k := by
  induction k with
  | zero => intro n; simp [numX, Nat.mod_one]
  | succ k ih =>
    intro n
    have e : (List.range (k + 1)).map (fun i => UInt8.ofNat (n / 256 ^ i)) = UInt8.ofNat n :: (List.range k).map (fun i => UInt8.ofNat (n / 256 / 256 ^ i)) := by
      rw [List.range_succ_eq_map, List.map_cons, List.map_map]
      congr 1
      · simp
      · apply List.map_congr_left
        intro i _
        simp only [Function.comp]
        rw [Nat.div_div_eq_div_mul, Nat.pow_succ, Nat.mul_comm]
    have h := numX_mod (UInt8.ofNat n) ((List.range k).map (fun i => UInt8.ofNat (n / 256 / 256 ^ i)))
    rw [← e, ih (n / 256)] at h
    have h3 : n % 256 ^ (k + 1) = n % 256 + 256 * (n / 256 % 256 ^ k) := by
      rw [Nat.pow_succ, Nat.mul_comm, Nat.mod_mul]
    rw [h3]
    have h4 : (UInt8.ofNat n).toNat = n % 256 := by simp
    omega
theorem numX_leS (n : Nat) (h : n < 4294967296) : numX (leS 4 n) = n := by
  have := numX_le 4 n
  rw [Nat.mod_eq_of_lt (by omega)] at this
  exact this

/-- do bytes end with their sum? -/
def wholeF (l : List UInt8) : Bool := decide (4 ≤ l.length ∧ l.drop (l.length - 4) = leS 4 (moreF 0 (l.take (l.length - 4))))

theorem whole_iff (l : List UInt8) (h : 4 ≤ l.length) : wholeF l = decide (crcR 4294967295 l = stpN 32 4294967295) := by
  have hl : l = l.take (l.length - 4) ++ l.drop (l.length - 4) := (List.take_append_drop _ _).symm
  have hd : (l.drop (l.length - 4)).length = 4 := by rw [List.length_drop]; omega
  unfold wholeF
  generalize l.take (l.length - 4) = y at *
  generalize l.drop (l.length - 4) = t at *
  have hs := crcR_lt y 4294967295 (by omega)
  have hn := numX_lt t
  rw [hd] at hn
  have e : crcR 4294967295 l = stpN 32 (crcR 4294967295 y ^^^ numX t) := by
    rw [hl, crcR_append, crcR_num t, hd]
  rw [e]
  have hm := moreF_lt 0 y
  have key : (t = leS 4 (moreF 0 y)) ↔ stpN 32 (crcR 4294967295 y ^^^ numX t) = stpN 32 4294967295 := by
    constructor
    · intro ht
      rw [ht, numX_leS _ hm, moreF_xor, Nat.xor_comm 4294967295, xor_back]
    · intro hst
      have h1 := stpN_inj 32 _ _ (xor_lt hs (by omega)) (by omega) hst
      refine numX_inj _ _ (by rw [hd, leS_len]) ?_
      have h2 := xor_back (crcR 4294967295 y) (numX t)
      rw [h1] at h2
      rw [numX_leS _ hm, moreF_xor, Nat.xor_comm]
      exact h2.symm
  by_cases hk : t = leS 4 (moreF 0 y)
  · rw [decide_eq_true ⟨h, hk⟩, decide_eq_true (key.1 hk)]
  · rw [decide_eq_false (fun x => hk x.2), decide_eq_false (fun x => hk (key.2 x))]

/-- a text with its sum behind it -/
theorem whole_with (l : List UInt8) : wholeF (l ++ leS 4 (moreF 0 l)) = true := by
  unfold wholeF
  have h4 := leS_len 4 (moreF 0 l)
  have e : (l ++ leS 4 (moreF 0 l)).length - 4 = l.length := by simp [h4]
  rw [e]
  simp [h4]
theorem whole_split (l : List UInt8) (h : 4 ≤ l.length) : wholeF l = decide (l = l.take (l.length - 4) ++ leS 4 (moreF 0 (l.take (l.length - 4)))) := by
  have hl : l = l.take (l.length - 4) ++ l.drop (l.length - 4) := (List.take_append_drop _ _).symm
  unfold wholeF
  by_cases hk : l.drop (l.length - 4) = leS 4 (moreF 0 (l.take (l.length - 4)))
  · rw [decide_eq_true ⟨h, hk⟩, decide_eq_true (by rw [← hk]; exact hl)]
  · rw [decide_eq_false (fun x => hk x.2), decide_eq_false (fun x => hk ?_)]
    have := hl.symm.trans x
    exact List.append_cancel_left this

/-! ### bursts -/
/-- a bit turned -/
def flipB (l : List UInt8) (p : Nat) : List UInt8 := l.set (p / 8) ((l[p / 8]?.getD 0) ^^^ UInt8.ofNat (2 ^ (p % 8)))
def turnW (l : List UInt8) (f b k : Nat) : Bool := decide (sh2 b k % 2 = 1 ∧ (f + k) / 8 < l.length)
def turnL (l : List UInt8) (f b : Nat) : Nat → List UInt8
  | 0 => l
  | k + 1 => if turnW l f b k then flipB (turnL l f b k) (f + k) else turnL l f b k
def turnS (l : List UInt8) (f b : Nat) : Nat → Bool
  | 0 => false
  | k + 1 => turnW l f b k || turnS l f b k
theorem turnL_len (l : List UInt8) (f b k : Nat) : (turnL l f b k).length = l.length := by
  induction k with
  | zero => rfl
  | succ k ih => unfold turnL; split <;> simp [flipB, ih]

theorem crcR_set (l : List UInt8) : ∀ (s i : Nat) (e : UInt8), i < l.length → crcR s (l.set i ((l[i]?.getD 0) ^^^ e)) = crcR s l ^^^ stpN (8 * (l.length - i)) e.toNat := by
  induction l with
  | nil => intro s i e h; simp at h
  | cons b l ih =>
    intro s i e h
    cases i with
    | zero =>
      show crcR (crcB s (b ^^^ e)) l = crcR (crcB s b) l ^^^ stpN (8 * (l.length + 1 - 0)) e.toNat
      rw [crcB_byte, crcR_state, ← stpN_add]
      rfl
    | succ i =>
      show crcR (crcB s b) (l.set i ((l[i]?.getD 0) ^^^ e)) = crcR (crcB s b) l ^^^ stpN (8 * (l.length + 1 - (i + 1))) e.toNat
      rw [ih _ i e (by simpa using h), show l.length + 1 - (i + 1) = l.length - i by omega]
theorem stpN_pow (k : Nat) : stpN k (2 ^ k) = 1 := by have := stpN_shift k 1; rwa [Nat.mul_one] at this
theorem crcR_flip (l : List UInt8) (s f k : Nat) (h : (f + k) / 8 < l.length) : crcR s (flipB l (f + k)) = crcR s l ^^^ stpN (8 * l.length - f) (2 ^ k) := by
  have hr : 2 ^ ((f + k) % 8) < 256 := (show ∀ r, r < 8 → 2 ^ r < 256 by decide) _ (by omega)
  have e : (UInt8.ofNat (2 ^ ((f + k) % 8))).toNat = 2 ^ ((f + k) % 8) := by simp; omega
  rw [flipB, crcR_set l s _ _ h, e]
  congr 1
  rw [show 8 * (l.length - (f + k) / 8) = (8 * l.length - (f + k)) + (f + k) % 8 by omega, stpN_add, stpN_pow,
    show 8 * l.length - f = (8 * l.length - (f + k)) + k by omega, stpN_add, stpN_pow]

/-- the bits that are turned, as one number -/
def accB (l : List UInt8) (f b : Nat) : Nat → Nat
  | 0 => 0
  | k + 1 => if turnW l f b k then accB l f b k ^^^ 2 ^ k else accB l f b k
theorem accB_lt (l : List UInt8) (f b k : Nat) : accB l f b k < 2 ^ k := by
  induction k with
  | zero => simp [accB]
  | succ k ih =>
    have h2 : 2 ^ k < 2 ^ (k + 1) := Nat.pow_lt_pow_right (by omega) (by omega)
    unfold accB
    split
    · exact Nat.xor_lt_two_pow (by omega) h2
    · omega
theorem accB_some (l : List UInt8) (f b k : Nat) : turnS l f b k = decide (accB l f b k ≠ 0) := by
  induction k with
  | zero => rfl
  | succ k ih =>
    have hlt := accB_lt l f b k
    unfold turnS accB
    by_cases h : turnW l f b k = true
    · rw [h]
      simp only [Bool.true_or, if_true]
      refine (decide_eq_true ?_).symm
      intro h0
      have := xor_eq_zero h0
      omega
    · have h' : turnW l f b k = false := by simpa using h
      rw [h', ih]
      rfl
theorem crcR_turn (l : List UInt8) (s f b k : Nat) : crcR s (turnL l f b k) = crcR s l ^^^ stpN (8 * l.length - f) (accB l f b k) := by
  induction k with
  | zero => rw [turnL, accB, stpN_zero, Nat.xor_zero]
  | succ k ih =>
    unfold turnL accB
    by_cases h : turnW l f b k = true
    · rw [h]
      simp only [if_true]
      have hw := of_decide_eq_true h
      rw [crcR_flip _ s f k (by rw [turnL_len]; exact hw.2), turnL_len, ih, stpN_xor, Nat.xor_assoc]
    · have h' : turnW l f b k = false := by simpa using h
      rw [h']
      exact ih
/-- bytes that are whole, some of 32 bits turned: told -/
theorem burst (l : List UInt8) (f b : Nat) (h4 : 4 ≤ l.length) (hw : wholeF l = true) : wholeF (turnL l f b 32) = !turnS l f b 32 := by
  rw [whole_iff l h4] at hw
  have hw' := of_decide_eq_true hw
  rw [whole_iff _ (by rw [turnL_len]; exact h4), crcR_turn, hw', accB_some]
  have hlt := accB_lt l f b 32
  by_cases h0 : accB l f b 32 = 0
  · rw [h0, stpN_zero, Nat.xor_zero]; simp
  · have : ¬ (stpN 32 4294967295 ^^^ stpN (8 * l.length - f) (accB l f b 32) = stpN 32 4294967295) := by
      intro h
      have h1 : stpN (8 * l.length - f) (accB l f b 32) = 0 := xor_cancel (a := stpN 32 4294967295) (by rw [h, Nat.xor_zero])
      exact h0 (stpN_inj0 _ _ (by omega) h1)
    rw [decide_eq_false this, decide_eq_true h0]
    rfl
end Go.Proofs.Ytfhfpcihbclanaa
