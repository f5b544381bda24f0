/-
  Plain facts (no program in sight): the check sum as a function on numbers.
-/
import Derived.Handy
namespace Go.Proofs.Ytojmkbhihnnmaaa
open Go.RowKit

/-- one bit of the check sum -/
def stp (n : Nat) : Nat := if n % 2 = 1 then (n / 2) ^^^ 3988292384 else n / 2
def stpN : Nat → Nat → Nat
  | 0, n => n
  | k + 1, n => stp (stpN k n)
theorem stp_lt (n : Nat) (h : n < 4294967296) : stp n < 4294967296 := by
  unfold stp; split
  · exact Nat.xor_lt_two_pow (n := 32) (by omega) (by omega)
  · omega
theorem stpN_lt (k n : Nat) (h : n < 4294967296) : stpN k n < 4294967296 := by
  induction k with
  | zero => exact h
  | succ k ih => exact stp_lt _ ih
/-- one byte -/
def crcB (n : Nat) (b : UInt8) : Nat := stpN 8 (n ^^^ b.toNat)
/-- all bytes -/
def crcR (n : Nat) (l : List UInt8) : Nat := l.foldl crcB n
theorem xor_byte_lt (n : Nat) (b : UInt8) (h : n < 4294967296) : n ^^^ b.toNat < 4294967296 :=
  Nat.xor_lt_two_pow (n := 32) (by omega) (by have := b.toNat_lt; omega)
theorem crcB_lt (n : Nat) (b : UInt8) (h : n < 4294967296) : crcB n b < 4294967296 := stpN_lt _ _ (xor_byte_lt n b h)
theorem crcR_lt (l : List UInt8) : ∀ n, n < 4294967296 → crcR n l < 4294967296 := by
  induction l with
  | nil => intro n h; exact h
  | cons b l ih => intro n h; exact ih _ (crcB_lt n b h)
theorem crcR_append (n : Nat) (a b : List UInt8) : crcR n (a ++ b) = crcR (crcR n a) b := by simp [crcR]
theorem crcR_snoc (n : Nat) (a : List UInt8) (b : UInt8) : crcR n (a ++ [b]) = crcB (crcR n a) b := by simp [crcR]
/-- the sum of more bytes -/
def moreF (s : Nat) (l : List UInt8) : Nat := 4294967295 - crcR (4294967295 - s) l
theorem moreF_lt (s : Nat) (l : List UInt8) : moreF s l < 4294967296 := by unfold moreF; omega

/-! what the model's operations on u32 come to -/
theorem and_one (n : Nat) (h : n < 4294967296) : bits .and .u32 (n : Int) 1 = ((n % 2 : Nat) : Int) := by
  have := u32_and_nat n 1 h (by omega)
  rw [Nat.and_one_is_mod] at this; exact this
theorem xor_poly (n : Nat) (h : n < 4294967296) : bits .xor .u32 (n : Int) 3988292384 = ((n ^^^ 3988292384 : Nat) : Int) := u32_xor_nat n 3988292384 h (by omega)
theorem xor_any (n b : Nat) (h : n < 4294967296) (hb : b < 4294967296) : bits .xor .u32 (n : Int) (b : Int) = ((n ^^^ b : Nat) : Int) := u32_xor_nat n b h hb
theorem nat_xor_ones (s : Nat) (h : s < 4294967296) : 4294967295 ^^^ s = 4294967295 - s := by
  have e := BitVec.toNat_not (x := BitVec.ofNat 32 s)
  have e2 : (~~~ BitVec.ofNat 32 s) = (4294967295#32) ^^^ BitVec.ofNat 32 s := by
    rw [show (4294967295#32) = BitVec.allOnes 32 from rfl, BitVec.allOnes_xor]
  rw [e2, BitVec.toNat_xor, BitVec.toNat_ofNat, BitVec.toNat_ofNat, Nat.mod_eq_of_lt (by omega), Nat.mod_eq_of_lt (by omega)] at e
  simpa using e
theorem not_u32 (s : Nat) (h : s < 4294967296) : bits .xor .u32 IntKind.u32.max (s : Int) = ((4294967295 - s : Nat) : Int) := by
  have := u32_xor_nat 4294967295 s (by omega) h
  rw [nat_xor_ones s h] at this; exact this
theorem stp_odd (m : Nat) (hm : m < 4294967296) (h : (bits .and .u32 (m : Int) 1 == 1) = true) : bits .xor .u32 ((m : Int) / 2) 3988292384 = ((stp m : Nat) : Int) := by
  rw [and_one m hm] at h
  have h1 : m % 2 = 1 := by have := beq_iff_eq.1 h; omega
  have := xor_poly (m / 2) (by omega)
  rw [stp, if_pos h1, ← this]; rfl
theorem stp_even (m : Nat) (hm : m < 4294967296) (h : (bits .and .u32 (m : Int) 1 == 1) = false) : (m : Int) / 2 = ((stp m : Nat) : Int) := by
  rw [and_one m hm] at h
  have h1 : ¬ m % 2 = 1 := by have := beq_eq_false_iff_ne.1 h; omega
  rw [stp, if_neg h1]; rfl
theorem stp_odd' (m : Nat) (hm : m < 4294967296) (h : ((m : Int) % 2 == 1) = true) : bits .xor .u32 ((m : Int) / 2) 3988292384 = ((stp m : Nat) : Int) :=
  stp_odd m hm (by rw [and_one m hm]; exact h)
theorem stp_even' (m : Nat) (hm : m < 4294967296) (h : ((m : Int) % 2 == 1) = false) : (m : Int) / 2 = ((stp m : Nat) : Int) :=
  stp_even m hm (by rw [and_one m hm]; exact h)
theorem ret_int {k : IntKind} {a b : Int} (h : a = b) : Ending.returned (.int k a) = .returned (.int k b) := by rw [h]
theorem ret_bool {a b : Bool} (h : a = b) : Ending.returned (.bool a) = .returned (.bool b) := by rw [h]
theorem take_snoc {α : Type} (l : List α) (z : α) (k : Nat) (h : k < l.length) : l.take (k + 1) = l.take k ++ [l[k]?.getD z] := by
  rw [List.take_succ_eq_append_getElem h, List.getElem?_eq_getElem h]; rfl
theorem byte_eq {x y : UInt8} (h : x = y) : (((x.toNat : Nat) : Int) != ((y.toNat : Nat) : Int)) = false := by subst h; simp
theorem byte_ne {x y : UInt8} (h : ¬ x = y) : (((x.toNat : Nat) : Int) != ((y.toNat : Nat) : Int)) = true := by
  rw [bne_iff_ne]; intro e; exact h (UInt8.toNat_inj.1 (by omega))
theorem take_step {α : Type} (l r : List α) (z : α) (k : Nat) (h1 : k < l.length) (h2 : k < r.length) (h : l.take k = r.take k) (he : l[k]?.getD z = r[k]?.getD z) : l.take (k + 1) = r.take (k + 1) := by
  rw [take_snoc l z k h1, take_snoc r z k h2, h, he]
theorem take_all {α : Type} (l r : List α) (n : Nat) (h1 : l.length = n) (h2 : r.length = n) (h : l.take n = r.take n) : l = r := by
  rwa [List.take_of_length_le (by omega), List.take_of_length_le (by omega)] at h
/-- a number without its k lowest bytes -/
def sh8 (n k : Nat) : Nat := n / 256 ^ k
/-- the first k bytes of a number, the lowest first -/
def leS (k n : Nat) : List UInt8 := (List.range k).map fun i => UInt8.ofNat (sh8 n i)
theorem leS_snoc (k n : Nat) : leS (k + 1) n = leS k n ++ [UInt8.ofNat (sh8 n k)] := by simp [leS, List.range_succ]
theorem leS_len (k n : Nat) : (leS k n).length = k := by simp [leS]
theorem le_byte (s k : Nat) : ((sh8 s k : Nat) : Int) % 256 = ((UInt8.ofNat (sh8 s k)).toNat : Nat) := by simp
theorem sh8_next (s k : Nat) : ((sh8 s k : Nat) : Int) / 256 = ((sh8 s (k + 1) : Nat) : Int) := by
  unfold sh8; rw [Nat.pow_succ, ← Nat.div_div_eq_div_mul]; rfl
theorem sh8_lt (s k : Nat) (h : s < 4294967296) : sh8 s k < 4294967296 := Nat.lt_of_le_of_lt (Nat.div_le_self _ _) h
theorem sh8_0 (s : Nat) : sh8 s 0 = s := by simp [sh8]
/-- a number without its k lowest bits -/
def sh2 (n k : Nat) : Nat := n / 2 ^ k
theorem sh2_next (s k : Nat) : ((sh2 s k : Nat) : Int) / 2 = ((sh2 s (k + 1) : Nat) : Int) := by
  unfold sh2; rw [Nat.pow_succ, ← Nat.div_div_eq_div_mul]; rfl
theorem sh2_lt (s k : Nat) (h : s < 4294967296) : sh2 s k < 4294967296 := Nat.lt_of_le_of_lt (Nat.div_le_self _ _) h
theorem sh2_0 (s : Nat) : sh2 s 0 = s := by simp [sh2]
/-- what 'x ^ (1 << r)' comes to on a byte -/
theorem flip_byte (x : UInt8) (r : Nat) (hr : r < 8) : bits .xor .u8 (x.toNat : Nat) (2 ^ r % 256) = (((x ^^^ UInt8.ofNat (2 ^ r)).toNat : Nat) : Int) := by
  have hx := x.toNat_lt
  have hp : 2 ^ r < 256 := (show ∀ r, r < 8 → 2 ^ r < 256 by decide) r hr
  have e : ((2 : Int) ^ r % 256) = ((2 ^ r : Nat) : Int) := (show ∀ r, r < 8 → ((2 : Int) ^ r % 256) = ((2 ^ r : Nat) : Int) by decide) r hr
  rw [e, u8_xor_nat _ _ hx hp, UInt8.toNat_xor]
  congr 2
  exact (by simp; omega : 2 ^ r = (UInt8.ofNat (2 ^ r)).toNat)
theorem ofNat_toNat (n : Nat) : (UInt8.ofNat n).toNat = n % 256 := by simp
/-- the sum of two texts -/
theorem moreF_more (a b : List UInt8) : moreF (moreF 0 a) b = moreF 0 (a ++ b) := by
  unfold moreF
  have h := crcR_lt a (4294967295 - 0) (by omega)
  have e : 4294967295 - (4294967295 - crcR (4294967295 - 0) a) = crcR (4294967295 - 0) a := by omega
  rw [e, crcR_append]
end Go.Proofs.Ytojmkbhihnnmaaa
