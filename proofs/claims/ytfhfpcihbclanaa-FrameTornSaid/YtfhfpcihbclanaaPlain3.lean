/-
  Plain facts (no program in sight): frames.
-/
import Derived.Test.YtfhfpcihbclanaaPlain2
namespace Go.Proofs.Ytfhfpcihbclanaa

/-- what stands ahead of a frame's body, and the body -/
def frameH (k : Nat) (body : List UInt8) : List UInt8 := leS 4 body.length ++ [UInt8.ofNat k] ++ body
/-- a frame -/
def frameB (k : Nat) (body : List UInt8) : List UInt8 := frameH k body ++ leS 4 (moreF 0 (frameH k body))
theorem frameH_len (k : Nat) (body : List UInt8) : (frameH k body).length = body.length + 5 := by simp [frameH, leS_len]; omega
theorem frameB_len (k : Nat) (body : List UInt8) : (frameB k body).length = body.length + 9 := by simp [frameB, frameH_len, leS_len]

/-- the number with which bytes begin -/
def numL (l : List UInt8) : Nat := (l[0]?.getD 0).toNat + 256 * (l[1]?.getD 0).toNat + 65536 * (l[2]?.getD 0).toNat + 16777216 * (l[3]?.getD 0).toNat
/-- how a frame is told -/
def getE (l : List UInt8) : Nat :=
  if l.length < 4 then 3 else if 65536 < numL l then 2 else if l.length < numL l + 9 then 3 else if wholeF (l.take (numL l + 9)) then 0 else 4
structure GetR where
  kind : Nat
  body : List UInt8
  size : Nat
  err : Nat
def getF (l : List UInt8) : GetR :=
  if getE l = 0 then ⟨(l[4]?.getD 0).toNat, (l.take (numL l + 5)).drop 5, numL l + 9, 0⟩ else ⟨0, [], 0, getE l⟩
theorem getF_short (l : List UInt8) (h : l.length < 4) : getF l = ⟨0, [], 0, 3⟩ := by
  have e : getE l = 3 := by unfold getE; rw [if_pos h]
  unfold getF; rw [e]; rfl
theorem getF_big (l : List UInt8) (h : ¬ l.length < 4) (h2 : 65536 < numL l) : getF l = ⟨0, [], 0, 2⟩ := by
  have e : getE l = 2 := by unfold getE; rw [if_neg h, if_pos h2]
  unfold getF; rw [e]; rfl
theorem getF_ends (l : List UInt8) (h : ¬ l.length < 4) (h2 : ¬ 65536 < numL l) (h3 : l.length < numL l + 9) : getF l = ⟨0, [], 0, 3⟩ := by
  have e : getE l = 3 := by unfold getE; rw [if_neg h, if_neg h2, if_pos h3]
  unfold getF; rw [e]; rfl
theorem getF_crc (l : List UInt8) (h : ¬ l.length < 4) (h2 : ¬ 65536 < numL l) (h3 : ¬ l.length < numL l + 9) (h4 : wholeF (l.take (numL l + 9)) = false) : getF l = ⟨0, [], 0, 4⟩ := by
  have e : getE l = 4 := by unfold getE; rw [if_neg h, if_neg h2, if_neg h3, h4]; rfl
  unfold getF; rw [e]; rfl
theorem getF_ok (l : List UInt8) (h : ¬ l.length < 4) (h2 : ¬ 65536 < numL l) (h3 : ¬ l.length < numL l + 9) (h4 : wholeF (l.take (numL l + 9)) = true) :
    getF l = ⟨(l[4]?.getD 0).toNat, (l.take (numL l + 5)).drop 5, numL l + 9, 0⟩ := by
  have e : getE l = 0 := by unfold getE; rw [if_neg h, if_neg h2, if_neg h3, h4]; rfl
  unfold getF; rw [if_pos e]

theorem getF_cases (l : List UInt8) : (∃ k body, getF l = ⟨k, body, numL l + 9, 0⟩ ∧ k < 256 ∧ numL l + 9 ≤ l.length ∧ body.length = numL l ∧ numL l ≤ 65536) ∨ ∃ e, getF l = ⟨0, [], 0, e⟩ ∧ e ≠ 0 ∧ e ≤ 4 := by
  by_cases h : l.length < 4
  · exact .inr ⟨3, getF_short l h, by omega, by omega⟩
  by_cases h2 : 65536 < numL l
  · exact .inr ⟨2, getF_big l h h2, by omega, by omega⟩
  by_cases h3 : l.length < numL l + 9
  · exact .inr ⟨3, getF_ends l h h2 h3, by omega, by omega⟩
  cases h4 : wholeF (l.take (numL l + 9)) with
  | false => exact .inr ⟨4, getF_crc l h h2 h3 h4, by omega, by omega⟩
  | true =>
    refine .inl ⟨_, _, getF_ok l h h2 h3 h4, (l[4]?.getD 0).toNat_lt, by omega, ?_, by omega⟩
    rw [List.length_drop, List.length_take]; omega

/-- a frame, told -/
structure Fr where
  kind : Nat
  body : List UInt8
deriving DecidableEq
structure ScanR where
  frames : List Fr
  size : Nat
  err : Nat
/-- frames, told one behind the other -/
def scanR : Nat → List UInt8 → ScanR
  | 0, _ => ⟨[], 0, 0⟩
  | k + 1, l => if l = [] then ⟨[], 0, 0⟩ else
    if (getF l).err = 0 then ⟨⟨(getF l).kind, (getF l).body⟩ :: (scanR k (l.drop (getF l).size)).frames, (getF l).size + (scanR k (l.drop (getF l).size)).size, (scanR k (l.drop (getF l).size)).err⟩
    else ⟨[], 0, (getF l).err⟩
theorem scanR_more (k : Nat) : ∀ (l : List UInt8) (j : Nat), l.length ≤ k → l.length ≤ j → scanR k l = scanR j l := by
  induction k with
  | zero =>
    intro l j h _
    have hl : l = [] := List.eq_nil_of_length_eq_zero (by omega)
    subst hl
    cases j with
    | zero => rfl
    | succ j => simp [scanR]
  | succ k ih =>
    intro l j h hj
    cases j with
    | zero =>
      have hl : l = [] := List.eq_nil_of_length_eq_zero (by omega)
      subst hl
      simp [scanR]
    | succ j =>
      unfold scanR
      by_cases hl : l = []
      · rw [if_pos hl, if_pos hl]
      · rw [if_neg hl, if_neg hl]
        by_cases he : (getF l).err = 0
        · rw [if_pos he, if_pos he]
          have hs : 9 ≤ (getF l).size := by
            rcases getF_cases l with ⟨_, _, hg, _⟩ | ⟨e, hg, h0, _⟩
            · rw [hg]; show 9 ≤ numL l + 9; omega
            · rw [hg] at he; exact absurd he h0
          have hpos : 0 < l.length := List.length_pos_iff.2 hl
          rw [ih (l.drop (getF l).size) j (by rw [List.length_drop]; omega) (by rw [List.length_drop]; omega)]
        · rw [if_neg he, if_neg he]
def scanF (l : List UInt8) : ScanR := scanR l.length l
theorem scanF_nil : scanF [] = ⟨[], 0, 0⟩ := rfl
theorem scanF_err (l : List UInt8) (hl : l ≠ []) (e : Nat) (hg : getF l = ⟨0, [], 0, e⟩) (he : e ≠ 0) : scanF l = ⟨[], 0, e⟩ := by
  unfold scanF
  obtain ⟨k, hk⟩ : ∃ k, l.length = k + 1 := ⟨l.length - 1, by have := List.length_pos_iff.2 hl; omega⟩
  rw [hk, scanR, if_neg hl, hg, if_neg he]
theorem scanF_ok (l : List UInt8) (hl : l ≠ []) (k s : Nat) (body : List UInt8) (hg : getF l = ⟨k, body, s, 0⟩) (hs : 9 ≤ s) :
    scanF l = ⟨⟨k, body⟩ :: (scanF (l.drop s)).frames, s + (scanF (l.drop s)).size, (scanF (l.drop s)).err⟩ := by
  obtain ⟨j, hj⟩ : ∃ j, l.length = j + 1 := ⟨l.length - 1, by have := List.length_pos_iff.2 hl; omega⟩
  have h : scanF l = ⟨⟨k, body⟩ :: (scanR j (l.drop s)).frames, s + (scanR j (l.drop s)).size, (scanR j (l.drop s)).err⟩ := by
    unfold scanF
    rw [hj, scanR, if_neg hl, hg, if_pos rfl]
  rw [h, scanR_more j (l.drop s) (l.drop s).length (by rw [List.length_drop]; omega) (Nat.le_refl _)]
  rfl
/-- what has been told so far, and what is still to tell -/
def told (out : List Fr) (at_ : Nat) (r : ScanR) : ScanR := ⟨out ++ r.frames, at_ + r.size, r.err⟩
theorem told_step (l : List UInt8) (out : List Fr) (p k s : Nat) (body : List UInt8) (hl : l.drop p ≠ []) (hg : getF (l.drop p) = ⟨k, body, s, 0⟩) (hs : 9 ≤ s) :
    told out p (scanF (l.drop p)) = told (out ++ [⟨k, body⟩]) (p + s) (scanF (l.drop (p + s))) := by
  rw [scanF_ok _ hl k s body hg hs, List.drop_drop]
  simp [told, Nat.add_assoc]

/-! what the model's operations on int come to -/
theorem ofInt_i64 (a : Nat) (ha : a < 9223372036854775808) : (BitVec.ofInt 64 (a : Int)).toNat = a := by
  rw [BitVec.ofInt_natCast, BitVec.toNat_ofNat]; exact Nat.mod_eq_of_lt (by omega)
theorem i64_or_nat (a b : Nat) (ha : a < 9223372036854775808) (hb : b < 9223372036854775808) : bits .or .i64 (a : Int) (b : Int) = ((a ||| b : Nat) : Int) := by
  have hx : a ||| b < 2 ^ 63 := Nat.or_lt_two_pow (by omega) (by omega)
  show IntKind.i64.wrap ((BitVec.ofInt 64 (a : Int) ||| BitVec.ofInt 64 (b : Int)).toNat : Int) = _
  rw [BitVec.toNat_or, ofInt_i64 a ha, ofInt_i64 b hb, IntKind.wrap_i64]
  omega
theorem or_step (a b i : Nat) (ha : a < 2 ^ i) (hi : i ≤ 24) (hb : b < 256) : bits .or .i64 (a : Int) ((b : Int) * ((2 ^ i : Nat) : Int)) = ((a + 2 ^ i * b : Nat) : Int) := by
  have hp : 2 ^ i ≤ 2 ^ 24 := Nat.pow_le_pow_right (by omega) hi
  have hm : b * 2 ^ i ≤ 255 * 2 ^ 24 := Nat.mul_le_mul (by omega) hp
  rw [← Int.natCast_mul, i64_or_nat a (b * 2 ^ i) (by omega) (by omega)]
  have := Nat.two_pow_add_eq_or_of_lt ha b
  rw [Nat.or_comm, Nat.mul_comm b, ← this, Nat.add_comm]
end Go.Proofs.Ytfhfpcihbclanaa
