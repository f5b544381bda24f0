/-
  The law's small functions; a deed done by both tracks.
-/
import Derived.Test.YtojmkbhihnnmaaaT25
namespace Go.Proofs.Ytojmkbhihnnmaaa
open Go.RowKit

def restF (n : Int) (m : Nat) : Nat := ((if n < 0 then -(n + 1) else n) % (m : Int)).toNat
theorem restF_lt (n : Int) {m : Nat} (h : 0 < m) : restF n m < m := by
  unfold restF
  have h1 := Int.emod_lt_of_pos (if n < 0 then -(n + 1) else n) (b := (m : Int)) (by omega)
  have h2 := Int.emod_nonneg (if n < 0 then -(n + 1) else n) (b := (m : Int)) (by omega)
  omega
theorem restF_eq (n : Int) {m : Nat} (h : 0 < m) : (if n < 0 then -(n + 1) else n).tmod m = (restF n m : Nat) := by
  have h2 := Int.emod_nonneg (if n < 0 then -(n + 1) else n) (b := (m : Int)) (by omega)
  unfold restF
  rw [Int.toNat_of_nonneg h2]
  exact Int.tmod_eq_emod_of_nonneg (by split <;> omega)
theorem pick_any (n : Int) (m : Nat) (w : World) (h1 : -9223372036854775808 ≤ n) (h2 : n ≤ 9223372036854775807) (hm : 0 < m) (hm2 : m ≤ 1000000000) :
    Calls Try.prog 45 #[.int .i64 n, .int .i64 m] w fun e w' => e = .returned (.int .i64 (restF n m : Nat)) ∧ w = w' := by
  have He := restF_eq n hm
  have h0 : ((m : Int) == 0) = false := beq_eq_false_iff_ne.2 (by omega)
  by_cases h : n < 0
  · have hd : decide (n < 0) = true := decide_eq_true h
    rw [if_pos h, Int.neg_tmod] at He
    have He := Lib.hid He
    go_enter Try.func45, Try.ntmps45
    go_wp2_with fail
    go_ret
    refine ⟨?_, rfl⟩
    rw [← He.out]
    rfl
  · have hd : decide (n < 0) = false := decide_eq_false h
    rw [if_neg h, Int.tmod_eq_emod_of_nonneg (by omega)] at He
    have He := Lib.hid He
    go_enter Try.func45, Try.ntmps45
    go_wp2_with fail
    go_ret
    refine ⟨?_, rfl⟩
    rw [← He.out]
    rfl
theorem few_tany (A : Option Addr) (n c : Nat) (w : World) (hn : n ≤ c) :
    Calls Try.prog 50 #[.slice A n c] w fun e w' => e = .returned (.slice A (min n 12) c) ∧ w = w' := by
  by_cases h : 12 < n
  · have hm := Lib.hid (show min n 12 = 12 by omega)
    have hc : 12 ≤ c := by omega
    go_enter Try.func50, Try.ntmps50
    go_wp2_with fail
    go_ret
    exact ⟨by rw [hm.out]; rfl, rfl⟩
  · have hm := Lib.hid (show min n 12 = n by omega)
    go_enter Try.func50, Try.ntmps50
    go_wp2_with fail
    go_ret
    exact ⟨by rw [hm.out]; rfl, rfl⟩
/-- a deed of the law -/
structure Dd where
  kind : Int
  idx : Int
  term : Int
  cmd : En
  L : List En
def ddV (x : Dd) (vf vl : Value) : Value := .agg #[.int .i64 x.kind, .int .i64 x.idx, .int .i64 x.term, .int .i64 x.cmd.op, .int .i64 x.cmd.sess, .int .i64 x.cmd.seq, vf, vl]
def Trk.doK (t : Trk) (x : Dd) (k : Nat) : Trk := match k with
  | 0 => (t.putF x.term x.cmd).2
  | 1 => (t.takeF x.idx x.term (x.L.take 12)).2
  | 2 => (t.dropF x.idx).2
  | _ => t
def Trk.doF (t : Trk) (x : Dd) : Trk := t.doK x (restF x.kind 4)
theorem doF_len (t : Trk) (x : Dd) : (t.doF x).L.length ≤ t.L.length + 12 := by
  unfold Trk.doF
  generalize restF x.kind 4 = k
  match k with
  | 0 => have := putF_len t x.term x.cmd; show (t.putF x.term x.cmd).2.L.length ≤ _; omega
  | 1 =>
    have := takeF_len t x.idx x.term (x.L.take 12)
    have h2 : (x.L.take 12).length ≤ 12 := by rw [List.length_take]; exact Nat.min_le_left _ _
    show (t.takeF x.idx x.term (x.L.take 12)).2.L.length ≤ _
    omega
  | 2 => have := dropF_len t x.idx; show (t.dropF x.idx).2.L.length ≤ _; omega
  | k + 3 => show t.L.length ≤ _; omega
/-- what is handed in of a deed -/
structure DdV (z : Nat) (w : World) (x : Dd) (V : Option Addr) (m d : Nat) (A : Option Addr) (k c : Nat) (ys : List (Value × En)) : Prop where
  f : FactsV (fun j => j < z) w (.slice V m d) x.cmd.facts
  md : m ≤ d ∧ d ≤ maxLen
  r : RdE w A k ys
  d : DeepE (fun j => j < z) w ys
  l : ys.map (·.2) = x.L
  kc : k ≤ c ∧ c ≤ maxLen
  a : 0 < k → ∀ j, rowOf A j → j < z
  k1 : -9223372036854775808 ≤ x.kind
  k2 : x.kind ≤ 9223372036854775807
section
variable {z M : Nat} {w w' : World} {gt gr : Nat} {t : Trk} {x : Dd} {V A : Option Addr} {m d k c : Nat} {ys : List (Value × En)}
theorem Stay.lt (hb : Below z w w') : Stay (fun j => j < z) w w' := fun j hj _ => hb.block j hj
theorem DdV.below (h : DdV z w x V m d A k c ys) (hb : Below z w w') : DdV z w' x V m d A k c ys where
  f := h.f.keep (Stay.lt hb)
  md := h.md
  r := Rds.stay (S := fun j => j < z) h.r (fun h0 ad e => h.a h0 _ ⟨ad, e, rfl⟩) (Stay.lt hb)
  d := h.d.keep (Stay.lt hb)
  l := h.l
  kc := h.kc
  a := h.a
  k1 := h.k1
  k2 := h.k2
/-- the first twelve entries -/
theorem DdV.few (h : DdV z w x V m d A k c ys) : RdE w A (min k 12) (ys.take 12) ∧ DeepE (fun j => j < z) w (ys.take 12) ∧ (ys.take 12).map (·.2) = x.L.take 12 ∧ min k 12 ≤ c ∧ (0 < min k 12 → ∀ j, rowOf A j → j < z) := by
  have hl := h.r.len
  have h1 := Rds.take (size := 6) h.r (k := min k 12) (Nat.min_le_left _ _)
  rw [← flat_take enC_len] at h1
  have e : ys.take (min k 12) = ys.take 12 := by
    rcases Nat.le_total k 12 with h0 | h0
    · rw [Nat.min_eq_left h0, List.take_of_length_le (by omega), List.take_of_length_le (by omega)]
    · rw [Nat.min_eq_right h0]
  rw [e] at h1
  exact ⟨h1, h.d.sub fun y hy => List.mem_of_mem_take hy, by rw [List.map_take, h.l], Nat.le_trans (Nat.min_le_left _ _) h.kc.1, fun h0 => h.a (by omega)⟩
end
end Go.Proofs.Ytojmkbhihnnmaaa
