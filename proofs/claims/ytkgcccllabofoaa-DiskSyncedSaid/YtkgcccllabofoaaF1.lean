/-
  The law's small functions: pick, few, Same.
-/
import Derived.Test.YtkgcccllabofoaaE8
namespace Go.Proofs.Ytkgcccllabofoaa
open Go.RowKit Go.Maps

theorem pick_any (n : Int) (m : Nat) (w : World) (h1 : -9223372036854775808 ≤ n) (h2 : n ≤ 9223372036854775807) (hm : 0 < m) (hm2 : m ≤ 1000000000) :
    Calls Try.prog 41 #[.int .i64 n, .int .i64 m] w fun e w' => e = .returned (.int .i64 (restF n m : Nat)) ∧ w = w' := by
  have He := restF_eq n hm
  have h0 : ((m : Int) == 0) = false := beq_eq_false_iff_ne.2 (by omega)
  by_cases h : n < 0
  · have hd : decide (n < 0) = true := decide_eq_true h
    rw [if_pos h, Int.neg_tmod] at He
    have He := Lib.hid He
    go_enter Try.func41, Try.ntmps41
    go_wp2_with fail
    go_ret
    refine ⟨?_, rfl⟩
    rw [← He.out]
    rfl
  · have hd : decide (n < 0) = false := decide_eq_false h
    rw [if_neg h, Int.tmod_eq_emod_of_nonneg (by omega)] at He
    have He := Lib.hid He
    go_enter Try.func41, Try.ntmps41
    go_wp2_with fail
    go_ret
    refine ⟨?_, rfl⟩
    rw [← He.out]
    rfl
theorem few_any (A : Option Addr) (n c : Nat) (w : World) (hn : n ≤ c) :
    Calls Try.prog 35 #[.slice A n c] w fun e w' => e = .returned (.slice A (min n 200) c) ∧ w = w' := by
  by_cases h : 200 < n
  · have hm := Lib.hid (show min n 200 = 200 by omega)
    have hc : 200 ≤ c := by omega
    go_enter Try.func35, Try.ntmps35
    go_wp2_with fail
    go_ret
    exact ⟨by rw [hm.out]; rfl, rfl⟩
  · have hm := Lib.hid (show min n 200 = n by omega)
    go_enter Try.func35, Try.ntmps35
    go_wp2_with fail
    go_ret
    exact ⟨by rw [hm.out]; rfl, rfl⟩
set_option maxRecDepth 100000 in
theorem sameB_any {A B : Option Addr} {n c d : Nat} {l : List UInt8} {w : World} (h1 : Rd w A n l) (h2 : Rd w B n l) (hn : n ≤ 1000000000) :
    Calls Try.prog 36 #[.slice A n c, .slice B n d] w fun e w' => e = .returned (.bool true) ∧ ∃ q, w' = w.drewN q := by
  go_enter Try.func36, Try.ntmps36
  go_wp2_with fail
  go_loopw [5] (fun i wr => ∃ k q : Nat, k ≤ n ∧ i = .int .i64 k ∧ wr = w.drewN q) (fun i _ => n - (intOf i).toNat)
  case atStart => exact ⟨0, 0, Nat.zero_le _, rfl, rfl⟩
  case round =>
    obtain ⟨k, q, hk, rfl, rfl⟩ := hrel
    by_cases hlt : k < n
    · obtain ⟨ad, rfl, c1⟩ := h1.at_ hlt
      obtain ⟨ad2, rfl, c2⟩ := h2.at_ hlt
      generalize l[k]?.getD 0 = b at *
      go_wp2_with fail
      go_quiet (fail)
      go_wp2_with fail
      exact ⟨⟨k + 1, _, hlt, by go_num, rfl⟩, by simp [intOf]; omega⟩
    · go_wp2_with fail
      go_ret
      exact ⟨rfl, q, rfl⟩
/-- a row of names -/
def RdN (w : World) (A : Option Addr) (n : Nat) (l : List ByteArray) : Prop := Rds w 1 A n (l.map vst)
theorem RdN.at_ {w : World} {A : Option Addr} {n k : Nat} {l : List ByteArray} (h : RdN w A n l) (hk : k < n) : ∃ ad s, A = some ad ∧ l[k]? = some s ∧ w.cell? (ad.add k) = some (.string s) := by
  obtain ⟨ad, e, hc⟩ := h.2 (by omega)
  have hl : l.length = n := by have := h.1; simpa using this
  exact ⟨ad, l[k], e, List.getElem?_eq_getElem (by omega), hc k _ (by rw [List.getElem?_map, List.getElem?_eq_getElem (by omega)]; rfl)⟩
theorem RdN.below {w w' : World} {A : Option Addr} {n : Nat} {l : List ByteArray} (h : RdN w A n l) (hb : Below w.heap.size w w') : RdN w' A n l := Rds.below h hb
set_option maxRecDepth 100000 in
theorem sameN_any {A B : Option Addr} {n c d : Nat} {l : List ByteArray} {w : World} (h1 : RdN w A n l) (h2 : RdN w B n l) (hn : n ≤ 1000000000) :
    Calls Try.prog 54 #[.slice A n c, .slice B n d] w fun e w' => e = .returned (.bool true) ∧ ∃ q, w' = w.drewN q := by
  go_enter Try.func54, Try.ntmps54
  go_wp2_with fail
  go_loopw [5] (fun i wr => ∃ k q : Nat, k ≤ n ∧ i = .int .i64 k ∧ wr = w.drewN q) (fun i _ => n - (intOf i).toNat)
  case atStart => exact ⟨0, 0, Nat.zero_le _, rfl, rfl⟩
  case round =>
    obtain ⟨k, q, hk, rfl, rfl⟩ := hrel
    by_cases hlt : k < n
    · obtain ⟨ad, s, rfl, hs, c1⟩ := h1.at_ hlt
      obtain ⟨ad2, s', rfl, hs', c2⟩ := h2.at_ hlt
      obtain rfl : s = s' := by rw [hs] at hs'; injection hs'
      clear hs hs'
      go_wp2_with fail
      go_quiet (fail)
      go_wp2_with fail
      exact ⟨⟨k + 1, _, hlt, by go_num, rfl⟩, by simp [intOf]; omega⟩
    · go_wp2_with fail
      go_ret
      exact ⟨rfl, q, rfl⟩
end Go.Proofs.Ytkgcccllabofoaa
