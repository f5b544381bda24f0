/-
  The walks of the quorum: is there one.
-/
import Derived.Test.YtkgcccllabofoaaQ1
import Derived.Laws.Bits64b
namespace Go.Proofs.Ytkgcccllabofoaa
open Go.RowKit

/-- how many of 1..n are named -/
def cntF (n : Nat) (l : List Int) : Nat := ((List.range n).filter fun i => decide (((i + 1 : Nat) : Int) ∈ l)).length
def wonF (n : Int) (l : List Int) : Bool := decide ((1 ≤ n ∧ n ≤ 7) ∧ n < 2 * (cntF n.toNat l : Int))
theorem cntF_succ (n : Nat) (l : List Int) : cntF (n + 1) l = cntF n l + if ((n + 1 : Nat) : Int) ∈ l then 1 else 0 := by
  unfold cntF
  rw [List.range_succ, List.filter_append, List.length_append]
  congr 1
  by_cases h : ((n + 1 : Nat) : Int) ∈ l
  · rw [if_pos h, List.filter_cons_of_pos (by exact decide_eq_true h)]; rfl
  · rw [if_neg h, List.filter_cons_of_neg (by simpa using h)]; rfl
theorem cntF_le (n : Nat) (l : List Int) : cntF n l ≤ n := by
  unfold cntF; exact Nat.le_trans (List.length_filter_le _ _) (by simp)

/-- the set as a number -/
def mskS (n : Int) (x : Nat) (s : Int) : Nat := if (1 ≤ s ∧ s ≤ n) ∧ s ≤ 7 then x ||| 2 ^ s.toNat else x
def msk (n : Int) (l : List Int) : Nat := l.foldl (mskS n) 0
theorem msk_snoc (n : Int) (l : List Int) (s : Int) : msk n (l ++ [s]) = mskS n (msk n l) s := by simp [msk]
theorem pow_lt8 (s : Int) (h1 : 1 ≤ s) (h7 : s ≤ 7) : 2 ^ s.toNat < 2 ^ 8 := Nat.pow_lt_pow_right (by omega) (by omega)
theorem mskS_lt (n : Int) (x : Nat) (s : Int) (h : x < 256) : mskS n x s < 256 := by
  unfold mskS
  split
  · rename_i h'
    exact Nat.or_lt_two_pow (n := 8) h (pow_lt8 s h'.1.1 h'.2)
  · exact h
theorem foldl_inv {α β : Type} (P : β → Prop) (f : β → α → β) (hf : ∀ b a, P b → P (f b a)) (l : List α) : ∀ b, P b → P (l.foldl f b) := by
  induction l with
  | nil => intro b h; exact h
  | cons a l ih => intro b h; exact ih _ (hf b a h)
theorem msk_lt (n : Int) (l : List Int) : msk n l < 256 := foldl_inv (· < 256) _ (fun b a h => mskS_lt n b a h) l 0 (by omega)
theorem foldl_bit (n : Int) (i : Nat) (l : List Int) : ∀ x : Nat, (l.foldl (mskS n) x).testBit i = (x.testBit i || decide ((i : Int) ∈ l ∧ 1 ≤ i ∧ (i : Int) ≤ n ∧ i ≤ 7)) := by
  induction l with
  | nil => intro x; simp
  | cons s l ih =>
    intro x
    rw [List.foldl_cons, ih]
    unfold mskS
    by_cases h : (1 ≤ s ∧ s ≤ n) ∧ s ≤ 7
    · rw [if_pos h, Nat.testBit_or, Nat.testBit_two_pow]
      by_cases e : s.toNat = i
      · have e' : s = (i : Int) := by omega
        subst e'
        have : (1 ≤ i ∧ (i : Int) ≤ n ∧ i ≤ 7) := by omega
        simp [this]
      · have e' : ¬ (i : Int) = s := by omega
        simp [e, e']
    · rw [if_neg h]
      by_cases e' : (i : Int) = s
      · subst e'
        have : ¬ (1 ≤ i ∧ (i : Int) ≤ n ∧ i ≤ 7) := by omega
        simp [this]
      · simp [e']
theorem msk_bit (n : Int) (l : List Int) (i : Nat) : (msk n l).testBit i = decide ((i : Int) ∈ l ∧ 1 ≤ i ∧ (i : Int) ≤ n ∧ i ≤ 7) := by
  unfold msk; rw [foldl_bit]; simp
theorem filter_len {α : Type} (f g : α → Bool) (l : List α) (h : ∀ x ∈ l, f x = g x) : (l.filter f).length = (l.filter g).length := by
  rw [List.filter_congr h]
theorem popc_msk (n : Nat) (hn : n ≤ 7) (l : List Int) : popc (msk n l) = cntF n l := by
  have key : ∀ k, k ≤ 8 → ((List.range k).filter fun i => (msk n l).testBit i).length = cntF (min (k - 1) n) l := by
    intro k
    induction k with
    | zero => intro _; simp [cntF]
    | succ k ih =>
      intro hk
      rw [List.range_succ, List.filter_append, List.length_append, ih (by omega)]
      simp only [List.filter_cons, List.filter_nil, msk_bit]
      by_cases hk0 : k = 0
      · subst hk0; simp
      by_cases hkn : k ≤ n
      · obtain ⟨j, rfl⟩ : ∃ j, k = j + 1 := ⟨k - 1, by omega⟩
        rw [show min (j + 1 - 1) n = j by omega, show min (j + 1 + 1 - 1) n = j + 1 by omega, cntF_succ]
        by_cases hm : ((j + 1 : Nat) : Int) ∈ l
        · rw [if_pos hm, if_pos (by simp only [decide_eq_true_eq]; exact ⟨hm, by omega⟩)]; rfl
        · rw [if_neg hm, if_neg (by simp only [decide_eq_true_eq]; exact fun h => hm h.1)]; rfl
      · rw [show min (k - 1) n = min (k + 1 - 1) n by omega, if_neg (by simp only [decide_eq_true_eq]; omega)]; rfl
  have := key 8 (by omega)
  rw [show min (8 - 1) n = n by omega] at this
  exact this
theorem or_eq (x : Nat) (hx : x < 256) (s : Int) (h1 : 1 ≤ s) (h7 : s ≤ 7) : bits .or .u64 (x : Int) (IntKind.u64.wrap (2 ^ s.toNat)) = ((x ||| 2 ^ s.toNat : Nat) : Int) := by
  have hp := pow_lt8 s h1 h7
  have e : IntKind.u64.wrap (2 ^ s.toNat) = ((2 ^ s.toNat : Nat) : Int) := by
    rw [IntKind.wrap_u64, show ((2 : Int) ^ s.toNat) = ((2 ^ s.toNat : Nat) : Int) by simp]
    exact Int.emod_eq_of_lt (Int.natCast_nonneg _) (by omega)
  rw [e, bits_or_u64_nat x _ (by omega) (by omega)]

theorem wrap_next {k m c : Nat} (h : k < m) (hc : m ≤ c) (hm : c ≤ maxLen) : wrap64 ((k : Int) + 1) = ((k + 1 : Nat) : Int) := by
  unfold maxLen at hm; unfold wrap64; omega
theorem ones_any (x : Nat) (w : World) (hx : x < 256) : Calls Try.prog 44 #[.int .u64 x] w fun e w' => e = .returned (.int .i64 (popc x : Nat)) ∧ w = w' := by
  go_enter Try.func44, Try.ntmps44
  go_wp2_with fail
  refine (ones64_any x _ hx).mono ?_
  rintro e w' ⟨rfl, rfl⟩
  go_wp2_with fail
  go_ret
  exact ⟨rfl, rfl⟩

theorem won_any (n : Int) (A : Option Addr) (m c : Nat) (l : List Int) (w : World) (hl : RdI w A m l) (hm : c ≤ maxLen) (hmc : m ≤ c) :
    Calls Try.prog 16 #[.int .i64 n, .slice A m c] w fun e w' => e = .returned (.bool (wonF n l)) ∧ w = w' := by
  have hlen := hl.len
  go_enter Try.func16, Try.ntmps16
  go_wp2_with fail
  go_loop [5, 11] (fun a b => ∃ k, k ≤ m ∧ a = .int .u64 ((msk n (l.take k) : Nat) : Int) ∧ b = .int .i64 (k : Nat)) (fun a b => (m - intOf b).toNat)
  case atStart => exact ⟨0, by omega, rfl, rfl⟩
  case round =>
    obtain ⟨k, hk, rfl, rfl⟩ := hrel
    by_cases hlt : k < m
    · obtain ⟨ad, rfl, hcell⟩ := hl.at_ hlt
      have wk := wrap_next hlt hmc hm
      have hx := msk_lt n (l.take k)
      have es := take_snoc l 0 k (by omega)
      have hn : msk n (l.take (k + 1)) = mskS n (msk n (l.take k)) (l[k]?.getD 0) := by rw [es, msk_snoc]
      clear es
      generalize l[k]?.getD 0 = s at *
      generalize msk n (l.take k) = x at *
      go_wp2_with fail
      all_goals
        rw [wk]
        refine ⟨⟨k + 1, by omega, ?_, rfl⟩, by simp [intOf]; omega⟩
        rw [hn]
        unfold mskS
        first
          | (rw [if_pos (by omega), or_eq x hx s (by omega) (by omega)]; done)
          | rw [if_neg (by omega)]
    · obtain rfl : k = m := by omega
      rw [List.take_of_length_le (by omega : l.length ≤ k)]
      have hx := msk_lt n l
      by_cases h : 1 ≤ n ∧ n ≤ 7
      · have hs := sizeF_yes h
        have hp : popc (msk n l) = cntF n.toNat l := by
          have := popc_msk n.toNat (by omega) l
          rwa [show (n.toNat : Int) = n by omega] at this
        have hw : wonF n l = decide (n / 2 + 1 ≤ (cntF n.toNat l : Nat)) := by
          unfold wonF
          exact decide_eq_decide.2 (by omega)
        have Hw := Lib.hid hw
        clear hw
        obtain ⟨h1, h2⟩ := h
        go_wp2_with fail
        refine (size_any n _).mono ?_
        rintro e w' ⟨rfl, rfl⟩
        rw [hs]
        clear hs
        go_wp2_with fail
        refine (ones_any _ _ hx).mono ?_
        rintro e w' ⟨rfl, rfl⟩
        rw [hp]
        go_wp2_with fail
        go_ret
        exact ⟨by rw [Hw.out]; rfl, rfl⟩
      · have hs := sizeF_no h
        have Hw := Lib.hid (show wonF n l = false from decide_eq_false fun h' => h h'.1)
        clear h
        go_wp2_with fail
        refine (size_any n _).mono ?_
        rintro e w' ⟨rfl, rfl⟩
        rw [hs]
        clear hs
        go_wp2_with fail
        go_ret
        exact ⟨by rw [Hw.out]; rfl, rfl⟩

theorem wrap_s {s : Int} {k : Nat} (h : ((k + 1 : Nat) : Int) = s) (hk : k < 7) : wrap64 (s + 1) = ((k + 1 + 1 : Nat) : Int) := by
  unfold wrap64; omega
theorem wrap_c {k n : Nat} (h : k ≤ n) (hk : n < 7) : wrap64 ((k : Int) + 1) = ((k + 1 : Nat) : Int) := by
  unfold wrap64; omega
theorem meas {m j : Nat} (h : j < m) : ((m : Int) - intOf (.int .i64 ((j + 1 : Nat) : Int))).toNat < ((m : Int) - intOf (.int .i64 ((j : Nat) : Int))).toNat := by
  simp only [intOf]; omega
theorem meas1 {m j : Nat} {s : Int} (h : j < m) (hs : ((j + 1 : Nat) : Int) = s) : ((m : Int) + 1 - intOf (.int .i64 ((j + 1 + 1 : Nat) : Int))).toNat < ((m : Int) + 1 - intOf (.int .i64 s)).toNat := by
  simp only [intOf]; omega
theorem mem_snoc (l : List Int) (x s : Int) : decide (s ∈ l ++ [x]) = (decide (s ∈ l) || decide (x = s)) := by
  rw [Bool.eq_iff_iff, Bool.or_eq_true, decide_eq_true_eq, decide_eq_true_eq, decide_eq_true_eq, List.mem_append, List.mem_singleton]
  exact or_congr Iff.rfl ⟨Eq.symm, Eq.symm⟩
theorem refwon_any (n : Int) (A : Option Addr) (m c : Nat) (l : List Int) (w : World) (hl : RdI w A m l) (hm : c ≤ maxLen) (hmc : m ≤ c) :
    Calls Try.prog 17 #[.int .i64 n, .slice A m c] w fun e w' => e = .returned (.bool (wonF n l)) ∧ w = w' := by
  have hlen := hl.len
  by_cases h : 1 ≤ n ∧ n ≤ 7
  · obtain ⟨N, rfl⟩ : ∃ N : Nat, n = N := ⟨n.toNat, by omega⟩
    have hw : wonF N l = decide ((N : Int) < 2 * (cntF N l : Int)) := by
      unfold wonF
      exact decide_eq_decide.2 (by rw [Int.toNat_natCast]; omega)
    have Hw := Lib.hid hw
    clear hw
    obtain ⟨h1, h2⟩ := h
    go_enter Try.func17, Try.ntmps17
    go_wp2_with fail
    go_loop [5, 6] (fun a b => ∃ k : Nat, k ≤ N ∧ a = .int .i64 (cntF k l : Nat) ∧ b = .int .i64 (k + 1 : Nat)) (fun a b => (N + 1 - intOf b).toNat)
    case atStart => exact ⟨0, by omega, rfl, rfl⟩
    case round =>
      obtain ⟨k, hk, rfl, rfl⟩ := hrel
      by_cases hlt : k < N
      · have hcl := cntF_le k l
        generalize hs : ((k + 1 : Nat) : Int) = s at *
        have hk1 : (k : Int) + 1 = s := by omega
        have hsn : s ≤ N := by omega
        have hk7 : k < 7 := by omega
        go_wp2_with fail
        go_loop [7, 8] (fun a b => ∃ j : Nat, j ≤ m ∧ a = .bool (decide (s ∈ l.take j)) ∧ b = .int .i64 (j : Nat)) (fun a b => (m - intOf b).toNat)
        case atStart => exact ⟨0, by omega, by simp, rfl⟩
        case round =>
          obtain ⟨j, hj, rfl, rfl⟩ := hrel
          by_cases hjl : j < m
          · obtain ⟨ad, rfl, hcell⟩ := hl.at_ hjl
            have es := take_snoc l 0 j (by omega)
            have hn := mem_snoc (l.take j) (l[j]?.getD 0) s
            rw [← es] at hn
            clear es
            generalize l[j]?.getD 0 = x at *
            generalize decide (s ∈ l.take j) = p at *
            have hxs : (x == s) = decide (x = s) := rfl
            have wk := wrap_next hjl hmc hm
            cases p
            · go_wp2_with fail
              rw [wk]
              refine ⟨⟨j + 1, ?_, ?_, rfl⟩, ?_⟩
              · exact hjl
              · rw [hn, Bool.false_or]
              · exact meas hjl
            · go_wp2_with fail
              rw [wk]
              refine ⟨⟨j + 1, ?_, ?_, rfl⟩, ?_⟩
              · exact hjl
              · rw [hn, Bool.true_or]
              · exact meas hjl
          · obtain rfl : j = m := by omega
            rw [List.take_of_length_le (by omega : l.length ≤ j)]
            have hcs := cntF_succ k l
            have wk := Lib.hid (wrap_s hs hk7)
            have wc := Lib.hid (wrap_c (cntF_le k l) hk7)
            have hcl := cntF_le k l
            have Hm := Lib.hid (meas1 hlt hs)
            rw [hs] at hcs
            clear hs hk1 hk7
            by_cases hmem : s ∈ l
            · rw [decide_eq_true hmem]
              rw [if_pos hmem] at hcs
              clear hmem
              have Hcs := Lib.hid hcs
              clear hcs
              go_wp2_with fail
              rw [wk.out]
              exact ⟨⟨k + 1, hlt, by rw [Hcs.out]; rfl, rfl⟩, Hm.out⟩
            · rw [decide_eq_false hmem]
              rw [if_neg hmem] at hcs
              clear hmem
              have Hcs := Lib.hid hcs
              clear hcs
              go_wp2_with fail
              rw [wk.out]
              exact ⟨⟨k + 1, hlt, by rw [Hcs.out]; rfl, rfl⟩, Hm.out⟩
      · obtain rfl : k = N := by omega
        have hcl := cntF_le k l
        have hk1 : ((k + 1 : Nat) : Int) = (k : Int) + 1 := by omega
        go_wp2_with fail
        go_ret
        exact ⟨by rw [Hw.out]; rfl, rfl⟩
  · have Hw := Lib.hid (show wonF n l = false from decide_eq_false fun h' => h h'.1)
    rcases (show n < 1 ∨ (1 ≤ n ∧ 7 < n) by omega) with h1 | ⟨h1, h2⟩
    all_goals
      clear h
      go_enter Try.func17, Try.ntmps17
      go_wp2_with fail
      go_ret
      exact ⟨by rw [Hw.out]; rfl, rfl⟩
end Go.Proofs.Ytkgcccllabofoaa
