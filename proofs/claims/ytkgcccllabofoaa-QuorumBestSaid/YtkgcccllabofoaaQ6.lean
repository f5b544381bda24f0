/-
  The walks of the quorum: any two have a server in common.
-/
import Derived.Test.YtkgcccllabofoaaQ5
namespace Go.Proofs.Ytkgcccllabofoaa
open Go.RowKit

theorem wf_lo {n : Int} (h : (Lit.int .i64 n).wf = true) : -9223372036854775808 ≤ n ∧ n ≤ 9223372036854775807 := by
  simpa [Lit.wf, IntKind.min, IntKind.max, IntKind.signed, IntKind.bits] using h
theorem quorumNewer_wf (i t l u : Int) (w : World) (h : (Lit.int .i64 i).wf = true) :
    Calls Try.prog 7 #[.int .i64 i, .int .i64 t, .int .i64 l, .int .i64 u] w fun e w' => e = .returned (.bool true) ∧ Below w.heap.size w w' :=
  quorumNewer_any i t l u w (wf_lo h).1 (wf_lo h).2

theorem two_filters (p q : Nat → Bool) (N : Nat) (h : ∀ i, i < N → ¬ (p i = true ∧ q i = true)) : ((List.range N).filter p).length + ((List.range N).filter q).length ≤ N := by
  induction N with
  | zero => simp
  | succ N ih =>
    have := ih fun i hi => h i (by omega)
    have hN := h N (by omega)
    simp only [List.range_succ, List.filter_append, List.length_append]
    have h1 : (List.filter p [N]).length + (List.filter q [N]).length ≤ 1 := by
      cases hp : p N <;> cases hq : q N <;> simp_all
    omega
theorem meet {n : Int} {a b : List Int} (ha : wonF n a = true) (hb : wonF n b = true) : ∃ s : Int, 1 ≤ s ∧ s ≤ n ∧ s ∈ a ∧ s ∈ b := by
  have ha := of_decide_eq_true ha
  have hb := of_decide_eq_true hb
  refine Classical.byContradiction fun hc => ?_
  have := two_filters (fun i => decide (((i + 1 : Nat) : Int) ∈ a)) (fun i => decide (((i + 1 : Nat) : Int) ∈ b)) n.toNat (fun i hi h => hc ⟨((i + 1 : Nat) : Int), by omega, by omega, of_decide_eq_true h.1, of_decide_eq_true h.2⟩)
  have e1 : ((List.range n.toNat).filter fun i => decide (((i + 1 : Nat) : Int) ∈ a)).length = cntF n.toNat a := rfl
  have e2 : ((List.range n.toNat).filter fun i => decide (((i + 1 : Nat) : Int) ∈ b)).length = cntF n.toNat b := rfl
  rw [e1, e2] at this
  omega
/-- no server in common, of the first i and the first j -/
def Apart (n : Int) (a b : List Int) (i j : Nat) : Prop := ∀ s t, s < i → t < j → ¬ (a[s]?.getD 0 = b[t]?.getD 0 ∧ 1 ≤ a[s]?.getD 0 ∧ a[s]?.getD 0 ≤ n)
/-- row i is apart from the first j -/
def ApartR (n : Int) (x : Int) (b : List Int) (j : Nat) : Prop := ∀ t, t < j → ¬ (x = b[t]?.getD 0 ∧ 1 ≤ x ∧ x ≤ n)
theorem Apart.next {n : Int} {a b : List Int} {i : Nat} (h : Apart n a b i b.length) (hr : ApartR n (a[i]?.getD 0) b b.length) : Apart n a b (i + 1) b.length := by
  intro s t hs ht
  rcases Nat.lt_succ_iff_lt_or_eq.1 hs with hs | rfl
  · exact h s t hs ht
  · exact hr t ht
theorem ApartR.next {n x : Int} {b : List Int} {j : Nat} (h : ApartR n x b j) (hr : ¬ (x = b[j]?.getD 0 ∧ 1 ≤ x ∧ x ≤ n)) : ApartR n x b (j + 1) := by
  intro t ht
  rcases Nat.lt_succ_iff_lt_or_eq.1 ht with ht | rfl
  · exact h t ht
  · exact hr
theorem Apart.not {n : Int} {a b : List Int} (h : Apart n a b a.length b.length) (ha : wonF n a = true) (hb : wonF n b = true) : False := by
  obtain ⟨s, h1, h2, hsa, hsb⟩ := meet ha hb
  obtain ⟨i, hi, rfl⟩ := List.getElem_of_mem hsa
  obtain ⟨j, hj, e⟩ := List.getElem_of_mem hsb
  refine h i j hi hj ?_
  rw [List.getElem?_eq_getElem hi, List.getElem?_eq_getElem hj, e]
  exact ⟨rfl, h1, h2⟩

set_option maxRecDepth 100000 in
theorem quorumMeets_any (n : Int) (A : Option Addr) (m c : Nat) (B : Option Addr) (p d : Nat) (a b : List Int) (w : World) (hl : RdI w A m a) (hm : m ≤ c) (hc : c ≤ maxLen) (hr : RdI w B p b) (hp : p ≤ d) (hd : d ≤ maxLen) :
    Calls Try.prog 5 #[.int .i64 n, .slice A m c, .slice B p d] w fun e w' => e = .returned (.bool true) ∧ Below w.heap.size w w' := by
  go_enter Try.func5, Try.ntmps5
  go_wp2_with fail
  refine (few_any A m c a _ hl hm).mono ?_
  rintro e w' ⟨⟨m', rfl, h20, hmc, hl'⟩, rfl⟩
  generalize a.take 20 = a' at *
  clear hl hm
  go_wp2_with fail
  refine (few_any B p d b _ hr hp).mono ?_
  rintro e w' ⟨⟨p', rfl, h20', hpd, hr'⟩, rfl⟩
  generalize b.take 20 = b' at *
  clear hr hp
  go_wp2_with fail
  refine (won_any n _ _ _ a' _ hl' hc hmc).mono ?_
  rintro e w1 ⟨rfl, rfl⟩
  cases ha : wonF n a' with
  | false =>
    go_wp2_with fail
    refine (lives_any _).mono ?_
    rintro e w1 ⟨rfl, hb⟩
    go_wp2_with fail
    go_ret
    exact ⟨rfl, hb⟩
  | true =>
    go_wp2_with fail
    refine (won_any n _ _ _ b' _ hr' hd hpd).mono ?_
    rintro e w1 ⟨rfl, rfl⟩
    cases hb : wonF n b' with
    | false =>
      go_wp2_with fail
      refine (lives_any _).mono ?_
      rintro e w1 ⟨rfl, hb⟩
      go_wp2_with fail
      go_ret
      exact ⟨rfl, hb⟩
    | true =>
      have Hnot := Lib.hid (fun (h : Apart n a' b' a'.length b'.length) => h.not ha hb)
      clear ha hb
      have hla := hl'.len
      have hlb := hr'.len
      go_wp2_with fail
      go_loopw [7] (fun i wr => ∃ k : Nat, k ≤ m' ∧ i = .int .i64 k ∧ Apart n a' b' k b'.length ∧ Below w.heap.size w wr) (fun i _ => m' - (intOf i).toNat)
      case atStart => exact ⟨0, Nat.zero_le _, rfl, fun s t h => absurd h (Nat.not_lt_zero _), Below.refl _ _⟩
      case round =>
        obtain ⟨k, hk, rfl, hap, hb⟩ := hrel
        by_cases hlt : k < m'
        · obtain ⟨ad, rfl, hca⟩ := hl'.at_ hlt
          have Hap := Lib.hid (fun h => hap.next h)
          clear hap
          generalize a'[k]?.getD 0 = x at *
          go_wp2_with fail
          go_loopw [8] (fun j wr' => ∃ t : Nat, t ≤ p' ∧ j = .int .i64 t ∧ ApartR n x b' t ∧ Below w.heap.size w wr') (fun j _ => p' - (intOf j).toNat)
          case atStart => exact ⟨0, Nat.zero_le _, rfl, fun t h => absurd h (Nat.not_lt_zero _), hb⟩
          case round =>
            clear hb
            obtain ⟨t, ht, rfl, hax, hb⟩ := hrel
            rename World => wj
            by_cases htp : t < p'
            · obtain ⟨bd, rfl, hcb⟩ := hr'.at_ htp
              have Hax := Lib.hid (fun h => hax.next h)
              clear hax
              have hc1 := (hb.cell (lt_of_cell hca)).trans hca
              have hc2 := (hb.cell (lt_of_cell hcb)).trans hcb
              generalize b'[t]?.getD 0 = y at *
              clear hca hcb
              by_cases hxy : x = y
              · subst hxy
                have e1 := beq_self_eq_true x
                by_cases h1 : 1 ≤ x
                · by_cases h2 : x ≤ n
                  · go_wp2_with fail
                    go_quiet (fail)
                    go_wp2_with fail
                    refine (lives_any _).mono ?_
                    rintro e w3 ⟨rfl, hb3⟩
                    have hb3 := below_then (below_drewN hb _) hb3 (Nat.le_refl _)
                    go_wp2_with fail
                    go_ret
                    exact ⟨rfl, hb3⟩
                  · have hax := Hax.out (fun h => h2 h.2.2)
                    go_wp2_with fail
                    go_quiet (fail)
                    go_wp2_with fail
                    go_roundw
                    case rel => exact ⟨t + 1, by omega, by go_num, hax, below_drewN hb _⟩
                    case measure => simp [intOf]; omega
                · have hax := Hax.out (fun h => h1 h.2.1)
                  have e3 := decide_eq_false h1
                  go_wp2_with fail
                  go_quiet (fail)
                  go_wp2_with fail
                  go_roundw
                  case rel => exact ⟨t + 1, by omega, by go_num, hax, below_drewN hb _⟩
                  case measure => simp [intOf]; omega
              · have hax := Hax.out (fun h => hxy h.1)
                have e1 := beq_eq_false_iff_ne.2 hxy
                go_wp2_with fail
                go_quiet (fail)
                go_wp2_with fail
                go_roundw
                case rel => exact ⟨t + 1, by omega, by go_num, hax, below_drewN hb _⟩
                case measure => simp [intOf]; omega
            · have hap := Hap.out (by rw [show b'.length = t by omega]; exact hax)
              go_wp2_with fail
              go_roundw
              case rel => exact ⟨k + 1, by omega, by go_num, hap, hb⟩
              case measure => simp [intOf]; omega
        · exact (Hnot.out (by rw [show a'.length = k by omega]; exact hap)).elim
end Go.Proofs.Ytkgcccllabofoaa
