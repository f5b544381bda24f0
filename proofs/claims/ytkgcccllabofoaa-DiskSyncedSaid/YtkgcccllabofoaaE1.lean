/-
  The disk's answer: its small functions; a list of files in memory; find.
-/
import Derived.Test.YtkgcccllabofoaaD17
import Derived.Laws.Cover1
namespace Go.Proofs.Ytkgcccllabofoaa
open Go.RowKit Go.Maps

/-! may, rest, down -/
set_option maxRecDepth 100000 in
theorem refmay_any (s : ByteArray) (w : World) : Calls Try.prog 88 #[.string s] w fun e w' => e = .returned (.bool (mayF s)) ∧ w = w' := by
  by_cases hlen : 1 ≤ s.size ∧ s.size ≤ 24
  · obtain ⟨hl1, hl2⟩ := hlen
    go_enter Try.func88, Try.ntmps88
    go_wp2_with fail
    go_loop [3, 4] (fun i _ => ∃ k : Nat, k ≤ s.size ∧ i = .int .i64 k ∧ ∀ j (h : j < s.size), j < k → okB (s[j]'h).toNat = true) (fun i _ => s.size - (intOf i).toNat)
    case atStart => exact ⟨0, Nat.zero_le _, rfl, fun j _ h => absurd h (Nat.not_lt_zero _)⟩
    case round =>
      obtain ⟨k, hk, rfl, hok⟩ := hrel
      by_cases hlt : k < s.size
      · generalize hc : (s[k]'hlt).toNat = c at *
        have hcl : (okB c = false ∧ (c < 45 ∨ (45 < c ∧ c < 48) ∨ (57 < c ∧ c < 95) ∨ c = 96 ∨ 122 < c)) ∨ (okB c = true ∧ ((97 ≤ c ∧ c ≤ 122) ∨ (48 ≤ c ∧ c ≤ 57) ∨ c = 45 ∨ c = 95)) := by
          unfold okB
          simp only [Bool.or_eq_true, Bool.or_eq_false_iff, Bool.and_eq_true, Bool.and_eq_false_iff, decide_eq_true_eq, decide_eq_false_iff_not]
          omega
        rcases hcl with ⟨hb, h⟩ | ⟨hb, h⟩
        · have Hf := Lib.hid (show mayF s = false from decide_eq_false fun h => by have := h.2.2 k hlt; rw [hc, hb] at this; cases this)
          clear hb hok
          rcases h with h | ⟨h, h'⟩ | ⟨h, h'⟩ | h | h
          all_goals
            have e1 : ((c : Int) != 45) = true := bne_iff_ne.2 (by omega)
            have e2 : ((c : Int) != 95) = true := bne_iff_ne.2 (by omega)
            go_wp2_with fail
            all_goals first
              | (go_ret; exact ⟨by rw [Hf.out]; rfl, rfl⟩)
              | (exfalso; rename_i hx; simp at hx; omega)
        · have Hok := Lib.hid (show ∀ i (h : i < s.size), i < k + 1 → okB (s[i]'h).toNat = true from fun i hi hlt' => by
            rcases Nat.lt_succ_iff_lt_or_eq.1 hlt' with h | rfl
            · exact hok i hi h
            · rw [hc]; exact hb)
          clear hb hok
          rcases h with ⟨h, h'⟩ | ⟨h, h'⟩ | h | h
          all_goals
            go_wp2_with fail
            all_goals first
              | exact ⟨⟨k + 1, hlt, by go_num, Hok.out⟩, by simp [intOf]; omega⟩
              | (exfalso; rename_i hx; simp at hx; omega)
      · have Hf := Lib.hid (show mayF s = true from decide_eq_true ⟨hl1, hl2, fun i hi => hok i hi (by omega)⟩)
        clear hok
        go_wp2_with fail
        go_ret
        exact ⟨by rw [Hf.out]; rfl, rfl⟩
  · have Hf := Lib.hid (show mayF s = false from decide_eq_false fun h => hlen ⟨h.1, h.2.1⟩)
    rcases (show s.size < 1 ∨ (1 ≤ s.size ∧ 24 < s.size) by omega) with h | ⟨h, h'⟩
    all_goals
      go_enter Try.func88, Try.ntmps88
      go_wp2_with fail
      go_ret
      exact ⟨by rw [Hf.out]; rfl, rfl⟩
end Go.Proofs.Ytkgcccllabofoaa
