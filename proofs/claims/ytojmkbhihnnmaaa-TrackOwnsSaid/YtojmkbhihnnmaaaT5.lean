/-
  The track: numbers and texts as bytes; of the bytes only how many they are is told.
-/
import Derived.Test.YtojmkbhihnnmaaaT4
import Derived.ArgAppend
import Derived.Laws.Shifts
namespace Go.Proofs.Ytojmkbhihnnmaaa
open Go.RowKit

theorem u8_info : (Try.prog.info? 5).map (fun i => (i.zero, i.size, i.bytes)) = some (some (.int .u8 0), 1, 1) := by kernel_rfl
/-- bytes whose room is used up, or bytes of the call's own -/
def Bx (B : Nat) (w : World) (v : Value) (n : Nat) : Prop :=
  ∃ xs, (∀ u ∈ xs, u.oneCell' = true) ∧ ((∃ A, v = .slice A n n ∧ Rds w 1 A n xs) ∨ w.ownsRow B 5 1 v n xs)
theorem Bx.below {B n : Nat} {w w' : World} {v : Value} (h : Bx B w v n) (hb : Below w.heap.size w w') : Bx B w' v n := by
  obtain ⟨xs, h1, h2 | h2⟩ := h
  · obtain ⟨A, e, hr⟩ := h2
    exact ⟨xs, h1, .inl ⟨A, e, hr.below hb⟩⟩
  · exact ⟨xs, h1, .inr (own_below h2 hb)⟩
/-- bytes of the call's own, so many -/
def By (B : Nat) (w : World) (v : Value) (n : Nat) : Prop := ∃ xs, (∀ u ∈ xs, u.oneCell' = true) ∧ w.ownsRow B 5 1 v n xs
theorem By.bx {B n : Nat} {w : World} {v : Value} (h : By B w v n) : Bx B w v n := by
  obtain ⟨xs, h1, h2⟩ := h
  exact ⟨xs, h1, .inr h2⟩
theorem By.below {B n : Nat} {w w' : World} {v : Value} (h : By B w v n) (hb : Below w.heap.size w w') : By B w' v n := by
  obtain ⟨xs, h1, h2⟩ := h
  exact ⟨xs, h1, own_below h2 hb⟩
theorem By.mono {B B' n : Nat} {w : World} {v : Value} (h : By B w v n) (hb : B' ≤ B) : By B' w v n := by
  obtain ⟨xs, h1, h2⟩ := h
  exact ⟨xs, h1, own_mono h2 hb⟩
theorem By.form {B n : Nat} {w : World} {v : Value} (h : By B w v n) : ∃ A c, v = .slice A n c ∧ n ≤ c ∧ c ≤ maxLen ∧ ∃ xs, (∀ u ∈ xs, u.oneCell' = true) ∧ Rds w 1 A n xs := by
  obtain ⟨xs, h1, h2⟩ := h
  obtain ⟨A, c, rfl, h3, h4⟩ := own_form h2
  exact ⟨A, c, rfl, h3, h4, xs, h1, Rds.of_own h2⟩
/-- bytes that may be read -/
def Bn (w : World) (v : Value) (n : Nat) : Prop := ∃ A c xs, v = .slice A n c ∧ n ≤ c ∧ c ≤ maxLen ∧ (∀ u ∈ xs, u.oneCell' = true) ∧ Rds w 1 A n xs
theorem By.bn {B n : Nat} {w : World} {v : Value} (h : By B w v n) : Bn w v n := by
  obtain ⟨A, c, e, h1, h2, xs, h3, h4⟩ := h.form
  exact ⟨A, c, xs, e, h1, h2, h3, h4⟩
theorem Bn.nil (w : World) : Bn w (.slice none 0 0) 0 := ⟨none, 0, [], rfl, Nat.le_refl _, Nat.zero_le _, fun _ h => (by cases h), Rds.none_⟩
/-- one byte more -/
theorem wpList_append_x {w : World} {ops : Array Oper} {rest : List Oper} {o : Oper} {a : Act} {Q : Exit → Act → World → Prop} (hgd : o.guard = none) (s x : Operand)
    (ho : o.op = .call { callee := .builtin .append, args := #[s, x], argTypes := #[61, 61] })
    (B : Nat) {v : Value} {n : Nat} (hs : a.eval s = v) (hv : Bx B w v n) (g : Nat) (u : Value) (hx : a.eval x = .slice (some ⟨g, 0, none⟩) 1 1) (hg : Blk w g 5 #[u]) (hu : u.oneCell' = true) (hb : n ≤ 100000000) (hB : B ≤ w.heap.size)
    (h : ∀ v' w', By B w' v' (n + 1) → Below B w w' → wpList Try.prog ops Q rest (a.put o.dst v') w') : wpList Try.prog ops Q (o :: rest) a w := by
  obtain ⟨i0, hi0, hz0, hz1, hz2⟩ := info_parts u8_info
  have hr : Rds w 1 (some ⟨g, 0, none⟩) 1 [u] := ⟨rfl, fun _ => ⟨_, rfl, fun j y hy => by
    have e : (⟨g, 0, none⟩ : Addr).add j = ⟨g, j, none⟩ := by unfold Addr.add; split <;> simp [*]
    rw [e, hg.cell j, ← hy]
    simp⟩⟩
  obtain ⟨xs, h1, h2 | h2⟩ := hv
  · obtain ⟨A, rfl, hrd⟩ := h2
    have hnone : A = none → n = 0 ∧ n = 0 := fun e => by
      rcases Nat.eq_zero_or_pos n with h0 | h0
      · exact ⟨h0, h0⟩
      · obtain ⟨ad, e', _⟩ := hrd.2 h0
        rw [e] at e'; cases e'
    refine wpList_append_grows w hgd s x 61 ho 5 i0 _ 1 1 Try.underlying61 hi0 hz0 hz1 hz2 rfl (by omega) A n n xs hs hnone hrd.1 (fun b hb j y hy => ?_) ⟨g, 0, none⟩ 1 1 [u] hx rfl (fun j y hy => ?_) (fun y hy => by rw [List.mem_singleton.1 hy]; exact hu) (by omega) (by unfold maxLen; omega) (by omega) fun v' w' h3 h4 => h v' w' ⟨xs ++ [u], fun y hy => ?_, own_mono h3 hB⟩ ((Below.refl _ _).grown h4 hB (fun k hk => by cases hk))
    · have hl := (List.getElem?_eq_some_iff.1 hy).1
      have h0 : 0 < n := by have := hrd.1; omega
      obtain ⟨ad, e, hc⟩ := hrd.2 h0
      obtain rfl := Option.some.inj (hb.symm.trans e)
      exact hc j y hy
    · obtain ⟨ad, e, hc⟩ := hr.2 (by omega)
      obtain rfl := Option.some.inj e
      exact hc j y hy
    · rcases List.mem_append.1 hy with h5 | h5
      · exact h1 y h5
      · rw [List.mem_singleton.1 h5]; exact hu
  · refine wpList_append_any w hgd s x 61 ho B 5 i0 _ 1 1 Try.underlying61 hi0 hz0 hz1 hz2 rfl (by omega) v n xs hs h2 (some ⟨g, 0, none⟩) 1 1 [u] hx hr (fun y hy => by rw [List.mem_singleton.1 hy]; exact hu) (by unfold maxLen; omega) (by omega) hB fun A' c' w' h3 h4 _ => h _ w' ⟨xs ++ [u], fun y hy => ?_, h3⟩ (below_own h2 h4 hB)
    rcases List.mem_append.1 hy with h5 | h5
    · exact h1 y h5
    · rw [List.mem_singleton.1 h5]; exact hu
theorem clip_any (A : Option Addr) (n c : Nat) (w : World) (hn : n ≤ c) (_ : c ≤ maxLen) :
    Calls Try.prog 101 #[.slice A n c] w fun e w' => e = .returned (.slice A n n) ∧ w = w' := by
  go_enter Try.func101, Try.ntmps101
  go_wp2_with fail
  go_ret
  exact ⟨rfl, rfl⟩
theorem wrap_nat (z : Int) : ∃ x : Nat, IntKind.u64.wrap z = x ∧ x < 18446744073709551616 := by
  rw [IntKind.wrap_u64]
  exact ⟨(z % 18446744073709551616).toNat, by omega, by omega⟩
theorem bits_nat (op : BinOp) (x y : Int) : ∃ m : Nat, bits op .u64 x y = m ∧ m < 18446744073709551616 := by
  unfold bits
  exact wrap_nat _
theorem seven (x k : Nat) (h : x * 128 ^ k < 18446744073709551616) (hx : 128 ≤ x) : k + 1 ≤ 9 ∧ x / 128 * 128 ^ (k + 1) < 18446744073709551616 := by
  constructor
  · rcases Nat.lt_or_ge k 9 with h1 | h1
    · exact h1
    · exfalso
      have h2 : 128 ^ 9 ≤ 128 ^ k := Nat.pow_le_pow_right (by omega) h1
      have h3 : 128 * 128 ^ 9 ≤ x * 128 ^ k := Nat.mul_le_mul hx h2
      omega
  · refine Nat.lt_of_le_of_lt ?_ h
    rw [Nat.pow_succ, Nat.mul_comm (128 ^ k) 128, ← Nat.mul_assoc]
    exact Nat.mul_le_mul_right _ (Nat.div_mul_le_self x 128)
set_option maxRecDepth 100000 in
theorem putint_any (v : Value) (n : Nat) (z : Int) (w : World) (hv : Bn w v n) (hn : n ≤ 1000000) :
    Calls Try.prog 96 #[v, .int .i64 z] w fun e w' => ∃ v' n', e = .returned v' ∧ By w.heap.size w' v' n' ∧ n' ≤ n + 10 ∧ Below w.heap.size w w' := by
  obtain ⟨A, c, xs, rfl, h1, h2, h3, h4⟩ := hv
  have hbx0 : Bx w.heap.size w (.slice A n n) n := ⟨xs, h3, .inl ⟨A, rfl, h4⟩⟩
  clear h4 h3
  obtain ⟨x0, hx0, hl0⟩ := wrap_nat z
  obtain ⟨x1, hx1, hl1⟩ := wrap_nat (x0 * 2)
  obtain ⟨x2, hx2, hl2⟩ := bits_nat .xor IntKind.u64.max x1
  go_enter Try.func96, Try.ntmps96
  go_wp2_with fail
  refine wp_scope_jumps 0 (fun a' w' => ∃ (k x : Nat) (v u6 u7 u8 u9 u10 u11 u12 u13 u14 u15 u16 u17 u18 u19 u20 u21 u22 u23 u24 u25 u26 u27 u28 u29 : Value), a' = { tmps := #[v, .int .i64 z, undef, undef, .slice none 0 0, .int .u64 x, u6, u7, u8, u9, u10, u11, u12, u13, u14, u15, u16, u17, u18, u19, u20, u21, u22, u23, u24, u25, u26, u27, u28, u29], defers := [] } ∧ k ≤ 9 ∧ x * 128 ^ k < 18446744073709551616 ∧ Bx w.heap.size w' v (n + k) ∧ Below w.heap.size w w') (fun a' _ => (intOf (a'.tmps.getD 5 undef)).toNat) rfl ?_ ?_
  · go_wp2_with fail
    refine (clip_any _ _ _ _ h1 h2).mono ?_
    rintro e w1 ⟨rfl, rfl⟩
    have hbA := fun u : Value => (Below.refl w.heap.size w).alloc (Nat.le_refl _) (.cells #[u] 5)
    have hbx4 := fun u : Value => hbx0.below (hbA u)
    have hb4 := hbA
    by_cases hz : z < 0
    · have hx : x2 * 128 ^ 0 < 18446744073709551616 := by simp; omega
      go_wp2_with fail
      go_step3
      by_cases hg : 128 ≤ x2
      · obtain ⟨hk1, hx3⟩ := seven x2 0 hx hg
        have HX := Lib.hid hx3
        clear hx3 hx
        go_wp2_with (at_builtin; refine wpList_append_x rfl (.tmp 17) (.tmp 21) rfl w.heap.size rfl (hbx4 _) w.heap.size _ rfl (Blk.new _ _ _) rfl (by omega) (hb4 _).size ?_; intro v5 w5 hv5 hb5)
        go_step3
        refine ⟨rfl, 1, x2 / 128, v5, _, _, _, _, _, _, _, _, _, _, _, _, _, _, _, _, _, _, _, _, _, _, _, _, rfl, by omega, HX.out, hv5.bx, (hb4 _).trans hb5⟩
      · go_wp2_with (at_builtin; refine wpList_append_x rfl (.tmp 25) (.tmp 28) rfl w.heap.size rfl (hbx4 _) w.heap.size _ rfl (Blk.new _ _ _) rfl (by omega) (hb4 _).size ?_; intro v5 w5 hv5 hb5)
        simp only [Exit.jump]
        go_ret
        exact ⟨v5, _, rfl, hv5, by omega, (hb4 _).trans hb5⟩
    · have hx : x1 * 128 ^ 0 < 18446744073709551616 := by simp; omega
      go_wp2_with fail
      go_step3
      by_cases hg : 128 ≤ x1
      · obtain ⟨hk1, hx3⟩ := seven x1 0 hx hg
        have HX := Lib.hid hx3
        clear hx3 hx
        go_wp2_with (at_builtin; refine wpList_append_x rfl (.tmp 17) (.tmp 21) rfl w.heap.size rfl (hbx4 _) w.heap.size _ rfl (Blk.new _ _ _) rfl (by omega) (hb4 _).size ?_; intro v5 w5 hv5 hb5)
        go_step3
        refine ⟨rfl, 1, x1 / 128, v5, _, _, _, _, _, _, _, _, _, _, _, _, _, _, _, _, _, _, _, _, _, _, _, _, rfl, by omega, HX.out, hv5.bx, (hb4 _).trans hb5⟩
      · go_wp2_with (at_builtin; refine wpList_append_x rfl (.tmp 25) (.tmp 28) rfl w.heap.size rfl (hbx4 _) w.heap.size _ rfl (Blk.new _ _ _) rfl (by omega) (hb4 _).size ?_; intro v5 w5 hv5 hb5)
        simp only [Exit.jump]
        go_ret
        exact ⟨v5, _, rfl, hv5, by omega, (hb4 _).trans hb5⟩
  · rintro a' wr ⟨k, x, v, u6, u7, u8, u9, u10, u11, u12, u13, u14, u15, u16, u17, u18, u19, u20, u21, u22, u23, u24, u25, u26, u27, u28, u29, rfl, hk, hx, hbx, hb⟩
    have hxl : x < 18446744073709551616 := by
      have := Nat.le_mul_of_pos_right x (Nat.pow_pos (n := k) (show 0 < 128 by omega))
      omega
    have hbA := fun u : Value => (Below.refl wr.heap.size wr).alloc (Nat.le_refl _) (.cells #[u] 5)
    have hbx4 := fun u : Value => hbx.below (hbA u)
    have hb4 := fun u : Value => below_then hb (hbA u) (Nat.le_refl _)
    by_cases hg : 128 ≤ x
    · obtain ⟨hk1, hx1⟩ := seven x k hx hg
      have HX := Lib.hid hx1
      clear hx1 hx
      go_wp2_with (at_builtin; refine wpList_append_x rfl (.tmp 17) (.tmp 21) rfl w.heap.size rfl (hbx4 _) wr.heap.size _ rfl (Blk.new _ _ _) rfl (by omega) (hb4 _).size ?_; intro v5 w5 hv5 hb5)
      go_step3
      refine ⟨rfl, ⟨k + 1, x / 128, v5, _, _, _, _, _, _, _, _, _, _, _, _, _, _, _, _, _, _, _, _, _, _, _, _, rfl, by omega, HX.out, hv5.bx, (hb4 _).trans hb5⟩, ?_⟩
      simp [intOf]
      omega
    · go_wp2_with (at_builtin; refine wpList_append_x rfl (.tmp 25) (.tmp 28) rfl w.heap.size rfl (hbx4 _) wr.heap.size _ rfl (Blk.new _ _ _) rfl (by omega) (hb4 _).size ?_; intro v5 w5 hv5 hb5)
      simp only [Exit.jump]
      go_ret
      exact ⟨v5, _, rfl, hv5, by omega, (hb4 _).trans hb5⟩
end Go.Proofs.Ytojmkbhihnnmaaa
