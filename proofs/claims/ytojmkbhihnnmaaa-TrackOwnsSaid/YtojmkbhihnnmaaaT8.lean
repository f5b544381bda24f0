/-
  The track's answer: numbers and texts as bytes.
-/
import Derived.Test.YtojmkbhihnnmaaaT7
namespace Go.Proofs.Ytojmkbhihnnmaaa
open Go.RowKit

theorem RdI.one (w : World) (y : Int) : RdI (w.alloc (.cells #[.int .i64 y] 3)) (some ⟨w.heap.size, 0, none⟩) 1 [y] := RdI.lit _ _ _ [y] _ 1 _ rfl rfl rfl
/-- ints of the call's own, so many -/
def OwnI (B : Nat) (w : World) (v : Value) (n : Nat) : Prop := ∃ (A : Option Addr) (c : Nat) (l : List Int), v = .slice A n c ∧ w.ownsRow B 3 1 (.slice A n c) n (l.map vi)
set_option maxRecDepth 100000 in
theorem double_any (z : Int) (w : World) : Calls Try.prog 85 #[.int .i64 z] w fun e w' => ∃ v, e = .returned v ∧ OwnI w.heap.size w' v 64 ∧ Below w.heap.size w w' := by
  have hbA := fun y : Int => (Below.refl w.heap.size w).alloc (Nat.le_refl _) (.cells #[.int .i64 y] 3)
  have h0 : ∀ y : Int, (w.alloc (.cells #[.int .i64 y] 3)).ownsRow w.heap.size 3 1 (.slice none 0 0) 0 (([] : List Int).map vi) := fun _ => own_nil _ _
  by_cases hz : z < 0
  all_goals
    go_enter Try.func85, Try.ntmps85
    go_wp2_with (first
      | (at_builtin; refine wpList_append_is rfl (.tmp 13) (.tmp 14) rfl w.heap.size rfl (h0 _) rfl (RdI.one _ _) (by omega) (hbA _).size ?_; intro A1 c1 w1 hown1 hg1 hb1)
      | (at_builtin; refine wpList_append_is rfl (.tmp 16) (.tmp 17) rfl w.heap.size rfl (h0 _) rfl (RdI.one _ _) (by omega) (hbA _).size ?_; intro A1 c1 w1 hown1 hg1 hb1)
      | fail)
    have hb01 := (hbA _).trans hb1
    go_loopw [0, 4, 5] (fun n o i wr => ∃ (k : Nat) (y : Int) (A : Option Addr) (c : Nat) (l : List Int), k ≤ 63 ∧ i = .int .i64 k ∧ n = .int .i64 y ∧ o = .slice A (k + 1) c ∧ wr.ownsRow w.heap.size 3 1 (.slice A (k + 1) c) (k + 1) (l.map vi) ∧ Below w.heap.size w wr) (fun _ _ i _ => 63 - (intOf i).toNat)
    case atStart => exact ⟨0, _, A1, c1, _, Nat.zero_le _, rfl, rfl, rfl, hown1, hb01⟩
    case round =>
      clear hown1 hb1 hb01 hg1
      obtain ⟨k, y, A, c, l, hk, rfl, rfl, rfl, hown, hb⟩ := hrel
      have hbB := fun y : Int => (Below.refl wr.heap.size wr).alloc (Nat.le_refl _) (.cells #[.int .i64 y] 3)
      have hown2 := fun y : Int => own_below hown (hbB y)
      have hb2 := fun y : Int => below_then hb (hbB y) (Nat.le_refl _)
      by_cases hlt : k < 63
      · have hmeas := Lib.hid (show 63 - (k + 1) < 63 - k by omega)
        go_wp2_with (at_builtin; refine wpList_append_is rfl (.tmp 23) (.tmp 26) rfl w.heap.size rfl (hown2 _) rfl (RdI.one _ _) (by omega) (hb2 _).size ?_; intro A3 c3 w3 hown3 hg3 hb3)
        go_roundw
        case rel => exact ⟨k + 1, _, A3, c3, _, hlt, by go_num, rfl, rfl, hown3, (hb2 _).trans hb3⟩
        case measure => simp [intOf]; omega
      · obtain rfl : k = 63 := by omega
        go_wp2_with fail
        go_ret
        exact ⟨_, rfl, ⟨A, c, l, rfl, hown⟩, hb⟩
theorem OwnI.below {B n : Nat} {w w' : World} {v : Value} (h : OwnI B w v n) (hb : Below w.heap.size w w') : OwnI B w' v n := by
  obtain ⟨A, c, l, e, h⟩ := h
  exact ⟨A, c, l, e, own_below h hb⟩
/-- the bytes, in a row of its own -/
theorem wpList_append_bn {w : World} {ops : Array Oper} {rest : List Oper} {o : Oper} {a : Act} {Q : Exit → Act → World → Prop} (hgd : o.guard = none) (s x : Operand)
    (ho : o.op = .call { callee := .builtin .append, args := #[s, x], argTypes := #[61, 61] })
    (B : Nat) (hs : a.eval s = .slice none 0 0) {v : Value} {n : Nat} (hx : a.eval x = v) (hv : Bn w v n) (hb : n ≤ 100000000) (hB : B ≤ w.heap.size)
    (h : ∀ v' w', By B w' v' n → Below B w w' → wpList Try.prog ops Q rest (a.put o.dst v') w') : wpList Try.prog ops Q (o :: rest) a w := by
  obtain ⟨i0, hi0, hz0, hz1, hz2⟩ := info_parts u8_info
  obtain ⟨A, c, xs, rfl, _, _, h1, hr⟩ := hv
  refine wpList_append_any w hgd s x 61 ho B 5 i0 _ 1 1 Try.underlying61 hi0 hz0 hz1 hz2 rfl (by omega) (.slice none 0 0) 0 [] hs (own_nil _ _) A n c xs hx hr h1 (by unfold maxLen; omega) (by omega) hB fun A' c' w' h3 h4 _ => ?_
  rw [Nat.zero_add, List.nil_append] at h3
  rw [Nat.zero_add]
  exact h _ w' ⟨xs, h1, h3⟩ (below_own (own_nil B 5 (size := 1)) h4 hB)
set_option maxRecDepth 100000 in
set_option maxHeartbeats 1000000 in
theorem refputint_any (v : Value) (n : Nat) (z : Int) (w : World) (hv : Bn w v n) (hn : n ≤ 1000000) :
    Calls Try.prog 72 #[v, .int .i64 z] w fun e w' => ∃ v' n', e = .returned v' ∧ By w.heap.size w' v' n' ∧ n' ≤ n + 10 ∧ Below w.heap.size w w' := by
  go_enter Try.func72, Try.ntmps72
  go_wp2_with fail
  refine (double_any _ _).mono ?_
  rintro e w1 ⟨vd, rfl, ⟨Ad, cd, ld, rfl, hown⟩, hb1⟩
  have hrd : RdI w1 Ad 64 ld := RdI.of_own hown
  go_wp2_with fail
  go_loop [6, 7] (fun t i => ∃ k q : Nat, k ≤ 64 ∧ i = .int .i64 k ∧ q ≤ 63 ∧ t = .int .i64 q) (fun _ i => 64 - (intOf i).toNat)
  case atStart => exact ⟨0, 0, by omega, rfl, by omega, rfl⟩
  case round =>
    obtain ⟨k, q, hk, rfl, hq, rfl⟩ := hrel
    by_cases hlt : k < 64
    · obtain ⟨ad, rfl, hc⟩ := hrd.at_ hlt
      have hmeas := Lib.hid (show 64 - (k + 1) < 64 - k by omega)
      by_cases h1 : ld[k]?.getD 0 = 1
      · rw [h1] at hc
        clear h1
        go_wp2_with fail
        go_round
        case rel => exact ⟨k + 1, k, hlt, by go_num, by omega, rfl⟩
        case measure => simp [intOf]; omega
      · have h2 : (ld[k]?.getD 0 == 1) = false := beq_eq_false_iff_ne.2 h1
        generalize ld[k]?.getD 0 = y at *
        go_wp2_with fail
        go_round
        case rel => exact ⟨k + 1, q, hlt, by go_num, hq, rfl⟩
        case measure => simp [intOf]; omega
    · obtain rfl : k = 64 := by omega
      have hbn := hv.below hb1
      have hq7 : q / 7 ≤ 9 := by omega
      go_wp2_with (at_builtin; refine wpList_append_bn rfl (.tmp 24) (.tmp 25) rfl w1.heap.size rfl rfl hbn (by omega) (Nat.le_refl _) ?_; intro v2 w2 hy2 hb2)
      go_loopw [8, 9] (fun b i wr => ∃ (g m : Nat), g ≤ q / 7 + 1 ∧ i = .int .i64 g ∧ By w1.heap.size wr b m ∧ m ≤ n + g ∧ Below w1.heap.size w1 wr) (fun _ i _ => q / 7 + 1 - (intOf i).toNat)
      case atStart => exact ⟨0, n, by omega, rfl, hy2, by omega, hb2⟩
      case round =>
        obtain ⟨g, m, hg, rfl, hyb, hm, hbw⟩ := hrel
        have hrw := RdI.below hrd hbw
        have hbA := fun u : Value => (Below.refl wr.heap.size wr).alloc (Nat.le_refl _) (.cells #[u] 5)
        have hbx4 := fun u : Value => hyb.bx.below (hbA u)
        have hb4 := fun u : Value => below_then hbw (hbA u) (Nat.le_refl _)
        have hm1 : m ≤ 100000000 := by omega
        by_cases hlt2 : g ≤ q / 7
        · have hlt3 : (g : Int) ≤ (q : Int) / 7 := by omega
          go_wp2_with fail
          go_loop [10, 11] (fun c k => ∃ (y : Int), c = .int .i64 y ∧ ((∃ j : Nat, j ≤ 6 ∧ k = .int .i64 j) ∨ k = .int .i64 (-1))) (fun _ k => (intOf k + 1).toNat)
          case atStart => exact ⟨0, rfl, .inl ⟨6, by omega, rfl⟩⟩
          case round =>
            obtain ⟨y, rfl, hj⟩ := hrel
            rcases hj with ⟨j, hj, rfl⟩ | rfl
            · have hnext : (∃ j' : Nat, j' ≤ 6 ∧ (Value.int .i64 ((j : Int) - 1)) = .int .i64 j') ∨ (Value.int .i64 ((j : Int) - 1)) = .int .i64 (-1) := by
                rcases Nat.eq_zero_or_pos j with h0 | h0
                · exact .inr (by rw [h0]; rfl)
                · exact .inl ⟨j - 1, by omega, by congr 1; omega⟩
              have hnext := Lib.hid hnext
              by_cases hin : 7 * g + j < 64
              · obtain ⟨ad, rfl, hc⟩ := hrw.at_ hin
                go_wp2_with fail
                exact ⟨⟨_, rfl, hnext.out⟩, by first | (simp [intOf]; done) | (simp [intOf]; omega)⟩
              · go_wp2_with fail
                go_round
                case rel => exact ⟨_, rfl, hnext.out⟩
                case measure => first | (simp [intOf]; done) | (simp [intOf]; omega)
            · go_wp2_with (at_builtin; refine wpList_append_x rfl (.tmp 59) (.tmp 62) rfl w1.heap.size rfl (hbx4 _) wr.heap.size _ rfl (Blk.new _ _ _) rfl hm1 (hb4 _).size ?_; intro v5 w5 hv5 hb5)
              all_goals
                go_roundw
                case rel => exact ⟨g + 1, m + 1, by omega, by go_num, hv5, by omega, (hb4 _).trans hb5⟩
                case measure => simp [intOf]; omega
        · have hlt3 : ¬ (g : Int) ≤ (q : Int) / 7 := by omega
          go_wp2_with fail
          go_ret
          exact ⟨_, rfl, m, hyb.mono hb1.size, by omega, hb1.trans (hbw.mono hb1.size)⟩
theorem refputtext_any (v : Value) (n : Nat) (s : ByteArray) (w : World) (hv : Bn w v n) (hn : n ≤ 900000) (hs : s.size ≤ 1000) :
    Calls Try.prog 93 #[v, .string s] w fun e w' => ∃ v' n', e = .returned v' ∧ By w.heap.size w' v' n' ∧ n' ≤ n + 10 + s.size ∧ Below w.heap.size w w' := by
  obtain ⟨i0, hi0, hz0, hz1, hz2⟩ := info_parts u8_info
  go_enter Try.func93, Try.ntmps93
  go_wp2_with fail
  refine (refputint_any v n _ w hv (by omega)).mono ?_
  rintro e w1 ⟨v1, n1, rfl, ⟨xs, hx, hown⟩, hn1, hb1⟩
  go_wp2_with (at_builtin; refine Lib.wpList_append_own_string _ rfl (.tmp 10) (.tmp 11) 61 9 rfl w.heap.size 5 i0 Try.underlying61 Try.underlying9 hi0 hz0 hz1 hz2 v1 n1 xs rfl hown s rfl (by unfold maxLen; omega) (by omega) hb1.size ?_; intro v2 w2 hown2 hg2 _)
  go_ret
  exact ⟨v2, _, rfl, ⟨_, fun u hu => (List.mem_append.1 hu).elim (hx u) (strCells_one s u), hown2⟩, by omega, hb1.trans (below_own hown hg2 hb1.size)⟩
theorem reftext_any (A : Option Addr) (n c : Nat) (p : List ByteArray) (w : World) (hr : RdT w A n p) (hp : mayP p = true) :
    Calls Try.prog 92 #[.slice A n c] w fun e w' => ∃ s : ByteArray, e = .returned (.tuple #[.string s, .int .i64 0]) ∧ s.size ≤ 39 ∧ Below w.heap.size w w' := by
  have hl := hr.len
  have h3 := mayP_len hp
  have hnm := Lib.hid (mayP_name hp)
  have hn3 : n ≤ 3 := by omega
  have hn4 : n ≤ maxLen := maxLen_big hn3 (by omega)
  have hl := Lib.hid hl
  by_cases h0 : n = 0
  · subst h0
    go_enter Try.func92, Try.ntmps92
    go_wp2_with fail
    refine (refmayp_any _ _ _ _ _ hr hn4).mono ?_
    rintro e w1 ⟨rfl, rfl⟩
    rw [hp]
    go_wp2_with fail
    go_ret2
    exact ⟨_, rfl, by decide, Below.refl _ _⟩
  · have h00 : ((n : Int) == 0) = false := beq_eq_false_iff_ne.2 (by omega)
    go_enter Try.func92, Try.ntmps92
    go_wp2_with fail
    refine (refmayp_any _ _ _ _ _ hr hn4).mono ?_
    rintro e w1 ⟨rfl, rfl⟩
    rw [hp]
    go_wp2_with fail
    go_loop [5, 6] (fun s i => ∃ (k : Nat) (t : ByteArray), k ≤ n ∧ i = .int .i64 k ∧ s = .string t ∧ t.size ≤ 13 * k) (fun _ i => n - (intOf i).toNat)
    case atStart => exact ⟨0, _, Nat.zero_le _, rfl, rfl, by decide⟩
    case round =>
      obtain ⟨k, t, hk, rfl, rfl, ht⟩ := hrel
      by_cases hlt : k < n
      · obtain ⟨ad, s, rfl, hsk, hc⟩ := hr.at_ hlt
        have hs12 := nameB_size (hnm.out s (List.mem_of_getElem? hsk))
        clear hsk
        by_cases hk0 : 0 < k
        all_goals
          go_wp2_with fail
          go_round
          case rel => exact ⟨k + 1, _, hlt, by go_num, rfl, by simp [ByteArray.size_append]; first | omega | (have e : (ByteArray.mk #[47]).size = 1 := rfl; omega)⟩
          case measure => simp [intOf]; omega
      · obtain rfl : k = n := by omega
        go_wp2_with fail
        go_ret2
        exact ⟨_, rfl, by omega, Below.refl _ _⟩
end Go.Proofs.Ytojmkbhihnnmaaa
