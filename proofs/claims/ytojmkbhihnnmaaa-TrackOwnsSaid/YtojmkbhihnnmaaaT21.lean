/-
  The answer's track: Slice.
-/
import Derived.Test.YtojmkbhihnnmaaaT20
namespace Go.Proofs.Ytojmkbhihnnmaaa
open Go.RowKit

/-- what Slice has put together behind j rounds -/
def sl (zs : List (Value × En)) (on : Bool) (k nn j : Nat) : List (Value × En) := if on then ((zs.take j).drop k).take nn else []
theorem sl_yes {zs : List (Value × En)} {k nn j : Nat} {z : Value × En} (hz : zs[j]? = some z) (hk : k ≤ j) (hn : (sl zs true k nn j).length < nn) : sl zs true k nn (j + 1) = sl zs true k nn j ++ [z] := by
  have hj := (List.getElem?_eq_some_iff.1 hz).1
  unfold sl at *
  simp only [if_true] at *
  have hl : ((zs.take j).drop k).length = j - k := by rw [List.length_drop, List.length_take, Nat.min_eq_left (by omega)]
  have hl2 : (((zs.take j).drop k).take nn).length = min nn (j - k) := by rw [List.length_take, hl]
  rw [hl2] at hn
  rw [take_next hz, List.drop_append_of_le_length (by rw [List.length_take, Nat.min_eq_left (by omega)]; exact hk), List.take_append, hl]
  rw [List.take_of_length_le (l := [z]) (by simp; omega)]
theorem sl_full {zs : List (Value × En)} {k nn j : Nat} (hn : ¬ (sl zs true k nn j).length < nn) : sl zs true k nn (j + 1) = sl zs true k nn j := by
  unfold sl at *
  simp only [if_true] at *
  rcases Nat.lt_or_ge j zs.length with hj | hj
  · have hl : ((zs.take j).drop k).length = j - k := by rw [List.length_drop, List.length_take, Nat.min_eq_left (by omega)]
    have hl2 : (((zs.take j).drop k).take nn).length = min nn (j - k) := by rw [List.length_take, hl]
    rw [hl2] at hn
    rcases Nat.lt_or_ge j k with h | h
    · have : nn = 0 := by omega
      subst this
      simp
    · rw [take_next (List.getElem?_eq_getElem hj), List.drop_append_of_le_length (by rw [List.length_take, Nat.min_eq_left (by omega)]; exact h), List.take_append, hl, show nn - (j - k) = 0 by omega]
      simp
  · have e1 : zs.take (j + 1) = zs := List.take_of_length_le (by omega)
    have e2 : zs.take j = zs := List.take_of_length_le (by omega)
    rw [e1, e2]
theorem sl_early {zs : List (Value × En)} {k nn j : Nat} (h : j ≤ k) : sl zs true k nn j = [] := by
  unfold sl
  rw [if_pos rfl, List.drop_eq_nil_of_le (by rw [List.length_take]; omega), List.take_nil]
theorem sl_sub {zs : List (Value × En)} {on : Bool} {k nn j : Nat} : ∀ z ∈ sl zs on k nn j, z ∈ zs := fun z hz => by
  unfold sl at hz
  split at hz
  · exact List.mem_of_mem_take (List.mem_of_mem_drop (List.mem_of_mem_take hz))
  · cases hz
section
variable {S : Nat → Prop} {w w' : World} {g n c : Nat} {t : Trk} {A : Option Addr} {zs : List (Value × En)}
theorem RefIn.z_one (h : RefIn S w g t A n c zs) : ∀ z ∈ zs, z.1.oneCell' = true := h.d.one
theorem sl_map {on : Bool} {k nn : Nat} {i m : Int} (hl : zs.map (·.2) = t.L) (ho : on = decide (t.index < i)) (hk : on = true → (i - t.index - 1) = k) (hn : m.toNat = nn) : (sl zs on k nn zs.length).map (·.2) = t.sliceF i m := by
  unfold sl Trk.sliceF
  by_cases h : t.index < i
  · rw [decide_eq_true h] at ho
    rw [if_pos ho, List.take_of_length_le (Nat.le_refl _), List.map_take, List.map_drop, hl]
    by_cases h1 : m < 1
    · rw [if_pos (.inr h1), show nn = 0 by omega]; rfl
    · rw [if_neg (by omega), hk ho, hn]; rfl
  · rw [decide_eq_false h] at ho
    subst ho
    rw [if_pos (show i ≤ t.index ∨ m < 1 from .inl (by omega))]; rfl
set_option maxRecDepth 100000 in
theorem rslice_any (i m : Int) (h : RefIn S w g t A n c zs) (hn : n ≤ 1000000) : Calls Try.prog 68 #[.pointer (some ⟨g, 0, none⟩), .int .i64 i, .int .i64 m] w fun e w' => ∃ (A' : Option Addr) (n' c' : Nat) (zs' : List (Value × En)), e = .returned (.slice A' n' c') ∧ w'.ownsRow w.heap.size 65 6 (.slice A' n' c') n' (zs'.flatMap enC) ∧ (∀ z ∈ zs', z ∈ zs) ∧ zs'.map (·.2) = t.sliceF i m ∧ Below w.heap.size w w' := by
  have hzl := Lib.hid h.len.2
  obtain ⟨on, hon⟩ : ∃ on, decide (t.index < i) = on := ⟨_, rfl⟩
  obtain ⟨k, hk⟩ : ∃ k : Nat, (i - t.index - 1).toNat = k := ⟨_, rfl⟩
  obtain ⟨nn, hnn⟩ : ∃ nn : Nat, m.toNat = nn := ⟨_, rfl⟩
  have hmap := Lib.hid (sl_map (on := on) (k := k) (nn := nn) (i := i) (m := m) h.l hon.symm (fun h => by rw [h, decide_eq_true_eq] at hon; omega) hnn)
  have hth : ∀ j : Nat, (on && decide (k < j)) = (on && decide (k < j)) := fun _ => rfl
  go_enter Try.func68, Try.ntmps68
  go_wp2_with fail
  go_loopw [7, 8, 9] (fun o th i' wr => ∃ (j : Nat) (A' : Option Addr) (q c' : Nat) (b : Bool), j ≤ n ∧ i' = .int .i64 j ∧ o = .slice A' q c' ∧ th = .bool b ∧ b = (on && decide (k < j)) ∧ wr.ownsRow w.heap.size 65 6 (.slice A' q c') q ((sl zs on k nn j).flatMap enC) ∧ Below w.heap.size w wr) (fun _ _ i' _ => n - (intOf i').toNat)
  case atStart => exact ⟨0, none, 0, 0, false, Nat.zero_le _, rfl, rfl, rfl, by simp, by
      have e : sl zs on k nn 0 = [] := by unfold sl; cases on <;> simp
      rw [e]; exact own_nil _ _, Below.refl _ _⟩
  case round =>
    obtain ⟨j, A', q, c', b, hj, rfl, rfl, rfl, hb, hown, hbw⟩ := hrel
    have h' := h.below hbw
    obtain ⟨h0, h1, h2⟩ := h'.cells
    by_cases hlt : j < n
    · obtain ⟨ad, B1, m1, d1, x, rfl, hz, hx, c0, c1, c2, c3, c4, c5⟩ := h'.at_ hlt
      have hxi := h.i.idx _ _ hx
      have hmeas := Lib.hid (show n - (j + 1) < n - j by omega)
      have hql : (sl zs on k nn j).length = q := by
        have := hown.1
        rw [flat_len enC_len] at this
        omega
      have hbA : Below wr.heap.size wr (wr.alloc (.cells #[.int .i64 x.idx, .int .i64 x.term, .int .i64 x.op, .int .i64 x.sess, .int .i64 x.seq, .slice B1 m1 d1] 65)) := (Below.refl _ _).alloc (Nat.le_refl _) _
      have hown2 := own_below hown hbA
      have hbw2 := below_then hbw hbA (Nat.le_refl _)
      have hblk := Blk.new wr 65 (enC (.slice B1 m1 d1, x)).toArray
      have hq1 : q + 1 ≤ 1000000000 := by
        have : (sl zs on k nn j).length ≤ n := by
          unfold sl
          split
          · rw [List.length_take, List.length_drop, List.length_take]; omega
          · exact Nat.zero_le _
        omega
      -- is it there?
      have hcase : (b = true ∧ on = true ∧ k < j) ∨ (b = false ∧ on = true ∧ k = j ∧ (x.idx == i) = true) ∨ (b = false ∧ (on && decide (k < j + 1)) = false ∧ (x.idx == i) = false ∧ sl zs on k nn (j + 1) = sl zs on k nn j) := by
        cases on with
        | false =>
          rw [decide_eq_false_iff_not] at hon
          exact .inr (.inr ⟨by simpa using hb, rfl, beq_eq_false_iff_ne.2 (by omega), rfl⟩)
        | true =>
          rw [decide_eq_true_eq] at hon
          rcases Nat.lt_trichotomy k j with h3 | h3 | h3
          · exact .inl ⟨by rw [hb, decide_eq_true h3]; rfl, rfl, h3⟩
          · exact .inr (.inl ⟨by rw [hb, decide_eq_false (by omega)]; rfl, rfl, h3, beq_iff_eq.2 (by omega)⟩)
          · refine .inr (.inr ⟨by rw [hb, decide_eq_false (by omega)]; rfl, by rw [decide_eq_false (by omega)]; rfl, beq_eq_false_iff_ne.2 (by omega), ?_⟩)
            rw [sl_early (by omega), sl_early (by omega)]
      rcases hcase with ⟨hb1, h3, h4⟩ | ⟨hb1, h3, h4, hidx⟩ | ⟨hb1, h3, hidx, h4⟩
      · subst h3
        rw [hb1]
        have hbn := Lib.hid (show true = (true && decide (k < j + 1)) by rw [decide_eq_true (by omega)]; rfl)
        clear hb hb1
        by_cases hqn : (q : Int) < m
        · have hsl := Lib.hid (sl_yes (nn := nn) hz (show k ≤ j by omega) (by rw [hql]; omega))
          clear hz hx hxi hql hown hbw
          go_wp2_with (at_builtin; refine wpList_append_es rfl (.tmp 39) (.tmp 47) rfl w.heap.size rfl hown2 rfl (RdE.one hblk) (fun y hy => by rw [List.mem_singleton.1 hy]; rfl) hq1 hbw2.size ?_; intro A6 c6 w6 hown6 hfr6 hb6 hrow6)
          exact ⟨⟨j + 1, A6, q + 1, c6, true, hlt, by go_num, rfl, rfl, hbn.out, by rw [hsl.out]; exact hown6, hbw2.trans hb6⟩, by simp [intOf]; exact hmeas.out⟩
        · have hsl := Lib.hid (sl_full (nn := nn) (j := j) (zs := zs) (k := k) (by rw [hql]; omega))
          clear hz hx hxi hql hown2 hbw2
          go_wp2_with fail
          exact ⟨⟨j + 1, A', q, c', true, hlt, by go_num, rfl, rfl, hbn.out, by rw [hsl.out]; exact hown, hbw⟩, by simp [intOf]; exact hmeas.out⟩
      · subst h3
        rw [hb1]
        have hbn := Lib.hid (show true = (true && decide (k < j + 1)) by rw [decide_eq_true (by omega)]; rfl)
        clear hb hb1
        by_cases hqn : (q : Int) < m
        · have hsl := Lib.hid (sl_yes (nn := nn) hz (show k ≤ j by omega) (by rw [hql]; omega))
          clear hz hx hxi hql hown hbw
          go_wp2_with (at_builtin; refine wpList_append_es rfl (.tmp 39) (.tmp 47) rfl w.heap.size rfl hown2 rfl (RdE.one hblk) (fun y hy => by rw [List.mem_singleton.1 hy]; rfl) hq1 hbw2.size ?_; intro A6 c6 w6 hown6 hfr6 hb6 hrow6)
          exact ⟨⟨j + 1, A6, q + 1, c6, true, hlt, by go_num, rfl, rfl, hbn.out, by rw [hsl.out]; exact hown6, hbw2.trans hb6⟩, by simp [intOf]; exact hmeas.out⟩
        · have hsl := Lib.hid (sl_full (nn := nn) (j := j) (zs := zs) (k := k) (by rw [hql]; omega))
          clear hz hx hxi hql hown2 hbw2
          go_wp2_with fail
          exact ⟨⟨j + 1, A', q, c', true, hlt, by go_num, rfl, rfl, hbn.out, by rw [hsl.out]; exact hown, hbw⟩, by simp [intOf]; exact hmeas.out⟩
      · rw [hb1]
        have h4 := Lib.hid h4
        have h3 := Lib.hid h3
        clear hz hx hxi hql hown2 hbw2 hb hb1
        go_wp2_with fail
        exact ⟨⟨j + 1, A', q, c', false, hlt, by go_num, rfl, rfl, h3.out.symm, by rw [h4.out]; exact hown, hbw⟩, by simp [intOf]; exact hmeas.out⟩
    · obtain rfl : j = n := by omega
      clear hb
      go_wp2_with fail
      go_ret
      exact ⟨A', q, c', _, rfl, hown, sl_sub, by have := hmap.out; rw [hzl.out] at this; exact this, hbw⟩
end
end Go.Proofs.Ytojmkbhihnnmaaa
