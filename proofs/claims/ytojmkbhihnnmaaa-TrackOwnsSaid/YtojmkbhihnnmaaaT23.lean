/-
  The answer's track: Drop.
-/
import Derived.Test.YtojmkbhihnnmaaaT22
namespace Go.Proofs.Ytojmkbhihnnmaaa
open Go.RowKit

section
variable {S : Nat → Prop} {w w' : World} {g n c : Nat} {t : Trk} {A : Option Addr} {zs : List (Value × En)}
theorem RefIn.setAll {w7 : World} {A7 : Option Addr} {n7 c7 : Nat} {zs7 : List (Value × En)} {L7 : List En} {i tm : Int} {base : Nat} (hk : Blk w7 g 78 #[.int .i64 t.index, .int .i64 t.term, .slice A n c])
    (ho : w7.ownsRow base 65 6 (.slice A7 n7 c7) n7 (zs7.flatMap enC)) (hd : DeepE S w7 zs7) (hl : zs7.map (·.2) = L7) (hi : Trk.Inv ⟨i, tm, L7⟩) (hS : ∀ j, S j → j ≠ g) :
    RefIn S (((w7.setCell ⟨g, 2, none⟩ (.slice A7 n7 c7)).setCell ⟨g, 0, none⟩ (.int .i64 i)).setCell ⟨g, 1, none⟩ (.int .i64 tm)) g ⟨i, tm, L7⟩ A7 n7 c7 zs7 := by
  have k2 := hk.set_ 2 (.slice A7 n7 c7)
  have k0 := k2.set_ 0 (.int .i64 i)
  have k1 := k0.set_ 1 (.int .i64 tm)
  have hF : Fr (fun j => j = g) w7 (((w7.setCell ⟨g, 2, none⟩ (.slice A7 n7 c7)).setCell ⟨g, 0, none⟩ (.int .i64 i)).setCell ⟨g, 1, none⟩ (.int .i64 tm)) := ((Fr.set g 2 _).trans (Fr.set g 0 _) fun _ h => .inl h).trans (Fr.set g 1 _) fun _ h => .inl h
  exact
  { b := by simpa using k1
    o := own_keep (own_mono ho (Nat.zero_le _)) fun j hj hl => hF.block j hl fun e => by
      obtain ⟨_, _, cs, h⟩ := own_row_blk ho A7 c7 rfl j hj
      exact blk_apart hk h (by decide) e
    d := hd.keep fun j hj hl => hF.block j hl (hS j hj)
    l := hl
    i := hi }
theorem dropTake_next {α : Type} {l : List α} {k j : Nat} {x : α} (h : l[j]? = some x) (hk : k ≤ j) : (l.take (j + 1)).drop k = (l.take j).drop k ++ [x] := by
  have hj := (List.getElem?_eq_some_iff.1 h).1
  rw [take_next h, List.drop_append_of_le_length (by rw [List.length_take, Nat.min_eq_left (by omega)]; exact hk)]
theorem dropTake_nil {α : Type} {l : List α} {k j : Nat} (hk : j ≤ k) : (l.take j).drop k = [] := List.drop_eq_nil_of_le (by rw [List.length_take]; omega)
set_option maxRecDepth 100000 in
theorem rdrop_any (i : Int) (h : RefIn S w g t A n c zs) (hn : n ≤ 1000000) (hS : ∀ j, S j → j ≠ g) : Calls Try.prog 66 #[.pointer (some ⟨g, 0, none⟩), .int .i64 i] w fun e w' => e = .returned (.int .i64 (t.dropF i).1) ∧ PostR S w g A (t.dropF i).2 w' := by
  have hterm := rterm_any i h hn
  have hinv := h.i.dropF i
  obtain ⟨v1, hv1⟩ : ∃ v, (t.termF i).1 = v := ⟨_, rfl⟩
  rcases termF_code t i with h2 | h2 | h2
  · have he := Lib.hid (show t.dropF i = (0, t) by unfold Trk.dropF; rw [h2]; rfl)
    rw [h2, hv1] at hterm
    clear hinv hv1 h2
    go_enter Try.func66, Try.ntmps66
    go_wp2_with fail
    refine hterm.mono ?_
    rintro e w1 ⟨rfl, rfl⟩
    go_wp2_with fail
    go_ret
    exact ⟨by rw [he.out]; rfl, by rw [he.out]; exact PostR.same h (Below.refl _ _)⟩
  · have he := Lib.hid (show t.dropF i = (33, t) by unfold Trk.dropF; rw [h2]; rfl)
    rw [h2, hv1] at hterm
    clear hinv hv1 h2
    go_enter Try.func66, Try.ntmps66
    go_wp2_with fail
    refine hterm.mono ?_
    rintro e w1 ⟨rfl, rfl⟩
    go_wp2_with fail
    go_ret
    exact ⟨by rw [he.out]; rfl, by rw [he.out]; exact PostR.same h (Below.refl _ _)⟩
  · obtain ⟨h5, h6, _⟩ := termF_in (t := t) (i := i) (term := (t.termF i).1) (by rw [← h2])
    rw [← h.len.1] at h6
    have hb := h.i.b
    obtain ⟨k, hk⟩ : ∃ k : Nat, i - t.index = k := ⟨(i - t.index).toNat, by omega⟩
    have he0 : t.dropF i = (0, ⟨i, v1, t.L.drop k⟩) := by
      unfold Trk.dropF
      rw [h2, hv1, hk]; rfl
    rw [he0] at hinv
    have he := Lib.hid he0
    rw [h2, hv1] at hterm
    have hkn : k ≤ n := by omega
    have hzl := Lib.hid h.len.2
    clear hv1 h2 he0
    go_enter Try.func66, Try.ntmps66
    go_wp2_with fail
    refine hterm.mono ?_
    rintro e w1 ⟨rfl, rfl⟩
    clear hterm
    obtain ⟨q0, q1, q2⟩ := h.cells
    go_wp2_with fail
    go_loopw [7, 8] (fun o i' wr => ∃ (j : Nat) (A' : Option Addr) (c' : Nat), j ≤ n ∧ i' = .int .i64 j ∧ o = .slice A' (j - k) c' ∧ wr.ownsRow w.heap.size 65 6 (.slice A' (j - k) c') (j - k) (((zs.take j).drop k).flatMap enC) ∧ Below w.heap.size w wr) (fun _ i' _ => n - (intOf i').toNat)
    case atStart => exact ⟨0, none, 0, Nat.zero_le _, rfl, by rw [Nat.zero_sub], by rw [Nat.zero_sub, dropTake_nil (Nat.zero_le _)]; exact own_nil _ _, Below.refl _ _⟩
    case round =>
      clear q0 q1 q2
      obtain ⟨j, A', c', hj, rfl, rfl, hown, hbw⟩ := hrel
      have h' := h.below hbw
      obtain ⟨q0, q1, q2⟩ := h'.cells
      by_cases hlt : j < n
      · obtain ⟨ad, B1, m1, d1, x, rfl, hz, hx, c0, c1, c2, c3, c4, c5⟩ := h'.at_ hlt
        have hxi := h.i.idx _ _ hx
        have hmeas := Lib.hid (show n - (j + 1) < n - j by omega)
        have hbA : Below wr.heap.size wr (wr.alloc (.cells #[.int .i64 x.idx, .int .i64 x.term, .int .i64 x.op, .int .i64 x.sess, .int .i64 x.seq, .slice B1 m1 d1] 65)) := (Below.refl _ _).alloc (Nat.le_refl _) _
        have hown2 := own_below hown hbA
        have hbw2 := below_then hbw hbA (Nat.le_refl _)
        have hblk := Blk.new wr 65 (enC (.slice B1 m1 d1, x)).toArray
        by_cases hkj : k ≤ j
        · have hxi2 : i < x.idx := by omega
          have hnx := Lib.hid (dropTake_next hz hkj)
          have hq1 : j - k + 1 ≤ 1000000000 := by omega
          have hq2 := Lib.hid (show j + 1 - k = j - k + 1 by omega)
          obtain ⟨q, hq⟩ : ∃ q, j - k = q := ⟨_, rfl⟩
          rw [hq] at hown2 hq1 hq2
          simp only [hq]
          clear hz hx hxi hown hbw hq
          go_wp2_with (at_builtin; refine wpList_append_es rfl (.tmp 39) (.tmp 47) rfl w.heap.size rfl hown2 rfl (RdE.one hblk) (fun y hy => by rw [List.mem_singleton.1 hy]; rfl) hq1 hbw2.size ?_; intro A6 c6 w6 hown6 hfr6 hb6 hrow6)
          exact ⟨⟨j + 1, A6, c6, hlt, by go_num, by rw [hq2.out], by rw [hq2.out, hnx.out]; exact hown6, hbw2.trans hb6⟩, by simp [intOf]; exact hmeas.out⟩
        · have hxi2 : ¬ i < x.idx := by omega
          have hnx := Lib.hid (show ((zs.take (j + 1)).drop k = (zs.take j).drop k) by rw [dropTake_nil (by omega), dropTake_nil (by omega)])
          have hq2 := Lib.hid (show j + 1 - k = j - k by omega)
          obtain ⟨q, hq⟩ : ∃ q, j - k = q := ⟨_, rfl⟩
          rw [hq] at hown hq2
          simp only [hq]
          clear hz hx hxi hown2 hbw2 hq
          go_wp2_with fail
          exact ⟨⟨j + 1, A', c', hlt, by go_num, by rw [hq2.out], by rw [hq2.out, hnx.out]; exact hown, hbw⟩, by simp [intOf]; exact hmeas.out⟩
      · obtain rfl : j = n := by omega
        have hz2 : (zs.take j).drop k = zs.drop k := by rw [List.take_of_length_le (by rw [hzl.out]; exact Nat.le_refl _)]
        rw [hz2] at hown
        have hdeep : DeepE S wr (zs.drop k) := h'.d.sub fun y hy => List.mem_of_mem_drop hy
        have h10 := RefIn.setAll (t := t) (i := i) (tm := v1) h'.b hown hdeep (by rw [List.map_drop, h.l]) hinv hS
        have hF : Fr (fun j => j = g) w (((wr.setCell ⟨g, 2, none⟩ (.slice A' (j - k) c')).setCell ⟨g, 0, none⟩ (.int .i64 i)).setCell ⟨g, 1, none⟩ (.int .i64 v1)) :=
          (Fr.of_below hbw).trans (((Fr.set g 2 _).trans (Fr.set g 0 _) fun _ h => .inl h).trans (Fr.set g 1 _) fun _ h => .inl h) fun j hj => .inl hj
        have hP := Lib.hid (show PostR S w g A ⟨i, v1, t.L.drop k⟩ _ from ⟨A', j - k, c', _, h10, fun j hj => .inr (own_row_blk hown A' c' rfl j hj).2.1, hF⟩)
        have f0 := h'.b.free 0
        have f1 := h'.b.free 1
        have f2 := h'.b.free 2
        clear h10 hF hown hdeep
        go_wp2_with fail
        go_ret
        exact ⟨by rw [he.out]; rfl, by rw [he.out]; exact hP.out⟩
end
end Go.Proofs.Ytojmkbhihnnmaaa
