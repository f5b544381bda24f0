/-
  The walks of the schema, second part: joined levels.
-/
import Derived.Test.YtojmkbhihnnmaaaSch1
namespace Go.Proofs.Ytojmkbhihnnmaaa
open Go.RowKit

theorem joinF_eq {v w : List Int} (h : v.length = w.length) : joinF v w = List.zipWith max v w := if_pos h

theorem join_any (A B : Option Addr) (n m c d : Nat) (l r : List Int) (w : World) (hl : RdI w A n l) (hr : RdI w B m r) (hn : n ≤ 1000000) (hm : m ≤ 1000000) :
    Calls Try.prog 29 #[.slice A n c, .slice B m d] w fun e w' => ∃ A' c', e = .returned (.slice A' (joinF l r).length c') ∧
      w'.ownsRow w.heap.size 3 1 (.slice A' (joinF l r).length c') (joinF l r).length ((joinF l r).map vi) ∧ Below w.heap.size w w' := by
  have H1 := Lib.hid hl.len
  have H2 := Lib.hid hr.len
  by_cases hnm : n = m
  · subst hnm
    have Hj := Lib.hid (joinF_eq (v := l) (w := r) (by rw [H1.out, H2.out]))
    rw [Hj.out]
    have hjl : (List.zipWith max l r).length = n := by rw [List.length_zipWith, H1.out, H2.out, Nat.min_self]
    rw [hjl]
    have Hz := Lib.hid (fun k (hk : k < n) => zip_take l r k (by rw [H1.out]; exact hk) (by rw [H2.out]; exact hk))
    have Hjl := Lib.hid hjl
    clear hjl
    generalize List.zipWith max l r = J at *
    go_enter Try.func29, Try.ntmps29
    go_wp2
    go_loopw [5, 6, 14] (fun v _ i wr => ∃ (k : Nat) (A' : Option Addr) (c' : Nat), k ≤ n ∧ i = .int .i64 k ∧ v = .slice A' k c' ∧ wr.ownsRow w.heap.size 3 1 (.slice A' k c') k ((J.take k).map vi) ∧ Below w.heap.size w wr) (fun _ _ i _ => n - (intOf i).toNat)
    case atStart => exact ⟨0, none, 0, Nat.zero_le _, rfl, rfl, own_nil _ _, Below.refl _ _⟩
    case round =>
      obtain ⟨k, A', c', hk, rfl, rfl, hown, hb⟩ := hrel
      by_cases hlt : k < n
      · obtain ⟨ad, rfl, hc0⟩ := hl.at_ hlt
        obtain ⟨bd, rfl, hd0⟩ := hr.at_ hlt
        have hc : ∀ x : After w.heap.size wr, x.1.cell? (ad.add k) = some (.int .i64 (l[k]?.getD 0)) := after_cell ((hb.cell (lt_of_cell hc0)).trans hc0) (lt_of_cell hc0)
        have hd : ∀ x : After w.heap.size wr, x.1.cell? (bd.add k) = some (.int .i64 (r[k]?.getD 0)) := after_cell ((hb.cell (lt_of_cell hd0)).trans hd0) (lt_of_cell hd0)
        have Hst := Lib.hid (Hz.out k hlt)
        generalize l[k]?.getD 0 = x at *
        generalize r[k]?.getD 0 = y at *
        clear hc0 hd0
        by_cases hyx : y ≤ x
        · rw [Int.max_eq_left hyx] at Hst
          go_wp2_with fail
          refine wp_region_mix (C := laterW w.heap.size wr) [([0, 1, 2, 3, 4, 5, 6, 7, 8], 9), ([], 10), ([], 11)] [12] (by kernel_rfl) (by kernel_rfl) (fun _ _ _ _ e h => ⟨e.symm.trans h.1, h.2⟩) (laterW_of (Below.refl _ _).drew) ?_
          refine wpSegs_step fun K1 hK1 => ?_
          simp only [pickL, List.getElem?_cons_zero, List.getElem?_cons_succ]
          repeat (go_big_quiet_step (fail))
          refine wpQuiet_nil ?_
          go_wp2_with fail
          refine ⟨laterW_of (Below.refl _ _).drew, hK1 _ _ ?_⟩
          refine wpSegs_step fun K2 hK2 => ?_
          simp only [pickL, List.getElem?_cons_zero, List.getElem?_cons_succ]
          refine wpQuiet_nil ?_
          go_wp2_with fail
          have hbA := (Below.refl w.heap.size wr).drew.alloc hb.size (.cells #[.int .i64 x] 3)
          have hb0A := hb.trans hbA
          have hbw := (Below.refl wr.heap.size wr).drew.alloc (Nat.le_refl _) (.cells #[.int .i64 x] 3)
          have hownA := own_below hown hbw
          have hrA : RdI (wr.drew.alloc (.cells #[.int .i64 x] 3)) (some ⟨wr.heap.size, 0, none⟩) 1 [x] := RdI.lit _ _ _ _ _ 1 _ rfl rfl rfl
          refine ⟨laterW_of hbA, hK2 _ _ ?_⟩
          refine wpSegs_step fun K3 hK3 => ?_
          simp only [pickL, List.getElem?_cons_zero, List.getElem?_cons_succ]
          refine wpQuiet_nil ?_
          go_wp2_with (first
            | (at_builtin; refine wpList_append_is rfl (.tmp 17) (.tmp 27) rfl w.heap.size rfl hownA rfl hrA (by omega) hb0A.size ?_; intro A3 c3 w3 hown3 hg3 hb3; clear hg3)
            | fail)
          have hbc : Below w.heap.size wr w3 := hbA.trans hb3
          refine ⟨laterW_of hbc, hK3 _ _ ?_⟩
          refine wpSegs_last ?_
          simp only [pickL, List.getElem?_cons_zero, List.getElem?_cons_succ]
          repeat (go_big_quiet_step (fail))
          refine wpQuiet_nil ?_
          go_wp2
          go_roundw
          case rel => exact ⟨k + 1, A3, c3, by omega, by go_num, rfl, by rw [Hst.out]; exact hown3, hb.trans hbc⟩
          case measure => simp [intOf]; omega
        · have hyx' : x < y := by omega
          rw [Int.max_eq_right (by omega)] at Hst
          go_wp2_with fail
          refine wp_region_mix (C := laterW w.heap.size wr) [([0, 1, 2, 3, 4, 5, 6, 7, 8], 9), ([], 10), ([], 11)] [12] (by kernel_rfl) (by kernel_rfl) (fun _ _ _ _ e h => ⟨e.symm.trans h.1, h.2⟩) (laterW_of (Below.refl _ _).drew) ?_
          refine wpSegs_step fun K1 hK1 => ?_
          simp only [pickL, List.getElem?_cons_zero, List.getElem?_cons_succ]
          repeat (go_big_quiet_step (fail))
          refine wpQuiet_nil ?_
          go_wp2_with fail
          refine ⟨laterW_of (Below.refl _ _).drew, hK1 _ _ ?_⟩
          refine wpSegs_step fun K2 hK2 => ?_
          simp only [pickL, List.getElem?_cons_zero, List.getElem?_cons_succ]
          refine wpQuiet_nil ?_
          go_wp2_with fail
          have hbA := (Below.refl w.heap.size wr).drew.alloc hb.size (.cells #[.int .i64 y] 3)
          have hb0A := hb.trans hbA
          have hbw := (Below.refl wr.heap.size wr).drew.alloc (Nat.le_refl _) (.cells #[.int .i64 y] 3)
          have hownA := own_below hown hbw
          have hrA : RdI (wr.drew.alloc (.cells #[.int .i64 y] 3)) (some ⟨wr.heap.size, 0, none⟩) 1 [y] := RdI.lit _ _ _ _ _ 1 _ rfl rfl rfl
          refine ⟨laterW_of hbA, hK2 _ _ ?_⟩
          refine wpSegs_step fun K3 hK3 => ?_
          simp only [pickL, List.getElem?_cons_zero, List.getElem?_cons_succ]
          refine wpQuiet_nil ?_
          go_wp2_with (first
            | (at_builtin; refine wpList_append_is rfl (.tmp 17) (.tmp 27) rfl w.heap.size rfl hownA rfl hrA (by omega) hb0A.size ?_; intro A3 c3 w3 hown3 hg3 hb3; clear hg3)
            | fail)
          have hbc : Below w.heap.size wr w3 := hbA.trans hb3
          refine ⟨laterW_of hbc, hK3 _ _ ?_⟩
          refine wpSegs_last ?_
          simp only [pickL, List.getElem?_cons_zero, List.getElem?_cons_succ]
          repeat (go_big_quiet_step (fail))
          refine wpQuiet_nil ?_
          go_wp2
          go_roundw
          case rel => exact ⟨k + 1, A3, c3, by omega, by go_num, rfl, by rw [Hst.out]; exact hown3, hb.trans hbc⟩
          case measure => simp [intOf]; omega
      · obtain rfl : k = n := by omega
        rw [List.take_of_length_le (by rw [Hjl.out]; omega)] at hown
        go_wp2
        go_ret
        exact ⟨A', c', rfl, hown, hb⟩
  · rw [joinF_len (by rw [H1.out, H2.out]; exact hnm)]
    go_enter Try.func29, Try.ntmps29
    go_wp2
    go_ret
    exact ⟨none, 0, rfl, own_nil _ _, Below.refl _ _⟩
theorem refjoin_any (A B : Option Addr) (n m c d : Nat) (l r : List Int) (w : World) (hl : RdI w A n l) (hr : RdI w B m r) (hn : n ≤ 1000000) (hm : m ≤ 1000000) :
    Calls Try.prog 30 #[.slice A n c, .slice B m d] w fun e w' => ∃ A' c', e = .returned (.slice A' (joinF l r).length c') ∧
      w'.ownsRow w.heap.size 3 1 (.slice A' (joinF l r).length c') (joinF l r).length ((joinF l r).map vi) ∧ Below w.heap.size w w' := by
  have H1 := Lib.hid hl.len
  have H2 := Lib.hid hr.len
  by_cases hnm : n = m
  · subst hnm
    have Hj := Lib.hid (joinF_eq (v := l) (w := r) (by rw [H1.out, H2.out]))
    rw [Hj.out]
    have hjl : (List.zipWith max l r).length = n := by rw [List.length_zipWith, H1.out, H2.out, Nat.min_self]
    rw [hjl]
    have Hz := Lib.hid (fun k (hk : k < n) => zip_take l r k (by rw [H1.out]; exact hk) (by rw [H2.out]; exact hk))
    have Hjl := Lib.hid hjl
    clear hjl
    generalize List.zipWith max l r = J at *
    go_enter Try.func30, Try.ntmps30
    go_wp2
    go_loopw [5, 6] (fun v i wr => ∃ (k : Nat) (A' : Option Addr) (c' : Nat), k ≤ n ∧ i = .int .i64 k ∧ v = .slice A' k c' ∧ wr.ownsRow w.heap.size 3 1 (.slice A' k c') k ((J.take k).map vi) ∧ Below w.heap.size w wr) (fun _ i _ => n - (intOf i).toNat)
    case atStart => exact ⟨0, none, 0, Nat.zero_le _, rfl, rfl, own_nil _ _, Below.refl _ _⟩
    case round =>
      obtain ⟨k, A', c', hk, rfl, rfl, hown, hb⟩ := hrel
      by_cases hlt : k < n
      · obtain ⟨ad, rfl, hc0⟩ := hl.at_ hlt
        obtain ⟨bd, rfl, hd0⟩ := hr.at_ hlt
        have hc := (hb.cell (lt_of_cell hc0)).trans hc0
        have hd := (hb.cell (lt_of_cell hd0)).trans hd0
        have Hst := Lib.hid (Hz.out k hlt)
        generalize l[k]?.getD 0 = x at *
        generalize r[k]?.getD 0 = y at *
        clear hc0 hd0
        by_cases hyx : y ≤ x
        · rw [Int.max_eq_left hyx] at Hst
          go_wp2_with fail
          go_quiet (fail)
          have hbA := (below_drewN (Below.refl w.heap.size wr) nq).alloc hb.size (.cells #[.int .i64 x] 3)
          have hb0A := hb.trans hbA
          have hbw := (below_drewN (Below.refl wr.heap.size wr) nq).alloc (Nat.le_refl _) (.cells #[.int .i64 x] 3)
          have hownA := own_below hown hbw
          have hrA : RdI ((wr.drewN nq).alloc (.cells #[.int .i64 x] 3)) (some ⟨wr.heap.size, 0, none⟩) 1 [x] := RdI.lit _ _ _ _ _ 1 _ rfl rfl rfl
          have hc2 : (wr.drewN nq).cell? _ = _ := hc
          have hd2 : (wr.drewN nq).cell? _ = _ := hd
          go_wp2_with (first
            | (at_builtin; refine wpList_append_is rfl (.tmp 34) (.tmp 39) rfl w.heap.size rfl hownA rfl hrA (by omega) hb0A.size ?_; intro A3 c3 w3 hown3 hg3 hb3; clear hg3)
            | fail)
          go_roundw
          case rel => exact ⟨k + 1, A3, c3, by omega, by go_num, rfl, by rw [Hst.out]; exact hown3, hb0A.trans hb3⟩
          case measure => simp [intOf]; omega
        · have hyx' : x < y := by omega
          rw [Int.max_eq_right (by omega)] at Hst
          go_wp2_with fail
          go_quiet (fail)
          have hbA := (below_drewN (Below.refl w.heap.size wr) nq).alloc hb.size (.cells #[.int .i64 y] 3)
          have hb0A := hb.trans hbA
          have hbw := (below_drewN (Below.refl wr.heap.size wr) nq).alloc (Nat.le_refl _) (.cells #[.int .i64 y] 3)
          have hownA := own_below hown hbw
          have hrA : RdI ((wr.drewN nq).alloc (.cells #[.int .i64 y] 3)) (some ⟨wr.heap.size, 0, none⟩) 1 [y] := RdI.lit _ _ _ _ _ 1 _ rfl rfl rfl
          have hc2 : (wr.drewN nq).cell? _ = _ := hc
          have hd2 : (wr.drewN nq).cell? _ = _ := hd
          go_wp2_with (first
            | (at_builtin; refine wpList_append_is rfl (.tmp 27) (.tmp 32) rfl w.heap.size rfl hownA rfl hrA (by omega) hb0A.size ?_; intro A3 c3 w3 hown3 hg3 hb3; clear hg3)
            | fail)
          go_roundw
          case rel => exact ⟨k + 1, A3, c3, by omega, by go_num, rfl, by rw [Hst.out]; exact hown3, hb0A.trans hb3⟩
          case measure => simp [intOf]; omega
      · obtain rfl : k = n := by omega
        rw [List.take_of_length_le (by rw [Hjl.out]; omega)] at hown
        go_wp2
        go_ret
        exact ⟨A', c', rfl, hown, hb⟩
  · rw [joinF_len (by rw [H1.out, H2.out]; exact hnm)]
    go_enter Try.func30, Try.ntmps30
    go_wp2
    go_ret
    exact ⟨none, 0, rfl, own_nil _ _, Below.refl _ _⟩
end Go.Proofs.Ytojmkbhihnnmaaa
