/-
  The laws of the schema: their walks (Views).
-/
import Derived.Test.YtojmkbhihnnmaaaSch18
namespace Go.Proofs.Ytojmkbhihnnmaaa
open Go.RowKit Go.Maps

theorem viewsF_len8 {S : Sch} (h1 : S.dims.length ≤ 8) (h2 : ∀ v ∈ S.views, v.length ≤ 8) : ∀ v ∈ viewsF S, v.length ≤ 8 := by
  intro v hv
  rcases List.mem_cons.1 hv with rfl | hv
  · rw [baseF_len]; exact h1
  · exact h2 v hv

set_option maxHeartbeats 1000000 in
theorem schemaViews_any (A1 A2 A3 B : Option Addr) (n1 n2 n3 c1 c2 c3 m c : Nat) (S : Sch) (l : List Int) (w : World) (hr : RdSch w A1 A2 A3 n1 n2 n3 c1 c2 c3 S) (hl : RdI w B m l) (hln : m ≤ c) (hlm : c ≤ maxLen) :
    Calls Try.prog 4 #[.agg #[.slice A1 n1 c1, .slice A2 n2 c2, .slice A3 n3 c3], .slice B m c] w fun e w' => e = .returned (.bool true) ∧ Below w.heap.size w w' := by
  have l8 : ∀ n : Nat, n ≤ 13 → n ≤ maxLen := fun n h => maxLen_big h (by omega)
  have hbA : Below w.heap.size w (w.alloc (.cells #[.slice A1 n1 c1, .slice A2 n2 c2, .slice A3 n3 c3] 26)) := (Below.refl _ _).alloc (Nat.le_refl _) _
  have hbl := Blk.new w 26 #[.slice A1 n1 c1, .slice A2 n2 c2, .slice A3 n3 c3]
  have hz : (w.alloc (.cells #[.slice A1 n1 c1, .slice A2 n2 c2, .slice A3 n3 c3] 26)).heap.size = w.heap.size + 1 := by simp
  have hsm := fewF_Sm S
  obtain ⟨hs8, _, _, hs12, hsv8⟩ := fewF_sm S
  go_enter Try.func4, Try.ntmps4
  go_wp2_with fail
  generalize w.alloc (.cells #[.slice A1 n1 c1, .slice A2 n2 c2, .slice A3 n3 c3] 26) = w1 at *
  refine (few8_any _ _ _ _ _ _ _ _ _ S w _ hbA hr).mono ?_
  rintro e w2 ⟨B1, d1, B2, d2, B3, d3, ys, xs, rfl, ho1, hk1, ho2, ho3, hk3, hb2⟩
  generalize fewF S = T at *
  have hbl2 := hbl.kept hb2
  have h0 := hbl2.cell 0
  have h1 := hbl2.cell 1
  have h2 := hbl2.cell 2
  have f0 := hbl2.free 0
  have f1 := hbl2.free 1
  have f2 := hbl2.free 2
  simp only [List.getElem?_toArray, List.getElem?_cons_zero, List.getElem?_cons_succ] at h0 h1 h2
  have hin : FewIn w (((w2.setCell ⟨w.heap.size, 0, none⟩ (.slice B1 T.dims.length d1)).setCell ⟨w.heap.size, 1, none⟩ (.slice B2 T.measures.length d2)).setCell ⟨w.heap.size, 2, none⟩ (.slice B3 T.views.length d3)) w.heap.size w1.heap.size T B1 B2 B3 d1 d2 d3 ys xs := by
    have hlt : w.heap.size < w1.heap.size := by omega
    exact ⟨((hbl2.set_ 0 _).set_ 1 _).set_ 2 _, own_set_far (own_set_far (own_set_far ho1 hlt _) hlt _) hlt _, hk1, own_set_far (own_set_far (own_set_far ho2 hlt _) hlt _) hlt _, own_set_far (own_set_far (own_set_far ho3 hlt _) hlt _) hlt _, hk3,
      (((below_then hbA hb2 (Nat.le_refl _)).setCell (Nat.le_refl _) _).setCell (Nat.le_refl _) _).setCell (Nat.le_refl _) _⟩
  go_wp2_with fail
  generalize (((w2.setCell ⟨w.heap.size, 0, none⟩ (.slice B1 T.dims.length d1)).setCell ⟨w.heap.size, 1, none⟩ (.slice B2 T.measures.length d2)).setCell ⟨w.heap.size, 2, none⟩ (.slice B3 T.views.length d3)) = w3 at *
  clear h0 h1 h2 f0 f1 f2 hbl2 ho1 ho2 ho3 hb2 hbl
  refine (cut_any _ _ _ l _ (hl.below hin.l) hln hlm).mono ?_
  rintro e w' ⟨⟨m', rfl, hm8, _, hv⟩, rfl⟩
  have hr3 := hin.reads
  have hvw : RdI w B m' (l.take 8) := by
    have h1 := hl.take (k := min 8 m) (by omega)
    have h2 : l.take (min 8 m) = l.take 8 := by
      rcases Nat.le_total 8 m with h | h
      · rw [Nat.min_eq_left h]
      · rw [Nat.min_eq_right h, List.take_of_length_le (by rw [hl.len]; exact Nat.le_refl _), List.take_of_length_le (by rw [hl.len]; exact h)]
    have h3 := hv.len
    rw [List.length_take, hl.len] at h3
    rw [h2, h3] at h1
    exact h1
  generalize l.take 8 = v at *
  have hm13 : m' ≤ 13 := by omega
  have hx0 : ∀ x : After w3.heap.size w3, x.1.cell? ⟨w.heap.size, 0, none⟩ = some (.slice B1 T.dims.length d1) := after_cell (hin.b.cell 0) hin.b.lt
  have hx1 : ∀ x : After w3.heap.size w3, x.1.cell? ⟨w.heap.size, 1, none⟩ = some (.slice B2 T.measures.length d2) := after_cell (hin.b.cell 1) hin.b.lt
  have hx2 : ∀ x : After w3.heap.size w3, x.1.cell? ⟨w.heap.size, 2, none⟩ = some (.slice B3 T.views.length d3) := after_cell (hin.b.cell 2) hin.b.lt
  have Hvl := Lib.hid (viewsF_len8 hs8 hsv8)
  have Hvn := Lib.hid (show (viewsF T).length = T.views.length + 1 by simp [viewsF])
  have Hbl := Lib.hid (baseF_len T)
  clear hsv8
  go_wp2_with fail
  refine wp_region_mix (C := laterW w3.heap.size w3) [([0, 2], 1), ([], 3), ([], 4)] [5] (by kernel_rfl) (by kernel_rfl) (fun _ _ _ _ e h => ⟨e.symm.trans h.1, h.2⟩) (laterW_of (Below.refl _ _).drew) ?_
  refine wpSegs_step fun K1 hK1 => ?_
  simp only [pickL, List.getElem?_cons_zero, List.getElem?_cons_succ]
  repeat (go_big_quiet_step (fail))
  refine wpQuiet_nil ?_
  go_wp2_with fail
  refine (base_any _ _ _ _ _ _ _ _ _ T _ (hr3.below (Below.refl _ _).drew) hsm.d).mono ?_
  rintro e w4 ⟨A4, e4, rfl, ho4, hb4⟩
  have hb34 : Below w3.heap.size w3 w4 := (Below.refl w3.heap.size w3).drew.trans hb4
  go_wp2_with fail
  refine ⟨laterW_of hb34, hK1 _ _ ?_⟩
  refine wpSegs_step fun K2 hK2 => ?_
  simp only [pickL, List.getElem?_cons_zero, List.getElem?_cons_succ]
  repeat (go_big_quiet_step (fail))
  refine wpQuiet_nil ?_
  go_wp2_with fail
  refine (refbase_any _ _ _ _ _ _ _ _ _ T _ (hr3.below hb34) hsm.d).mono ?_
  rintro e w5 ⟨A5, e5, rfl, ho5, hb5⟩
  have hb35 := below_then hb34 hb5 (Nat.le_refl _)
  go_wp2_with fail
  refine ⟨laterW_of hb35, hK2 _ _ ?_⟩
  refine wpSegs_step fun K3 hK3 => ?_
  simp only [pickL, List.getElem?_cons_zero, List.getElem?_cons_succ]
  repeat (go_big_quiet_step (fail))
  refine wpQuiet_nil ?_
  go_wp2_with fail
  refine (sameI_any _ _ _ _ _ _ _ _ _ (RdI.of_own (own_below ho4 hb5)) (RdI.of_own ho5) (l8 _ (by omega)) (l8 _ (by omega))).mono ?_
  rintro e w6 ⟨rfl, q6, rfl⟩
  rw [decide_eq_true rfl]
  have hb36 := below_drewN hb35 q6
  clear ho4 ho5
  generalize World.drewN _ q6 = w6 at *
  go_wp2_with fail
  refine ⟨laterW_of hb36, hK3 _ _ ?_⟩
  refine wpSegs_last ?_
  simp only [pickL, List.getElem?_cons_zero, List.getElem?_cons_succ]
  repeat (go_big_quiet_step (fail))
  refine wpQuiet_nil ?_
  have hi6 := hin.later hb36
  have h0 := hi6.b.cell 0
  have h1 := hi6.b.cell 1
  have h2 := hi6.b.cell 2
  simp only [List.getElem?_toArray, List.getElem?_cons_zero, List.getElem?_cons_succ] at h0 h1 h2
  go_wp2_with fail
  refine (views_any _ _ _ _ _ _ _ _ _ T _ hi6.reads hsm.d hsm.v hsm.x).mono ?_
  rintro e w7 ⟨A7, e7, rfl, ho7, hb7⟩
  have hi7 := hi6.later hb7
  have hv7 := ho7.reads
  have hc7 : T.views.length + 1 ≤ e7 ∧ e7 ≤ maxLen := by obtain ⟨xs, _, h, _⟩ := ho7; exact own_bounds h
  have h0 := hi7.b.cell 0
  have h1 := hi7.b.cell 1
  have h2 := hi7.b.cell 2
  simp only [List.getElem?_toArray, List.getElem?_cons_zero, List.getElem?_cons_succ] at h0 h1 h2
  clear ho7
  go_wp2_with fail
  refine (refviews_any _ _ _ _ _ _ _ _ _ T _ hi7.reads hsm.d hsm.v).mono ?_
  rintro e w8 ⟨A8, e8, rfl, hv8, hc81, hc82, hb8⟩
  have hi8 := hi7.later hb8
  have hv78 := hv7.below hb8
  have hb38 := below_then (below_then hb36 hb7 (Nat.le_refl _)) hb8 (Nat.le_refl _)
  have hvb : RdI w8 B m' v := hvw.below hi8.l
  have hx0 : ∀ x : After w8.heap.size w8, x.1.cell? ⟨w.heap.size, 0, none⟩ = some (.slice B1 T.dims.length d1) := after_cell (hi8.b.cell 0) hi8.b.lt
  have hx1 : ∀ x : After w8.heap.size w8, x.1.cell? ⟨w.heap.size, 1, none⟩ = some (.slice B2 T.measures.length d2) := after_cell (hi8.b.cell 1) hi8.b.lt
  have hx2 : ∀ x : After w8.heap.size w8, x.1.cell? ⟨w.heap.size, 2, none⟩ = some (.slice B3 T.views.length d3) := after_cell (hi8.b.cell 2) hi8.b.lt
  obtain ⟨b, hb⟩ := bool_of (cornerF T v)
  have Hb := Lib.hid hb
  clear hb h0 h1 h2
  unfold maxLen at hc7 hc82
  go_wp2_with fail
  refine wp_region_mix (C := laterW w8.heap.size w8) [([0, 1, 2, 3, 4, 5, 6, 7, 8, 9, 10, 11, 13, 14], 12), ([], 15)] [16, 17] (by kernel_rfl) (by kernel_rfl) (fun _ _ _ _ e h => ⟨e.symm.trans h.1, h.2⟩) (laterW_of (Below.refl _ _).drew) ?_
  refine wpSegs_step fun K4 hK4 => ?_
  simp only [pickL, List.getElem?_cons_zero, List.getElem?_cons_succ]
  repeat (go_big_quiet_step (fail))
  refine wpQuiet_nil ?_
  go_wp2_with fail
  refine (corner_any _ _ _ _ _ _ _ _ _ _ _ _ T v _ (hi8.reads.below (Below.refl _ _).drew) hsm.d (hvb.below (Below.refl _ _).drew) (l8 _ hm13)).mono ?_
  rintro e w9 ⟨rfl, hb9⟩
  rw [Hb.out]
  have hb89 : Below w8.heap.size w8 w9 := (Below.refl w8.heap.size w8).drew.trans hb9
  go_wp2_with fail
  refine ⟨laterW_of hb89, hK4 _ _ ?_⟩
  refine wpSegs_step fun K5 hK5 => ?_
  simp only [pickL, List.getElem?_cons_zero, List.getElem?_cons_succ]
  repeat (go_big_quiet_step (fail))
  refine wpQuiet_nil ?_
  go_wp2_with fail
  refine (refcorner_any _ _ _ _ _ _ _ _ _ _ _ _ T v _ (hi8.reads.below hb89) hsm.d (hvb.below hb89) (l8 _ hm13)).mono ?_
  rintro e w10 ⟨rfl, hb10⟩
  rw [Hb.out]
  have hb810 := below_then hb89 hb10 (Nat.le_refl _)
  go_wp2_with fail
  refine ⟨laterW_of hb810, hK5 _ _ ?_⟩
  refine wpSegs_last ?_
  simp only [pickL, List.getElem?_cons_zero, List.getElem?_cons_succ]
  repeat (go_big_quiet_step (fail))
  refine wpQuiet_nil ?_
  have hi10 := hi8.later hb810
  have hva := hv78.below hb810
  have hvc := hv8.below hb810
  have hvb10 := hvb.below hb810
  clear hi8 hi7 hi6 hb89 hb9 hb10 hv78 hv8 hvb hx0 hx1 hx2 hb38 hr3
  have hend : ∀ (w' : World), Below w10.heap.size w10 w' → Below w.heap.size w w' := fun w' hb => below_then hi10.l hb (Nat.le_refl _)
  go_wp2_with fail
  go_loopw [8, 85, 86, 87, 88, 89, 90, 91, 92, 93] (fun i _ _ _ _ _ _ _ _ _ wr => ∃ k : Nat, k ≤ T.views.length + 1 ∧ i = .int .i64 k ∧ Below w10.heap.size w10 wr) (fun i _ _ _ _ _ _ _ _ _ _ => T.views.length + 1 - (intOf i).toNat)
  case atStart => exact ⟨0, Nat.zero_le _, rfl, Below.refl _ _⟩
  case round =>
    obtain ⟨k, hk, rfl, hb⟩ := hrel
    have hir := hi10.later hb
    by_cases hlt : k < T.views.length + 1
    · obtain ⟨x, ad7, X7, x7, y7, hxk, e7', hc7w, hx7, hl7, hm7⟩ := hva.at_ hlt
      obtain ⟨x', ad8, X8, x8, y8, hxk', e8', hc8w, hx8, hl8, hm8'⟩ := hvc.at_ hlt
      obtain rfl : x = x' := Option.some.inj (hxk.symm.trans hxk')
      have hxl := Hvl.out x (List.mem_of_getElem? hxk)
      subst e7'; subst e8'
      have hc7r := (hb.cell (lt_of_cell hc7w)).trans hc7w
      have hc8r := (hb.cell (lt_of_cell hc8w)).trans hc8w
      have hc7x : ∀ x : After wr.heap.size wr, x.1.cell? (ad7.add k) = _ := after_cell hc7r (lt_of_cell hc7r)
      have hc8x : ∀ x : After wr.heap.size wr, x.1.cell? (ad8.add k) = _ := after_cell hc8r (lt_of_cell hc8r)
      have hq7 := (hx7.below hb).len
      have hq8 := (hx8.below hb).len
      have hx78 : x7 ≤ 13 := by omega
      have hx88 : x8 ≤ 13 := by omega
      clear hxk hxk' hq7 hq8
      obtain ⟨nn, hnn⟩ : ∃ p, numberF T x = p := ⟨_, rfl⟩
      have Hnn := Lib.hid hnn
      clear hnn
      go_wp2_with fail
      refine wp_region_mix (C := laterW wr.heap.size wr) [([0, 1, 2, 3, 4, 5, 6, 7], 8)] [9] (by kernel_rfl) (by kernel_rfl) (fun _ _ _ _ e h => ⟨e.symm.trans h.1, h.2⟩) (laterW_of (Below.refl _ _).drew) ?_
      refine wpSegs_step fun K6 hK6 => ?_
      simp only [pickL, List.getElem?_cons_zero, List.getElem?_cons_succ]
      repeat (go_big_quiet_step (fail))
      refine wpQuiet_nil ?_
      go_wp2_with fail
      refine (sameI_any _ _ _ _ _ _ x x _ (hx7.below (hb.drew)) (hx8.below (hb.drew)) (l8 _ hx78) (l8 _ hx88)).mono ?_
      rintro e w11 ⟨rfl, q11, rfl⟩
      rw [decide_eq_true rfl]
      go_wp2_with fail
      refine ⟨laterW_of (below_drewN (Below.refl wr.heap.size wr) _), hK6 _ _ ?_⟩
      refine wpSegs_last ?_
      simp only [pickL, List.getElem?_cons_zero, List.getElem?_cons_succ]
      repeat (go_big_quiet_step (fail))
      refine wpQuiet_nil ?_
      have hb11 : Below wr.heap.size wr (wr.drewN (1 + q11)) := below_drewN (Below.refl wr.heap.size wr) _
      generalize wr.drewN (1 + q11) = w11 at *
      have hi11 := hir.later hb11
      clear hc7x hc8x hc8r hc7r
      have hbx := below_then hb hb11 (Nat.le_refl _)
      have hc8r := (hbx.cell (lt_of_cell hc8w)).trans hc8w
      have hc8x : ∀ x : After w11.heap.size w11, x.1.cell? (ad8.add k) = _ := after_cell hc8r (lt_of_cell hc8r)
      have hx0 : ∀ x : After w11.heap.size w11, x.1.cell? ⟨w.heap.size, 0, none⟩ = some (.slice B1 T.dims.length d1) := after_cell (hi11.b.cell 0) hi11.b.lt
      have hx1 : ∀ x : After w11.heap.size w11, x.1.cell? ⟨w.heap.size, 1, none⟩ = some (.slice B2 T.measures.length d2) := after_cell (hi11.b.cell 1) hi11.b.lt
      have hx2 : ∀ x : After w11.heap.size w11, x.1.cell? ⟨w.heap.size, 2, none⟩ = some (.slice B3 T.views.length d3) := after_cell (hi11.b.cell 2) hi11.b.lt
      go_wp2_with fail
      refine wp_region_mix (C := laterW w11.heap.size w11) [([0, 1, 2, 3, 4], 5)] [6, 7, 8, 9, 10] (by kernel_rfl) (by kernel_rfl) (fun _ _ _ _ e h => ⟨e.symm.trans h.1, h.2⟩) (laterW_of (Below.refl _ _).drew) ?_
      refine wpSegs_step fun K7 hK7 => ?_
      simp only [pickL, List.getElem?_cons_zero, List.getElem?_cons_succ]
      repeat (go_big_quiet_step (fail))
      refine wpQuiet_nil ?_
      go_wp2_with fail
      refine (number_any _ _ _ _ _ _ _ _ _ _ _ _ T x _ (hi11.reads.below (Below.refl _ _).drew) hsm (hx8.below (hbx.drew)) (l8 _ hx88)).mono ?_
      rintro e w12 ⟨rfl, hb12⟩
      rw [Hnn.out]
      have hb1112 : Below w11.heap.size w11 w12 := (Below.refl w11.heap.size w11).drew.trans hb12
      go_wp2_with fail
      refine ⟨laterW_of hb1112, hK7 _ _ ?_⟩
      refine wpSegs_last ?_
      simp only [pickL, List.getElem?_cons_zero, List.getElem?_cons_succ]
      repeat (go_big_quiet_step (fail))
      refine wpQuiet_nil ?_
      have hi12 := hi11.later hb1112
      have hby := below_then hbx hb1112 (Nat.le_refl _)
      clear hc8x hc8r hx0 hx1 hx2
      have hc8r := (hby.cell (lt_of_cell hc8w)).trans hc8w
      have hc8x : ∀ x : After w12.heap.size w12, x.1.cell? (ad8.add k) = _ := after_cell hc8r (lt_of_cell hc8r)
      have hx0 : ∀ x : After w12.heap.size w12, x.1.cell? ⟨w.heap.size, 0, none⟩ = some (.slice B1 T.dims.length d1) := after_cell (hi12.b.cell 0) hi12.b.lt
      have hx1 : ∀ x : After w12.heap.size w12, x.1.cell? ⟨w.heap.size, 1, none⟩ = some (.slice B2 T.measures.length d2) := after_cell (hi12.b.cell 1) hi12.b.lt
      have hx2 : ∀ x : After w12.heap.size w12, x.1.cell? ⟨w.heap.size, 2, none⟩ = some (.slice B3 T.views.length d3) := after_cell (hi12.b.cell 2) hi12.b.lt
      go_wp2_with fail
      refine wp_region_mix (C := laterW w12.heap.size w12) [([0, 1, 2, 3, 4], 5)] [6, 7, 8, 9, 10] (by kernel_rfl) (by kernel_rfl) (fun _ _ _ _ e h => ⟨e.symm.trans h.1, h.2⟩) (laterW_of (Below.refl _ _).drew) ?_
      refine wpSegs_step fun K8 hK8 => ?_
      simp only [pickL, List.getElem?_cons_zero, List.getElem?_cons_succ]
      repeat (go_big_quiet_step (fail))
      refine wpQuiet_nil ?_
      go_wp2_with fail
      refine (refnumber_any _ _ _ _ _ _ _ _ _ _ _ _ T x _ (hi12.reads.below (Below.refl _ _).drew) hsm (hx8.below (hby.drew)) (l8 _ hx88)).mono ?_
      rintro e w13 ⟨rfl, hb13⟩
      rw [Hnn.out]
      have hb1213 : Below w12.heap.size w12 w13 := (Below.refl w12.heap.size w12).drew.trans hb13
      go_wp2_with fail
      refine ⟨laterW_of hb1213, hK8 _ _ ?_⟩
      refine wpSegs_last ?_
      simp only [pickL, List.getElem?_cons_zero, List.getElem?_cons_succ]
      repeat (go_big_quiet_step (fail))
      refine wpQuiet_nil ?_
      clear hc8x hc8r hx0 hx1 hx2
      go_wp2_with fail
      go_roundw
      case rel => exact ⟨k + 1, by omega, by go_num, below_then hby hb1213 (Nat.le_refl _)⟩
      case measure => simp [intOf]; omega
    · obtain rfl : k = T.views.length + 1 := by omega
      have h0 := hir.b.cell 0
      have h1 := hir.b.cell 1
      have h2 := hir.b.cell 2
      simp only [List.getElem?_toArray, List.getElem?_cons_zero, List.getElem?_cons_succ] at h0 h1 h2
      obtain ⟨nn, hnn⟩ : ∃ p, numberF T v = p := ⟨_, rfl⟩
      have Hnn := Lib.hid hnn
      clear hnn
      go_wp2_with fail
      refine (number_any _ _ _ _ _ _ _ _ _ _ _ _ T v _ hir.reads hsm (hvb10.below hb) (l8 _ hm13)).mono ?_
      rintro e w12 ⟨rfl, hb12⟩
      rw [Hnn.out]
      have hi12 := hir.later hb12
      have h0 := hi12.b.cell 0
      have h1 := hi12.b.cell 1
      have h2 := hi12.b.cell 2
      simp only [List.getElem?_toArray, List.getElem?_cons_zero, List.getElem?_cons_succ] at h0 h1 h2
      have hby := below_then hb hb12 (Nat.le_refl _)
      go_wp2_with fail
      refine (refnumber_any _ _ _ _ _ _ _ _ _ _ _ _ T v _ hi12.reads hsm (hvb10.below hby) (l8 _ hm13)).mono ?_
      rintro e w13 ⟨rfl, hb13⟩
      rw [Hnn.out]
      have hbz := below_then hby hb13 (Nat.le_refl _)
      go_wp2_with fail
      refine (lives8_any _).mono ?_
      rintro e w14 ⟨rfl, hb14⟩
      go_wp2
      go_ret
      exact ⟨rfl, hend _ (below_then hbz hb14 (Nat.le_refl _))⟩
end Go.Proofs.Ytojmkbhihnnmaaa
