/-
  The walks of the schema: which schemas may be, told by the reference.
-/
import Derived.Test.YtojmkbhihnnmaaaSch11
namespace Go.Proofs.Ytojmkbhihnnmaaa
open Go.RowKit Go.Maps

set_option maxHeartbeats 1000000 in
theorem refmay_any (A1 A2 A3 : Option Addr) (n1 n2 n3 c1 c2 c3 : Nat) (S : Sch) (w : World) (hr : RdSch w A1 A2 A3 n1 n2 n3 c1 c2 c3 S) (hn : n1 ≤ 1000000) (hn2 : n2 ≤ 1000000) (hn3 : n3 ≤ 1000000) :
    Calls Try.prog 17 #[.agg #[.slice A1 n1 c1, .slice A2 n2 c2, .slice A3 n3 c3]] w fun e w' => e = .returned (.bool (mayB S)) ∧ Below w.heap.size w w' := by
  have Hl1 := Lib.hid hr.d.1
  have Hl3 := Lib.hid hr.v.1
  have Hsn := Lib.hid (namesF_snoc S)
  have hb01 : Below w.heap.size w (w.alloc (.cells #[.slice A1 n1 c1, .slice A2 n2 c2, .slice A3 n3 c3] 26)) := (Below.refl _ _).alloc (Nat.le_refl _) _
  have hr1 := hr.below hb01
  have hblk := Blk.new w 26 #[.slice A1 n1 c1, .slice A2 n2 c2, .slice A3 n3 c3]
  have hb3 := hr.b3
  unfold maxLen at hb3
  go_enter Try.func17, Try.ntmps17
  go_wp2_with fail
  generalize w.alloc (.cells #[.slice A1 n1 c1, .slice A2 n2 c2, .slice A3 n3 c3] 26) = w1 at *
  go_loopw [3, 4] (fun v i wr => ∃ (k : Nat) (A' : Option Addr) (c' : Nat), k ≤ n1 ∧ i = .int .i64 k ∧ v = .slice A' k c' ∧ wr.ownsRow w1.heap.size 9 1 (.slice A' k c') k (((namesF S).take k).map vs) ∧ (∀ j d, j < k → S.dims[j]? = some d → namedF d.levels 3 = true) ∧ Below w1.heap.size w1 wr) (fun _ i _ => n1 - (intOf i).toNat)
  case atStart => exact ⟨0, none, 0, Nat.zero_le _, rfl, rfl, own_nil _ _, fun j d hj => by omega, Below.refl _ _⟩
  case round =>
    obtain ⟨k, A', c', hk, rfl, rfl, hown, hnm, hb⟩ := hrel
    have Hnm := Lib.hid hnm
    clear hnm
    have hb0 := below_then hb01 hb (Nat.le_refl _)
    have hqa0 : wr.cell? ⟨w.heap.size, 0, none⟩ = some (.slice A1 n1 c1) := (hblk.kept hb).cell 0
    have hlw : w.heap.size < wr.heap.size := lt_of_cell hqa0
    by_cases hlt : k < n1
    · obtain ⟨dm, ad, B, m, cB, hdm, rfl, hc0w, hc1w, hrtw, hmc, hcm⟩ := hr1.d.at_ hlt
      have Hst := Lib.hid (Hsn.out k dm hdm)
      have Hno := Lib.hid (may_no1 (S := S) hdm)
      have Hdm := Lib.hid hdm
      obtain ⟨nm, hnm⟩ : ∃ nm, dm.name = nm := ⟨_, rfl⟩
      rw [hnm] at hc0w
      have Hnn := Lib.hid hnm
      clear hdm hnm
      have hc0 := (hb.cell (lt_of_cell hc0w)).trans hc0w
      have hbB := (Below.refl wr.heap.size wr).alloc (Nat.le_refl _) (.cells #[.string nm] 9)
      have hownB := own_below hown hbB
      have hb1B := below_then hb hbB (Nat.le_refl _)
      have hxB := Rds.one wr 9 (.string nm)
      cases hnb : namedF dm.levels 3 with
      | false =>
        have hne := Hno.out hnb
        have Hne := Lib.hid hne
        clear hne
        go_wp2_with (first
          | (at_builtin; refine wpList_append_s rfl (.tmp 21) (.tmp 28) rfl w1.heap.size rfl hownB rfl hxB (fun u hu => by rw [List.mem_singleton.1 hu]; rfl) (by omega) hb1B.size ?_; intro A3' c3' w3 hown3 hg3 hb3'; have hb13 := hb1B.trans hb3'; have hq3 := (hblk.kept hb13).cell 0; have hc3 := (hb13.cell (lt_of_cell hc1w)).trans hc1w; clear hg3)
          | fail)
        refine (refapart_any _ _ _ _ _ _ (hrtw.below hb13) (Nat.le_trans hmc hcm)).mono ?_
        rintro e w4 ⟨rfl, q, rfl⟩
        rw [hnb]
        go_wp2
        go_ret
        exact ⟨by rw [Hne.out]; rfl, below_drewN (below_then hb01 hb13 (Nat.le_refl _)) q⟩
      | true =>
        have Hnm' := Lib.hid (show ∀ j d, j < k + 1 → S.dims[j]? = some d → namedF d.levels 3 = true from fun j d hj hd => by
          rcases Nat.lt_or_ge j k with h | h
          · exact Hnm.out j d h hd
          · obtain rfl : j = k := by omega
            obtain rfl : d = dm := Option.some.inj (hd.symm.trans Hdm.out)
            exact hnb)
        go_wp2_with (first
          | (at_builtin; refine wpList_append_s rfl (.tmp 21) (.tmp 28) rfl w1.heap.size rfl hownB rfl hxB (fun u hu => by rw [List.mem_singleton.1 hu]; rfl) (by omega) hb1B.size ?_; intro A3' c3' w3 hown3 hg3 hb3'; have hb13 := hb1B.trans hb3'; have hq3 := (hblk.kept hb13).cell 0; have hc3 := (hb13.cell (lt_of_cell hc1w)).trans hc1w; clear hg3)
          | fail)
        refine (refapart_any _ _ _ _ _ _ (hrtw.below hb13) (Nat.le_trans hmc hcm)).mono ?_
        rintro e w4 ⟨rfl, q, rfl⟩
        rw [hnb]
        have hown4 : (w3.drewN q).ownsRow _ _ _ _ _ _ := hown3
        have hb14 := below_drewN hb13 q
        clear hown3 hownB hown hxB hq3 hc3 hnb
        go_wp2
        go_roundw
        case rel => exact ⟨k + 1, A3', c3', by omega, by go_num, rfl, by rw [Hst.out, List.map_append, Hnn.out]; exact hown4, Hnm'.out, hb14⟩
        case measure => simp [intOf]; omega
    · obtain rfl : k = n1 := by omega
      rw [List.take_of_length_le (by rw [namesF_len, Hl1.out]; omega)] at hown
      have hrn : RdT wr A' k (namesF S) := Rds.of_own hown
      have hq1 : wr.cell? ⟨w.heap.size, 1, none⟩ = some (.slice A2 n2 c2) := (hblk.kept hb).cell 1
      have hq2 : wr.cell? ⟨w.heap.size, 2, none⟩ = some (.slice A3 n3 c3) := (hblk.kept hb).cell 2
      have Hm1 := Lib.hid (may_no2 (S := S))
      have Hm2 := Lib.hid (may_no3 (S := S))
      have Hx1 := Lib.hid (show ∃ b, namedF (namesF S) 3 = b from ⟨_, rfl⟩)
      have Hx2 := Lib.hid (show ∃ b, namedF S.measures 2 = b from ⟨_, rfl⟩)
      obtain ⟨b1, hb1⟩ := Hx1.out
      obtain ⟨b2, hb2⟩ := Hx2.out
      have Hb1 := Lib.hid hb1
      have Hb2 := Lib.hid hb2
      clear hb1 hb2
      go_wp2_with fail
      refine (refapart_any _ _ _ _ _ _ hrn (maxLen_big hn (by omega))).mono ?_
      rintro e w4 ⟨rfl, q, rfl⟩
      rw [Hb1.out]
      have hq14 : (wr.drewN q).cell? _ = _ := hq1
      have hq24 : (wr.drewN q).cell? _ = _ := hq2
      have hb14 := below_drewN hb q
      generalize wr.drewN q = w4 at *
      go_wp2_with fail
      refine (refapart_any _ _ _ _ _ _ (hr1.m.below hb14) (maxLen_big hn2 (by omega))).mono ?_
      rintro e w5 ⟨rfl, q, rfl⟩
      rw [Hb2.out]
      have hq25 : (w4.drewN q).cell? _ = _ := hq24
      have hb15 := below_drewN hb14 q
      have hqa05 : (w4.drewN q).cell? ⟨w.heap.size, 0, none⟩ = some (.slice A1 k c1) := (hblk.kept hb15).cell 0
      have hqa15 : (w4.drewN q).cell? ⟨w.heap.size, 1, none⟩ = some (.slice A2 n2 c2) := (hblk.kept hb15).cell 1
      generalize w4.drewN q = w5 at *
      have hb05 := below_then hb01 hb15 (Nat.le_refl _)
      clear hq1 hq2 hq14 hq24 hrn hown hqa0
      by_cases hbad : b1 = false ∨ b2 = false ∨ 6 < n3
      · have Hne : Hid (mayB S = false) := by
          rcases hbad with rfl | rfl | h6
          · exact Lib.hid (Hm1.out Hb1.out)
          · exact Lib.hid (Hm2.out Hb2.out)
          · exact Lib.hid (may_no4 (S := S) (by rw [Hl3.out]; exact h6))
        have h3c : b1 = false ∨ (b1 = true ∧ b2 = false) ∨ (b1 = true ∧ b2 = true ∧ 6 < n3) := by
          cases b1 <;> cases b2 <;> simp_all
        clear hbad
        rcases h3c with rfl | ⟨rfl, rfl⟩ | ⟨rfl, rfl, h6⟩
        all_goals
          go_wp2
          go_ret
          exact ⟨by rw [Hne.out]; rfl, hb05⟩
      · obtain ⟨rfl, rfl, h6⟩ : b1 = true ∧ b2 = true ∧ ¬ 6 < n3 := by
          cases b1 <;> cases b2 <;> simp_all
        clear hbad
        go_wp2_with fail
        refine (refbase_any _ _ _ _ _ _ _ _ _ _ _ (hr1.below hb15) hn).mono ?_
        rintro e w6 ⟨Ab, cb, rfl, hownb, hb6⟩
        have hb16 := below_then hb15 hb6 (Nat.le_refl _)
        have hrb := RdI.of_own hownb
        clear hownb hq25 hqa05 hqa15
        go_wp2_with fail
        go_loopw [9] (fun i wr => ∃ k : Nat, k ≤ n3 ∧ i = .int .i64 k ∧ (∀ j, j < k → viewOk S j = true) ∧ Below w6.heap.size w6 wr) (fun i _ => n3 - (intOf i).toNat)
        case atStart => exact ⟨0, Nat.zero_le _, rfl, fun j hj => by omega, Below.refl _ _⟩
        case round =>
          obtain ⟨i, hi, rfl, hok, hbi⟩ := hrel
          have Hok := Lib.hid hok
          clear hok
          have hb1r := below_then hb16 hbi (Nat.le_refl _)
          have hb0r := below_then hb01 hb1r (Nat.le_refl _)
          have hqa2 : wr.cell? ⟨w.heap.size, 2, none⟩ = some (.slice A3 n3 c3) := (hblk.kept hb1r).cell 2
          by_cases hlt' : i < n3
          · obtain ⟨v, ad, B, m, d, hvi, rfl, hcw, hvw, hmd, hdm⟩ := hr1.v.at_ hlt'
            have hc0 := (hb1r.cell (lt_of_cell hcw)).trans hcw
            have hc : ∀ x : After wr.heap.size wr, x.1.cell? (ad.add i) = _ := after_cell hc0 (lt_of_cell hc0)
            have hqx0 : ∀ x : After wr.heap.size wr, x.1.cell? ⟨w.heap.size, 0, none⟩ = some (.slice A1 k c1) := after_cell ((hblk.kept hb1r).cell 0) (hblk.kept hb1r).lt
            have hqx1 : ∀ x : After wr.heap.size wr, x.1.cell? ⟨w.heap.size, 1, none⟩ = some (.slice A2 n2 c2) := after_cell ((hblk.kept hb1r).cell 1) (hblk.kept hb1r).lt
            have hqx2 : ∀ x : After wr.heap.size wr, x.1.cell? ⟨w.heap.size, 2, none⟩ = some (.slice (some ad) n3 c3) := after_cell ((hblk.kept hb1r).cell 2) (hblk.kept hb1r).lt
            have Hvo := Lib.hid (viewOk_at hvi)
            have Hno := Lib.hid (may_no5 (S := S) (k := i) (by rw [Hl3.out]; exact hlt'))
            have Hx1 := Lib.hid (show ∃ b, cornerF S v = b from ⟨_, rfl⟩)
            have Hx2 := Lib.hid (show ∃ b, decide (v = baseF S) = b from ⟨_, rfl⟩)
            obtain ⟨d1, hd1⟩ := Hx1.out
            obtain ⟨d2, hd2⟩ := Hx2.out
            have Hd1 := Lib.hid hd1
            have Hd2 := Lib.hid hd2
            have Hvi := Lib.hid hvi
            clear hd1 hd2 hvi Hx1 Hx2
            go_wp2_with fail
            refine wp_region_mix (C := laterW wr.heap.size wr) [([0, 1, 2, 3, 4, 5], 6)] [7] (by kernel_rfl) (by kernel_rfl) (fun _ _ _ _ e h => ⟨e.symm.trans h.1, h.2⟩) (laterW_of (Below.refl _ _).drew) ?_
            refine wpSegs_step fun K1 hK1 => ?_
            simp only [pickL, List.getElem?_cons_zero, List.getElem?_cons_succ]
            repeat (go_big_quiet_step (fail))
            refine wpQuiet_nil ?_
            go_wp2_with fail
            refine (refcorner_any _ _ _ _ _ _ _ _ _ _ _ _ _ v _ (hr1.below (hb1r.drew)) hn (hvw.below (hb1r.drew)) (Nat.le_trans hmd hdm)).mono ?_
            rintro e w7 ⟨rfl, hb7⟩
            rw [Hd1.out]
            have hbr7 : Below wr.heap.size wr w7 := (Below.refl wr.heap.size wr).drew.trans hb7
            have hb17 := below_then hb1r hbr7 (Nat.le_refl _)
            have hb67 := below_then hbi hbr7 (Nat.le_refl _)
            have hb07 := below_then hb01 hb17 (Nat.le_refl _)
            have hc7 := (hb17.cell (lt_of_cell hcw)).trans hcw
            have hq7 : w7.cell? ⟨w.heap.size, 2, none⟩ = some (.slice (some ad) n3 c3) := (hblk.kept hb17).cell 2
            go_wp2_with fail
            refine ⟨laterW_of hbr7, hK1 _ _ ?_⟩
            refine wpSegs_last ?_
            simp only [pickL, List.getElem?_cons_zero, List.getElem?_cons_succ]
            repeat (go_big_quiet_step (fail))
            refine wpQuiet_nil ?_
            clear hqx0 hqx1 hqx2 hc
            go_wp2_with fail
            refine (sameI_any _ _ _ _ _ _ v (baseF S) _ (hvw.below hb17) (hrb.below hb67) (Nat.le_trans hmd hdm) (maxLen_big hn (by omega))).mono ?_
            rintro e w8 ⟨rfl, q8, rfl⟩
            rw [Hd2.out]
            have hq8 : (w7.drewN q8).cell? ⟨w.heap.size, 2, none⟩ = _ := hq7
            have hb18 := below_drewN hb17 q8
            have hb68 := below_drewN hb67 q8
            have hb08 := below_drewN hb07 q8
            have hc8 : (w7.drewN q8).cell? (ad.add i) = _ := hc7
            generalize w7.drewN q8 = w8 at *
            clear hq7 hc7 hc0 hqa2
            by_cases hbad : d1 = false ∨ d2 = true
            · have Hne : Hid (mayB S = false) := by
                rcases hbad with rfl | rfl
                · exact Lib.hid (Hno.out (by rw [Hvo.out, Hd1.out]; rfl))
                · exact Lib.hid (Hno.out (by rw [Hvo.out, Hd2.out]; simp))
              have h2c : d1 = false ∨ (d1 = true ∧ d2 = true) := by
                cases d1 <;> cases d2 <;> simp_all
              clear hbad
              rcases h2c with rfl | ⟨rfl, rfl⟩
              all_goals
                go_wp2
                go_ret
                exact ⟨by rw [Hne.out]; rfl, hb08⟩
            · obtain ⟨rfl, rfl⟩ : d1 = true ∧ d2 = false := by
                cases d1 <;> cases d2 <;> simp_all
              clear hbad
              go_wp2_with fail
              go_loopw [12] (fun j wr => ∃ e : Nat, e ≤ i ∧ j = .int .i64 e ∧ (∀ t x, t < e → S.views[t]? = some x → v ≠ x) ∧ ∃ q, wr = w8.drewN q) (fun j _ => i - (intOf j).toNat)
              case atStart => exact ⟨0, Nat.zero_le _, rfl, fun t x ht => by omega, 0, rfl⟩
              case round =>
                obtain ⟨e, he, rfl, hno, hq⟩ := hrel
                have Hnt := Lib.hid hno
                clear hno
                have hb8r : Below w8.heap.size w8 wr := by obtain ⟨q, rfl⟩ := hq; exact below_drewN (Below.refl _ _) q
                have hq1 : ∀ q1, ∃ q, wr.drewN q1 = w8.drewN q := fun q1 => by obtain ⟨q, rfl⟩ := hq; exact ⟨_, World.drewN_drewN _ _ _⟩
                have hbrx := below_then hb18 hb8r (Nat.le_refl _)
                by_cases hlt2 : e < i
                · obtain ⟨x, ad2, B2, m2, d2, hxi, e2, hcw2, hvw2, hmd2, hdm2⟩ := hr1.v.at_ (k := e) (by omega)
                  obtain rfl : ad = ad2 := Option.some.inj e2
                  have hc0 := (hbrx.cell (lt_of_cell hcw2)).trans hcw2
                  have hci := (hbrx.cell (lt_of_cell hcw)).trans hcw
                  have hc : ∀ x : After wr.heap.size wr, x.1.cell? (ad.add e) = _ := after_cell hc0 (lt_of_cell hc0)
                  have hcx : ∀ x : After wr.heap.size wr, x.1.cell? (ad.add i) = _ := after_cell hci (lt_of_cell hci)
                  have hqx2 : ∀ x : After wr.heap.size wr, x.1.cell? ⟨w.heap.size, 2, none⟩ = some (.slice (some ad) n3 c3) := after_cell ((hblk.kept hbrx).cell 2) (hblk.kept hbrx).lt
                  have hin : i < n3 := hlt'
                  have hen : e < n3 := by omega
                  have Hxi := Lib.hid hxi
                  obtain ⟨d5, hd5⟩ : ∃ b, decide (x = v) = b := ⟨_, rfl⟩
                  have Hd5 := Lib.hid hd5
                  clear hxi e2 hd5
                  go_wp2_with fail
                  refine wp_region_mix (C := laterW wr.heap.size wr) [([0, 1, 2, 3, 4, 5, 6, 7, 8, 9], 10)] [11] (by kernel_rfl) (by kernel_rfl) (fun _ _ _ _ e h => ⟨e.symm.trans h.1, h.2⟩) (laterW_of (Below.refl _ _).drew) ?_
                  refine wpSegs_step fun K2 hK2 => ?_
                  simp only [pickL, List.getElem?_cons_zero, List.getElem?_cons_succ]
                  repeat (go_big_quiet_step (fail))
                  refine wpQuiet_nil ?_
                  go_wp2_with fail
                  refine (sameI_any _ _ _ _ _ _ x v _ (hvw2.below (hbrx.drew)) (hvw.below (hbrx.drew)) (Nat.le_trans hmd2 hdm2) (Nat.le_trans hmd hdm)).mono ?_
                  rintro e w9 ⟨rfl, q9, rfl⟩
                  rw [Hd5.out]
                  go_wp2_with fail
                  refine ⟨laterW_of (below_drewN (Below.refl wr.heap.size wr) _), hK2 _ _ ?_⟩
                  refine wpSegs_last ?_
                  simp only [pickL, List.getElem?_cons_zero, List.getElem?_cons_succ]
                  repeat (go_big_quiet_step (fail))
                  refine wpQuiet_nil ?_
                  clear hqx2 hc hcx
                  cases d5 with
                  | true =>
                    have Hne := Lib.hid (Hno.out (by
                      rw [Hvo.out]
                      have : (S.views.take i).any (fun x => decide (v = x)) = true := List.any_eq_true.2 ⟨x, List.mem_of_getElem? (i := e) (by rw [List.getElem?_take, if_pos hlt2]; exact Hxi.out), decide_eq_true (of_decide_eq_true Hd5.out).symm⟩
                      rw [this]; simp))
                    go_wp2
                    go_ret
                    refine ⟨by rw [Hne.out]; rfl, ?_⟩
                    obtain ⟨q, rfl⟩ := hq
                    first | exact below_drewN hb08 _ | exact below_drewN (below_drewN hb08 _) _ | exact below_drewN (below_drewN (below_drewN hb08 _) 1) _
                  | false =>
                    have Hst := Lib.hid (show ∀ t x, t < e + 1 → S.views[t]? = some x → v ≠ x from fun t y ht hy => by
                      rcases Nat.lt_or_ge t e with h | h
                      · exact Hnt.out t y h hy
                      · obtain rfl : t = e := by omega
                        obtain rfl : x = y := Option.some.inj (Hxi.out.symm.trans hy)
                        exact fun h => of_decide_eq_false Hd5.out h.symm)
                    go_wp2
                    go_roundw
                    case rel => exact ⟨e + 1, by omega, by go_num, Hst.out, by obtain ⟨q, rfl⟩ := hq; exact ⟨_, by first | rfl | exact World.drewN_drewN _ _ _⟩⟩
                    case measure => simp [intOf]; omega
                · obtain rfl : e = i := by omega
                  have Hst := Lib.hid (show ∀ j, j < e + 1 → viewOk S j = true from fun j hj => by
                    rcases Nat.lt_or_ge j e with h | h
                    · exact Hok.out j h
                    · obtain rfl : j = e := by omega
                      have : (S.views.take j).any (fun x => decide (v = x)) = false := List.any_eq_false.2 fun x hx => by
                        obtain ⟨t, ht, rfl⟩ := List.getElem_of_mem hx
                        have ht' : t < j := by simp at ht; omega
                        have := Hnt.out t (S.views.take j)[t] ht' (by
                          have h1 : (S.views.take j)[t]? = some (S.views.take j)[t] := List.getElem?_eq_getElem ht
                          rw [List.getElem?_take, if_pos ht'] at h1
                          exact h1)
                        simpa using this
                      rw [Hvo.out, Hd1.out, Hd2.out, this]; rfl)
                  have hb6r : Below w6.heap.size w6 wr := by obtain ⟨q, rfl⟩ := hq; exact below_drewN hb68 q
                  go_wp2
                  go_roundw
                  case rel => exact ⟨e + 1, by omega, by go_num, Hst.out, hb6r⟩
                  case measure => simp [intOf]; omega
          · obtain rfl : i = n3 := by omega
            have Hne := Lib.hid (may_yes (S := S) (fun d hd => by
              obtain ⟨j, hj, rfl⟩ := List.getElem_of_mem hd
              exact Hnm.out j _ (by rw [Hl1.out] at hj; exact hj) (List.getElem?_eq_getElem hj)) Hb1.out Hb2.out (by rw [Hl3.out]; omega) (fun j hj => Hok.out j (by rw [Hl3.out] at hj; exact hj)))
            go_wp2
            go_ret
            exact ⟨by rw [Hne.out]; rfl, hb0r⟩
end Go.Proofs.Ytojmkbhihnnmaaa
