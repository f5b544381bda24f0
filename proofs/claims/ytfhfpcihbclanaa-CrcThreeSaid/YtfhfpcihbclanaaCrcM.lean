/-
  The laws of the check sum: the walks of Whole, Bursts, Three.
-/
import Derived.Test.YtfhfpcihbclanaaCrcL
namespace Go.Proofs.Ytfhfpcihbclanaa
open Go.RowKit

theorem len_drop4 {l : List UInt8} {n k : Nat} (h : l.length = n) (hk : n = k + 4) : l.length - 4 = k := by omega

theorem crcWhole_any (A : Option Addr) (n c : Nat) (l : List UInt8) (w : World) (hl : Rd w A n l) (hnc : n ≤ c) (hc : c ≤ maxLen) :
    Calls Try.prog 5 #[.slice A n c] w fun e w' => e = .returned (.bool true) ∧ Below w.heap.size w w' := by
  go_enter Try.func5, Try.ntmps5
  go_wp2_with fail
  refine (few_any A n c 1000 l _ hl (by omega) hnc (by unfold maxLen; omega)).mono ?_
  rintro e w' ⟨⟨n', rfl, hn1, hn2, hl'⟩, rfl⟩
  have hm1 : n' ≤ maxLen := maxLen_big hn1 (by omega)
  generalize l.take 1000 = l' at *
  go_wp2_with fail
  refine (with_any _ _ _ _ _ hl' (by omega)).mono ?_; rintro e w1 ⟨A1, c1, rfl, hown1, hb1⟩
  go_wp2_with (first
    | (at_builtin; refine wpList_append_b0 rfl (.tmp 11) (.tmp 12) rfl rfl rfl (hl'.below hb1) (by omega) ?_; intro A2 c2 w2 hown2 hb2)
    | fail)
  have hb02 := below_then hb1 hb2 (Nat.le_refl _)
  refine (sum_any _ _ _ _ _ (hl'.below hb02) hm1).mono ?_; rintro e w' ⟨rfl, rfl⟩
  go_wp2_with fail
  refine (bytes_own _ (moreF_lt _ _) _).mono ?_; rintro e w3 ⟨A3, c3, rfl, hown3, hb3⟩
  go_wp2_with (first
    | (at_builtin; refine wpList_append_b rfl (.tmp 14) (.tmp 17) rfl w1.heap.size rfl (own_below hown2 hb3) rfl (Rd.of_own hown3) (by omega) (Nat.le_trans hb2.size hb3.size) ?_; intro A4 c4 w4 hown4 hg4 hb4; clear hg4)
    | fail)
  have hb14 : Below w1.heap.size w1 w4 := (below_then hb2 hb3 (Nat.le_refl _)).trans hb4
  have hown14 := own_below hown1 hb14
  have hl4 := hl'.below (below_then hb1 hb14 (Nat.le_refl _))
  have hb04 := below_then hb1 hb14 (Nat.le_refl _)
  clear hown1 hown2 hown3 hb1 hb2 hb3 hb4 hb14 hb02
  refine (same_any _ _ _ _ _ _ _ _ _ (Rd.of_own hown4) (Rd.of_own hown14) (maxLen_big (k := 2000) (by omega) (by omega)) (maxLen_big (k := 2000) (by omega) (by omega))).mono ?_
  rintro e w' ⟨rfl, q, rfl⟩
  rw [decide_eq_true (rfl : l' ++ leS 4 (moreF 0 l') = l' ++ leS 4 (moreF 0 l'))]
  have hc4 := own_cap hown4
  go_wp2_with fail
  refine (whole_any _ _ _ _ _ ((Rd.of_own hown4).drewN q) (by omega) hc4).mono ?_
  rintro e w5 ⟨rfl, hb5⟩
  rw [whole_with]
  have hb05 := below_then (below_drewN hb04 q) hb5 (Nat.le_refl _)
  have hb05' : w.heap.size ≤ (w4.drewN q).heap.size := hb04.size
  have hl5 := (hl4.drewN q).below hb5
  clear hb5 hl4 hown14 hown4
  by_cases h4 : 4 ≤ n'
  · have hr2 := hl5.take (k := n' - 4) (by omega)
    have hsp := whole_split l' (by rw [hl5.len]; exact h4)
    rw [hl5.len] at hsp
    have Hsp := Lib.hid hsp; clear hsp
    go_wp2_with fail
    refine (with_any _ _ _ _ _ hr2 (by omega)).mono ?_; rintro e w6 ⟨A6, c6, rfl, hown6, hb6⟩
    rw [show n' - 4 + 4 = n' by omega] at hown6
    go_wp2_with fail
    refine (same_any _ _ _ _ _ _ _ _ _ (hl5.below hb6) (Rd.of_own hown6) hm1 (maxLen_big hn1 (by omega))).mono ?_
    rintro e w' ⟨rfl, q6, rfl⟩
    rw [← Hsp.out]
    go_wp2_with fail
    refine (whole_any _ _ _ _ _ ((hl5.below hb6).drewN q6) (by omega) (by omega)).mono ?_
    rintro e w7 ⟨rfl, hb7⟩
    have hb07 := (below_drewN (below_then hb05 hb6 (Nat.le_refl _)) q6).trans (hb7.mono (below_drewN (below_then hb05 hb6 (Nat.le_refl _)) q6).size)
    generalize wholeF l' = b at *
    go_wp2_with fail
    refine (lives_any _).mono ?_; rintro e w8 ⟨rfl, hb8⟩
    go_wp2
    go_ret
    exact ⟨rfl, hb07.trans (hb8.mono hb07.size)⟩
  · have hwf : wholeF l' = false := decide_eq_false (fun x => h4 (by rw [hl5.len] at x; exact x.1))
    have Hwf := Lib.hid hwf; clear hwf
    go_wp2_with fail
    refine (whole_any _ _ _ _ _ hl5 (by omega) (by omega)).mono ?_
    rintro e w7 ⟨rfl, hb7⟩
    rw [Hwf.out]
    go_wp2_with fail
    refine (lives_any _).mono ?_; rintro e w8 ⟨rfl, hb8⟩
    go_wp2
    go_ret
    have hb07 := below_then hb05 hb7 (Nat.le_refl _)
    exact ⟨rfl, hb07.trans (hb8.mono hb07.size)⟩

theorem crcBursts_any (A : Option Addr) (n c : Nat) (f : Int) (b : Nat) (l : List UInt8) (w : World) (hf1 : -9223372036854775808 ≤ f) (hf2 : f ≤ 9223372036854775807) (hb : b < 4294967296) (hl : Rd w A n l) (hnc : n ≤ c) (hc : c ≤ maxLen) :
    Calls Try.prog 6 #[.slice A n c, .int .i64 f, .int .u32 b] w fun e w' => e = .returned (.bool true) ∧ Below w.heap.size w w' := by
  obtain ⟨F, hF⟩ : ∃ F : Nat, (if f < 0 then -(f + 1) else f) = F := ⟨(if f < 0 then -(f + 1) else f).toNat, by split <;> omega⟩
  by_cases hneg : f < 0
  · rw [if_pos hneg] at hF
    go_enter Try.func6, Try.ntmps6
    go_wp2_with fail
    refine (few_any A n c 1000 l _ hl (by omega) hnc (by unfold maxLen; omega)).mono ?_
    rintro e w' ⟨⟨n', rfl, hn1, hn2, hl'⟩, rfl⟩
    generalize l.take 1000 = l' at *
    go_wp2_with fail
    refine (with_any _ _ _ _ _ hl' (by omega)).mono ?_; rintro e w1 ⟨A1, c1, rfl, hown1, hb1⟩
    have hbu := fun p => burst (l' ++ leS 4 (moreF 0 l')) p b (by simp [leS_len]) (whole_with l')
    have hwh := whole_with l'
    generalize l' ++ leS 4 (moreF 0 l') = W at *
    have hc1 := own_cap hown1
    obtain ⟨p, hp, hplt⟩ : ∃ p : Nat, ((F : Int) % (8 * ((n' : Int) + 4))) = (p : Nat) ∧ p < 8 * (n' + 4) := ⟨F % (8 * (n' + 4)), by simp, Nat.mod_lt _ (by omega)⟩
    have hbp := hbu p
    clear hbu
    have Hbp := Lib.hid hbp; have Hwh := Lib.hid hwh; clear hbp hwh
    go_wp2_with fail
    refine (turned_any _ _ _ p _ _ _ (Rd.of_own hown1) (by omega) (by omega) hb).mono ?_
    rintro e w2 ⟨A2, c2, rfl, hown2, hb2⟩
    have hc2 := own_cap hown2
    have hr1 := (Rd.of_own hown1).below hb2
    have hr2 := Rd.of_own hown2
    have hb02 := below_then hb1 hb2 (Nat.le_refl _)
    clear hown1 hown2
    go_wp2_with fail
    refine (whole_any _ _ _ _ _ hr1 (by omega) hc1).mono ?_
    rintro e w3 ⟨rfl, hb3⟩
    have hr3 := hr2.below hb3
    rw [Hwh.out]
    go_wp2_with fail
    refine (whole_any _ _ _ _ _ hr3 (by omega) hc2).mono ?_
    rintro e w4 ⟨rfl, hb4⟩
    rw [Hbp.out]
    have hb04 := below_then (below_then hb02 hb3 (Nat.le_refl _)) hb4 (Nat.le_refl _)
    generalize turnS W p b 32 = s at *
    go_wp2_with fail
    refine (lives_any _).mono ?_; rintro e w5 ⟨rfl, hb5⟩
    go_wp2
    go_ret
    exact ⟨rfl, hb04.trans (hb5.mono hb04.size)⟩
  · rw [if_neg hneg] at hF
    subst hF
    have hneg' : ¬ ((F : Nat) : Int) < 0 := by omega
    clear hneg
    go_enter Try.func6, Try.ntmps6
    go_wp2_with fail
    refine (few_any A n c 1000 l _ hl (by omega) hnc (by unfold maxLen; omega)).mono ?_
    rintro e w' ⟨⟨n', rfl, hn1, hn2, hl'⟩, rfl⟩
    generalize l.take 1000 = l' at *
    go_wp2_with fail
    refine (with_any _ _ _ _ _ hl' (by omega)).mono ?_; rintro e w1 ⟨A1, c1, rfl, hown1, hb1⟩
    have hbu := fun p => burst (l' ++ leS 4 (moreF 0 l')) p b (by simp [leS_len]) (whole_with l')
    have hwh := whole_with l'
    generalize l' ++ leS 4 (moreF 0 l') = W at *
    have hc1 := own_cap hown1
    obtain ⟨p, hp, hplt⟩ : ∃ p : Nat, ((F : Int) % (8 * ((n' : Int) + 4))) = (p : Nat) ∧ p < 8 * (n' + 4) := ⟨F % (8 * (n' + 4)), by simp, Nat.mod_lt _ (by omega)⟩
    have hbp := hbu p
    clear hbu
    have Hbp := Lib.hid hbp; have Hwh := Lib.hid hwh; clear hbp hwh
    go_wp2_with fail
    refine (turned_any _ _ _ p _ _ _ (Rd.of_own hown1) (by omega) (by omega) hb).mono ?_
    rintro e w2 ⟨A2, c2, rfl, hown2, hb2⟩
    have hc2 := own_cap hown2
    have hr1 := (Rd.of_own hown1).below hb2
    have hr2 := Rd.of_own hown2
    have hb02 := below_then hb1 hb2 (Nat.le_refl _)
    clear hown1 hown2
    go_wp2_with fail
    refine (whole_any _ _ _ _ _ hr1 (by omega) hc1).mono ?_
    rintro e w3 ⟨rfl, hb3⟩
    have hr3 := hr2.below hb3
    rw [Hwh.out]
    go_wp2_with fail
    refine (whole_any _ _ _ _ _ hr3 (by omega) hc2).mono ?_
    rintro e w4 ⟨rfl, hb4⟩
    rw [Hbp.out]
    have hb04 := below_then (below_then hb02 hb3 (Nat.le_refl _)) hb4 (Nat.le_refl _)
    generalize turnS W p b 32 = s at *
    go_wp2_with fail
    refine (lives_any _).mono ?_; rintro e w5 ⟨rfl, hb5⟩
    go_wp2
    go_ret
    exact ⟨rfl, hb04.trans (hb5.mono hb04.size)⟩

theorem zip3_get (a b c : List UInt8) (k : Nat) (h1 : k < a.length) (h2 : k < b.length) (h3 : k < c.length) :
    ((List.zipWith (· ^^^ ·) (List.zipWith (· ^^^ ·) a b) c)[k]?.getD 0) = (a[k]?.getD 0) ^^^ (b[k]?.getD 0) ^^^ (c[k]?.getD 0) := by
  simp [List.getElem?_zipWith, List.getElem?_eq_getElem h1, List.getElem?_eq_getElem h2, List.getElem?_eq_getElem h3]
theorem xor_u8 (x y : UInt8) : bits .xor .u8 (x.toNat : Nat) (y.toNat : Nat) = (((x ^^^ y).toNat : Nat) : Int) := by
  rw [u8_xor_nat _ _ x.toNat_lt y.toNat_lt, UInt8.toNat_xor]

theorem crcThree_any (A B C : Option Addr) (n c m d k e : Nat) (l r t : List UInt8) (w : World) (hl : Rd w A n l) (hnc : n ≤ c) (hc : c ≤ maxLen)
    (hr : Rd w B m r) (hmd : m ≤ d) (hd : d ≤ maxLen) (ht : Rd w C k t) (hke : k ≤ e) (he : e ≤ maxLen) :
    Calls Try.prog 7 #[.slice A n c, .slice B m d, .slice C k e] w fun e w' => e = .returned (.bool true) ∧ Below w.heap.size w w' := by
  go_enter Try.func7, Try.ntmps7
  go_wp2_with fail
  refine (few_any A n c 1000 l _ hl (by omega) hnc (by unfold maxLen; omega)).mono ?_
  rintro e w' ⟨⟨n1, rfl, hn1, hn2, hl1⟩, rfl⟩
  go_wp2_with fail
  refine (few_any A n1 c m _ _ hl1 (by omega) (by omega) (by omega)).mono ?_
  rintro e w' ⟨⟨n2, rfl, hn3, hn4, hl2⟩, rfl⟩
  go_wp2_with fail
  refine (few_any A n2 c k _ _ hl2 (by omega) (by omega) (by omega)).mono ?_
  rintro e w' ⟨⟨n3, rfl, hn5, hn6, hl3⟩, rfl⟩
  have hr3 := hr.take (k := n3) (by omega)
  have ht3 := ht.take (k := n3) (by omega)
  have hn7 : n3 ≤ d := by omega
  have hn8 : n3 ≤ e := by omega
  have hn9 : n3 ≤ 1000 := by omega
  generalize ((l.take 1000).take m).take k = l3 at *
  generalize r.take n3 = r3 at *
  generalize t.take n3 = t3 at *
  clear hl1 hl2 hl hr ht
  have H3 := Lib.hid (moreF_three l3 r3 t3 (by rw [hl3.len, hr3.len]) (by rw [hl3.len, ht3.len]))
  have HZ := Lib.hid (zip3_get l3 r3 t3)
  have HL := Lib.hid (show (List.zipWith (· ^^^ ·) (List.zipWith (· ^^^ ·) l3 r3) t3).length = n3 by simp [hl3.len, hr3.len, ht3.len])
  generalize List.zipWith (· ^^^ ·) (List.zipWith (· ^^^ ·) l3 r3) t3 = Z at *
  have Hl := Lib.hid hl3.len; have Hr := Lib.hid hr3.len; have Ht := Lib.hid ht3.len
  go_wp2_with fail
  go_loopw [7, 8] (fun v i wr => ∃ j : Nat, j ≤ n3 ∧ i = .int .i64 j ∧ ∃ A c, v = .slice A j c ∧ wr.ownsRow w.heap.size 5 1 (.slice A j c) j ((Z.take j).map vb) ∧ Below w.heap.size w wr) (fun _ i _ => n3 - (intOf i).toNat)
  case atStart => exact ⟨0, Nat.zero_le _, rfl, _, _, rfl, own_nil _ _, Below.refl _ _⟩
  case round =>
    obtain ⟨j, hj, rfl, A9, c9, rfl, hown, hbr⟩ := hrel
    by_cases hlt : j < n3
    · obtain ⟨pa, rfl, hca⟩ := hl3.at_ hlt
      obtain ⟨pb, rfl, hcb⟩ := hr3.at_ hlt
      obtain ⟨pc, rfl, hcc⟩ := ht3.at_ hlt
      have fa := after_cell (B := w.heap.size) (w := wr) ((hbr.cell (lt_of_cell hca)).trans hca) (lt_of_cell hca)
      have fb := after_cell (B := w.heap.size) (w := wr) ((hbr.cell (lt_of_cell hcb)).trans hcb) (lt_of_cell hcb)
      have fc := after_cell (B := w.heap.size) (w := wr) ((hbr.cell (lt_of_cell hcc)).trans hcc) (lt_of_cell hcc)
      clear hca hcb hcc
      have hz := HZ.out j (by rw [Hl.out]; exact hlt) (by rw [Hr.out]; exact hlt) (by rw [Ht.out]; exact hlt)
      obtain ⟨xa, hxa⟩ : ∃ x, l3[j]?.getD 0 = x := ⟨_, rfl⟩
      obtain ⟨xb, hxb⟩ : ∃ x, r3[j]?.getD 0 = x := ⟨_, rfl⟩
      obtain ⟨xc, hxc⟩ : ∃ x, t3[j]?.getD 0 = x := ⟨_, rfl⟩
      rw [hxa, hxb, hxc] at hz
      rw [hxa] at fa; rw [hxb] at fb; rw [hxc] at fc
      obtain ⟨y1, hy1⟩ : ∃ y, xa ^^^ xb = y := ⟨_, rfl⟩
      obtain ⟨y2, hy2⟩ : ∃ y, y1 ^^^ xc = y := ⟨_, rfl⟩
      have x1 := xor_u8 xa xb
      have x2 := xor_u8 y1 xc
      rw [hy1] at x1; rw [hy2] at x2
      have hts := take_snoc Z 0 j (by rw [HL.out]; exact hlt)
      rw [hz, hy1, hy2] at hts
      have Hts := Lib.hid hts
      clear hxa hxb hxc hz hy1 hy2 hts
      have hy2b : y2.toNat < 256 := y2.toNat_lt
      go_wp2_with fail
      refine wp_region_mix (C := laterW w.heap.size wr) [([0, 1, 2, 3, 4, 5, 6, 7, 8, 9, 10, 11, 12, 13, 14], 15), ([], 16)] [17] (by kernel_rfl) (by kernel_rfl) (fun _ _ _ _ e h => ⟨e.symm.trans h.1, h.2⟩) (laterW_of (Below.refl _ _).drew) ?_
      refine wpSegs_step fun K1 hK1 => ?_
      simp only [pickL, List.getElem?_cons_zero, List.getElem?_cons_succ]
      repeat (go_big_quiet_step (fail))
      refine wpQuiet_nil ?_
      go_wp2_with fail
      have hb1 : Below w.heap.size wr (wr.alloc (.cells #[.int .u8 (y2.toNat : Nat)] 5)).drew := ((Below.refl _ _).alloc hbr.size _).drew
      refine ⟨laterW_of hb1, hK1 _ _ ?_⟩
      refine wpSegs_step fun K2 hK2 => ?_
      simp only [pickL, List.getElem?_cons_zero, List.getElem?_cons_succ]
      refine wpQuiet_nil ?_
      go_wp2_with (first
        | (at_builtin; refine wpList_append_b rfl (.tmp 31) (.tmp 46) rfl w.heap.size (r := [y2]) rfl ((hown.alloc _).drew) rfl (Rd.one _ _ _ _ rfl).drew (by omega) (by have := hb1.size; have := hbr.size; omega) ?_; intro A3 c3 w3 hown3 hg3 hb3; clear hg3)
        | fail)
      have hb03 := hb1.trans hb3
      refine ⟨laterW_of hb03, hK2 _ _ ?_⟩
      refine wpSegs_last ?_
      simp only [pickL, List.getElem?_cons_zero, List.getElem?_cons_succ]
      repeat (go_big_quiet_step (fail))
      refine wpQuiet_nil ?_
      go_wp2
      go_roundw
      case rel => exact ⟨j + 1, by omega, by go_num, A3, c3, rfl, by rw [Hts.out]; exact hown3, hbr.trans hb03⟩
      case measure => simp [intOf]; omega
    · obtain rfl : j = n3 := by omega
      have hz : Z.take j = Z := List.take_of_length_le (by rw [HL.out]; omega)
      rw [hz] at hown
      have hlw := hl3.below hbr
      have hrw := hr3.below hbr
      have htw := ht3.below hbr
      have hm : j ≤ maxLen := maxLen_big hn9 (by omega)
      clear hz hl3 hr3 ht3
      go_wp2_with fail
      refine (sum_any _ _ _ _ _ hlw hm).mono ?_; rintro e w' ⟨rfl, rfl⟩
      go_wp2_with fail
      refine (sum_any _ _ _ _ _ hrw hm).mono ?_; rintro e w' ⟨rfl, rfl⟩
      have m1 := moreF_lt 0 l3
      have m2 := moreF_lt 0 r3
      have m3 := moreF_lt 0 t3
      have x1 := xor_any _ _ m1 m2
      have x2 := xor_any (moreF 0 l3 ^^^ moreF 0 r3) _ (xor_lt m1 m2) m3
      rw [H3.out] at x2
      generalize moreF 0 l3 ^^^ moreF 0 r3 = y at *
      go_wp2_with fail
      refine (sum_any _ _ _ _ _ htw hm).mono ?_; rintro e w' ⟨rfl, rfl⟩
      go_wp2_with fail
      refine (sum_any _ _ _ _ _ (Rd.of_own hown) hm).mono ?_; rintro e w' ⟨rfl, rfl⟩
      go_wp2_with fail
      refine (lives_any _).mono ?_; rintro e w8 ⟨rfl, hb8⟩
      go_wp2
      go_ret
      exact ⟨rfl, hbr.trans (hb8.mono hbr.size)⟩
end Go.Proofs.Ytfhfpcihbclanaa
