/-
  The law TrackRising.
-/
import Derived.Test.YtojmkbhihnnmaaaT30
namespace Go.Proofs.Ytojmkbhihnnmaaa
open Go.RowKit

theorem slice_thousand {t : Trk} (h : t.L.length ≤ 1000) : t.sliceF (t.index + 1) 1000 = t.L := by
  unfold Trk.sliceF
  rw [if_neg (by omega), show (t.index + 1 - t.index - 1).toNat = 0 by omega, List.drop_zero, List.take_of_length_le (by omega)]
theorem plain_ent {x : En} (h : plainB x = true) : entE x = 0 := of_decide_eq_true h
set_option maxRecDepth 100000 in
set_option maxHeartbeats 4000000 in
theorem trackRising_any {A : Option Addr} {n c : Nat} {rs : List Dr} {w : World} (i tm : Int) (hD : DdsV w.heap.size w A n rs) :
    Calls Try.prog 11 #[.int .i64 i, .int .i64 tm, .slice A n c] w fun e w' => e = .returned (.bool true) ∧ Below w.heap.size w w' := by
  cases hb : baseB i tm with
  | false =>
    have h1 := tnew_nil hb w
    have h2 := rnew_nil hb w
    go_enter Try.func11, Try.ntmps11
    go_wp2_with fail
    refine h1.mono ?_
    rintro e w1 ⟨rfl, rfl⟩
    go_wp2_with fail
    refine h2.mono ?_
    rintro e w1 ⟨rfl, rfl⟩
    go_wp2_with fail
    refine (tlives_any w).mono ?_
    rintro e w1 ⟨rfl, hb1⟩
    go_wp2_with fail
    go_ret
    exact ⟨rfl, hb1⟩
  | true =>
    have h1 := tnew_ok hb w
    go_enter Try.func11, Try.ntmps11
    go_wp2_with fail
    refine h1.mono ?_
    rintro e w1 ⟨rfl, hk1, hb1⟩
    have h2 := rnew_ok hb w1
    go_wp2_with fail
    refine h2.mono ?_
    rintro e w2 ⟨rfl, hk2, hb2⟩
    have hP := two_new hb hb1 hk1 hb2 hk2
    have hb02 := below_then hb1 hb2 (Nat.le_refl _)
    clear h1 h2 hk1 hk2 hb1 hb2
    generalize w1.heap.size = gr at *
    obtain ⟨z, hz⟩ : ∃ z, w.heap.size = z := ⟨_, rfl⟩
    rw [hz] at hP hD hb02 ⊢
    go_wp2_with fail
    go_loopw [9] (fun i' wr => ∃ (k : Nat) (t' : Trk) (M : Nat), k ≤ n ∧ k ≤ 40 ∧ i' = .int .i64 k ∧ Two z M wr z gr t' t' ∧ t'.L.length ≤ 12 * k ∧ Below z w wr) (fun i' _ => 40 - (intOf i').toNat)
    case atStart => exact ⟨0, _, _, Nat.zero_le _, Nat.zero_le _, rfl, hP, Nat.le_refl _, hb02⟩
    case round =>
      clear hP hb02
      obtain ⟨k, t0, M, hk, hk4, rfl, hP, hL, hbw⟩ := hrel
      by_cases hlt : k < n
      · by_cases hl4 : k < 40
        · obtain ⟨ad, r, rfl, hr, hv, c0, c1, c2, c3, c4, c5, c6, c7⟩ := (hD.below hbw).at_ hlt
          have hcall := tdoes_any hP (by omega) hv
          have hL2 := doF_len t0 r.x
          unfold ddV at hcall
          clear hr
          have hmeas := Lib.hid (show 40 - (k + 1) < 40 - k by omega)
          go_wp2_with fail
          refine hcall.mono ?_
          rintro e w3 ⟨rfl, M3, hP3, hb3⟩
          clear hcall c0 c1 c2 c3 c4 c5 c6 c7
          generalize t0.doF r.x = t at *
          have hL3 : t.L.length ≤ 12 * (k + 1) := by omega
          have hL4 : t.L.length ≤ 1000 := by omega
          clear hL2 hL
          obtain ⟨S, At, n1, ct, zs, A2, n2, c2, zs2, h1, h2, _⟩ := id hP3
          have hbase := tbase_any h1
          have hinv := h1.i
          have hib := hinv.b
          have hn1 := h1.nlen hL4
          go_wp2_with fail
          refine hbase.mono ?_
          rintro e w4 ⟨rfl, q, rfl⟩
          have hb34 : Below w3.heap.size w3 (w3.drewN q) := below_drewN (Below.refl _ _) q
          have hsl := tslice_any (t.index + 1) 1000 (h1.below hb34) (by omega)
          rw [slice_thousand hL4] at hsl
          clear hbase
          go_wp2_with fail
          generalize w3.drewN q = w4 at *
          refine hsl.mono ?_
          rintro e w5 ⟨A5, n5, c5, zs5, rfl, hE5, hb5⟩
          have hb35 := below_then hb34 hb5 (Nat.le_refl _)
          have hl5 := hE5.len
          have hmap5 := hE5.2.2
          obtain ⟨hl5a, hl5b⟩ := hl5
          have hr5 : RdE w5 A5 n5 zs5 := Rds.of_own hE5.1
          have hd5 := hE5.2.1
          clear hsl hb34 hb5
          go_wp2_with fail
          rename_i K1 a1
          go_loopw [11, 13] (fun la i' w2 => ∃ j : Nat, j ≤ n5 ∧ i' = .int .i64 j ∧ la = .int .i64 (prevT t.term t.L j) ∧ Below w5.heap.size w5 w2) (fun _ i' _ => n5 - (intOf i').toNat)
          case atStart => exact ⟨0, Nat.zero_le _, rfl, rfl, Below.refl _ _⟩
          case round =>
            obtain ⟨j, hj, rfl, rfl, hbi⟩ := hrel
            rename World => wi
            by_cases hlj : j < n5
            · obtain ⟨bd, v3, x, rfl, hx, o0, o1, o2, o3, o4, o5⟩ := (hr5.below hbi).at_ hlj
              have fx := (hd5 _ (List.mem_of_getElem? hx)).move (TStay.below hbi)
              obtain ⟨B1, m1, d1, hv1, l1, l2, l3⟩ := fx.form
              obtain rfl : v3 = _ := hv1
              have hxL : t.L[j]? = some x := by rw [← hmap5, List.getElem?_map, hx]; rfl
              have hxi := hinv.idx j x hxL
              have hxm := hinv.mono j x hxL
              have hnext := Lib.hid (show prevT t.term t.L (j + 1) = x.term by rw [prevT_succ, hxL])
              have hcall := refputentry_any _ (.slice none 0 0) 0 x B1 m1 d1 wi (Bn.nil _) (by omega) fx (Nat.le_trans l1 l2)
              rw [plain_ent (hinv.plain x (List.mem_of_getElem? hxL))] at hcall
              unfold enV at hcall
              generalize prevT t.term t.L j = pv at *
              have hmeas' := Lib.hid (show n5 - (j + 1) < n5 - j by omega)
              rw [hxi] at hcall o0
              have i3 : ¬ x.term < pv := by omega
              have hj5 : j ≤ 1000 := by omega
              clear hx hxL hxm fx
              have hxi := Lib.hid hxi
              go_wp2_with fail
              refine hcall.mono ?_
              rintro e w6 ⟨v6, rfl, hb6⟩
              have p0 := (hb6.cell (lt_of_cell o0)).trans o0
              have p1 := (hb6.cell (lt_of_cell o1)).trans o1
              clear hcall o0 o1 o2 o3 o4 o5
              go_wp2_with fail
              first
                | (refine ⟨?_, by simp [intOf]; have := hmeas'.out; omega⟩; first | exact ⟨j + 1, hlj, by go_num, by rw [hnext.out], below_then hbi hb6 (Nat.le_refl _)⟩ | ((repeat apply Exists.intro); (repeat apply Exists.intro); (repeat apply Exists.intro); (repeat apply Exists.intro); refine ⟨?_, rfl⟩; exact ⟨j + 1, hlj, by go_num, by rw [hnext.out], below_then hbi hb6 (Nat.le_refl _)⟩))
            · obtain rfl : j = n5 := by omega
              have hend := tend_below (h1.below (below_then hb35 hbi (Nat.le_refl _))) (by omega)
              have hlt1 := t.lastT
              have hla1 := hinv.last
              rw [hlt1, hla1, hl5b] at hend
              generalize prevT t.term t.L j = pv at *
              have hj5 : j ≤ 1000 := by omega
              go_wp2_with fail
              refine hend.mono ?_
              rintro e w7 ⟨rfl, hb7⟩
              have hb37 := below_then (below_then hb35 hbi (Nat.le_refl _)) hb7 (Nat.le_refl _)
              clear hend
              go_wp2_with fail
              go_roundw
              case rel => exact ⟨k + 1, _, _, hlt, hl4, by go_num, hP3.below hb37, by omega, (hbw.trans hb3).trans (hb37.mono hP3.zw)⟩
              case measure => simp [intOf]; have := hmeas.out; omega
        · have hl4' : ¬ (k : Int) < 40 := by omega
          go_wp2_with fail
          refine (tlives_any wr).mono ?_
          rintro e w5 ⟨rfl, hb5⟩
          go_wp2_with fail
          go_ret
          exact ⟨rfl, by rw [hz]; exact hbw.trans (hb5.mono hP.zw)⟩
      · have hl4' : ¬ (k : Int) < n := by omega
        go_wp2_with fail
        refine (tlives_any wr).mono ?_
        rintro e w5 ⟨rfl, hb5⟩
        go_wp2_with fail
        go_ret
        exact ⟨rfl, by rw [hz]; exact hbw.trans (hb5.mono hP.zw)⟩
end Go.Proofs.Ytojmkbhihnnmaaa
