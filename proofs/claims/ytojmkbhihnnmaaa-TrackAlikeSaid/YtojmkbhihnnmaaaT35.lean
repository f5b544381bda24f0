/-
  The law TrackAlike.
-/
import Derived.Test.YtojmkbhihnnmaaaT33
namespace Go.Proofs.Ytojmkbhihnnmaaa
open Go.RowKit

section
variable {z M : Nat} {w w' : World} {ga gb : Nat} {t t' u : Trk}
theorem pt_put (tm : Int) (x : En) (V : Option Addr) (m d : Nat) (h : Pt z w ga gb t u) (hN : t.L.length ≤ 1000000) (hf : FactsV (fun j => j < z) w (.slice V m d) x.facts) (hm : m ≤ maxLen) :
    Calls Try.prog 44 #[.pointer (some ⟨ga, 0, none⟩), .int .i64 tm, cmdV x (.slice V m d)] w fun e w' => ∃ vy, e = .returned (.tuple #[enV (t.putF tm x).1.1 vy, .int .i64 (t.putF tm x).1.2]) ∧ Pt z w' ga gb (t.putF tm x).2 u ∧ Below z w w' := by
  obtain ⟨S, A, n, c, zs, S2, A2, n2, c2, zs2, h1, h2, h3, h4, h5⟩ := h
  refine (tput_any (fun j => j < z) tm x V m d h1 (h1.nlen hN) h5 hf hm fun j hj hx => ?_).mono ?_
  · rcases hx with hx | hx
    · have := h1.g; omega
    · have := (h1.rowlt j hx).2.1; omega
  · rintro e w' ⟨vy, he, M', q1, q2, q3⟩
    exact ⟨vy, he, pt_act h1 h2 h3 h4 h5 q3⟩
theorem pt_take (S9 : Nat → Prop) (idx tm : Int) (A9 : Option Addr) (m c9 : Nat) (ys : List (Value × En)) (h : Pt z w ga gb t u) (hN : t.L.length ≤ 1000000) (hr : RdE w A9 m ys) (hd : DeepE S9 w ys) (hm : m ≤ 100000) (hmc : m ≤ c9) (hcc : c9 ≤ maxLen)
    (hS : ∀ j, S9 j → j ≠ ga) (hA : 0 < m → ∀ j, rowOf A9 j → j ≠ ga) : Calls Try.prog 47 #[.pointer (some ⟨ga, 0, none⟩), .int .i64 idx, .int .i64 tm, .slice A9 m c9] w fun e w' =>
      e = .returned (.tuple #[.int .i64 (t.takeF idx tm (ys.map (·.2))).1.1, .bool (t.takeF idx tm (ys.map (·.2))).1.2]) ∧ Pt z w' ga gb (t.takeF idx tm (ys.map (·.2))).2 u ∧ Below z w w' := by
  obtain ⟨S, A, n, c, zs, S2, A2, n2, c2, zs2, h1, h2, h3, h4, h5⟩ := h
  refine (ttake_any S9 idx tm A9 m c9 ys h1 (h1.nlen hN) h5 hr hd hm hmc hcc hS hA).mono ?_
  rintro e w' ⟨he, hP⟩
  exact ⟨he, pt_act h1 h2 h3 h4 h5 hP⟩
theorem pt_end (h : Pt z w ga gb t u) (hN : t.L.length ≤ 1000000) (h0 : t.index = 0) : Calls Try.prog 43 #[.pointer (some ⟨ga, 0, none⟩)] w fun e w' => e = .returned (.tuple #[.int .i64 (t.L.length : Nat), .int .i64 t.lastF.2]) ∧ Below w.heap.size w w' := by
  obtain ⟨S, A, n, c, zs, S2, A2, n2, c2, zs2, h1, h2, h3, h4, h5⟩ := h
  have := tend_below h1 (h1.nlen hN)
  rw [h1.i.last, h0, Int.zero_add] at this
  exact this
theorem pt_term (i : Int) (h : Pt z w ga gb t u) (hN : t.L.length ≤ 1000000) : Calls Try.prog 46 #[.pointer (some ⟨ga, 0, none⟩), .int .i64 i] w fun e w' => e = .returned (.tuple #[.int .i64 (t.termF i).1, .int .i64 (t.termF i).2]) ∧ Below w.heap.size w w' := by
  obtain ⟨S, A, n, c, zs, S2, A2, n2, c2, zs2, h1, h2, h3, h4, h5⟩ := h
  exact tterm_below i h1 (h1.nlen hN)
theorem pt_slice (i m : Int) (h : Pt z w ga gb t u) (hN : t.L.length ≤ 1000000) : Calls Try.prog 41 #[.pointer (some ⟨ga, 0, none⟩), .int .i64 i, .int .i64 m] w fun e w' => ∃ A' n' c' zs', e = .returned (.slice A' n' c') ∧ EsNew w.heap.size w' A' n' c' zs' (t.sliceF i m) ∧ Below w.heap.size w w' := by
  obtain ⟨S, A, n, c, zs, S2, A2, n2, c2, zs2, h1, h2, h3, h4, h5⟩ := h
  exact tslice_any i m h1 (h1.nlen hN)
end
/-- a move of the law -/
structure Mv where
  copy : Bool
  term : Int
  cmd : En
  frm : Int
  cnt : Int
  V : Option Addr
  m : Nat
  d : Nat
def mvC (r : Mv) : List Value := [.bool r.copy, vi r.term, vi r.cmd.op, vi r.cmd.sess, vi r.cmd.seq, .slice r.V r.m r.d, vi r.frm, vi r.cnt]
theorem mvC_len (r : Mv) : (mvC r).length = 8 := rfl
structure MvOk (z : Nat) (w : World) (r : Mv) : Prop where
  f : FactsV (fun j => j < z) w (.slice r.V r.m r.d) r.cmd.facts
  md : r.m ≤ r.d ∧ r.d ≤ maxLen
  t : -9223372036854775808 ≤ r.term ∧ r.term ≤ 9223372036854775807
  s : -9223372036854775808 ≤ r.frm ∧ r.frm ≤ 9223372036854775807
  c : -9223372036854775808 ≤ r.cnt ∧ r.cnt ≤ 9223372036854775807
/-- the moves handed in -/
structure MvsV (z : Nat) (w : World) (A : Option Addr) (n : Nat) (rs : List Mv) : Prop where
  r : Rds w 8 A n (rs.flatMap mvC)
  b : 0 < n → ∀ ad, A = some ad → ad.block < z
  v : ∀ r ∈ rs, MvOk z w r
section
variable {z : Nat} {w w' : World} {n : Nat} {A : Option Addr} {rs : List Mv}
theorem MvOk.below {r : Mv} (h : MvOk z w r) (hb : Below z w w') : MvOk z w' r := ⟨h.f.keep (Stay.lt hb), h.md, h.t, h.s, h.c⟩
theorem MvsV.len (h : MvsV z w A n rs) : rs.length = n := by
  have := h.r.1
  rw [flat_len mvC_len] at this
  omega
theorem MvsV.below (h : MvsV z w A n rs) (hb : Below z w w') : MvsV z w' A n rs :=
  ⟨Rds.stay (S := fun j => j < z) h.r (fun h0 ad e => h.b h0 ad e) (Stay.lt hb), h.b, fun r hr => (h.v r hr).below hb⟩
theorem MvsV.at_ (h : MvsV z w A n rs) {i : Nat} (hi : i < n) :
    ∃ ad r, A = some ad ∧ rs[i]? = some r ∧ MvOk z w r ∧ (ad.add (i * 8)).block < z ∧ w.cell? (ad.add (i * 8)) = some (.bool r.copy) ∧ w.cell? ⟨(ad.add (i * 8)).block, (ad.add (i * 8)).off + 1, none⟩ = some (.int .i64 r.term) ∧
      w.cell? ⟨(ad.add (i * 8)).block, (ad.add (i * 8)).off + 2, none⟩ = some (.int .i64 r.cmd.op) ∧ w.cell? ⟨(ad.add (i * 8)).block, (ad.add (i * 8)).off + 3, none⟩ = some (.int .i64 r.cmd.sess) ∧
      w.cell? ⟨(ad.add (i * 8)).block, (ad.add (i * 8)).off + 4, none⟩ = some (.int .i64 r.cmd.seq) ∧ w.cell? ⟨(ad.add (i * 8)).block, (ad.add (i * 8)).off + 5, none⟩ = some (.slice r.V r.m r.d) ∧
      w.cell? ⟨(ad.add (i * 8)).block, (ad.add (i * 8)).off + 6, none⟩ = some (.int .i64 r.frm) ∧ w.cell? ⟨(ad.add (i * 8)).block, (ad.add (i * 8)).off + 7, none⟩ = some (.int .i64 r.cnt) := by
  have hl := h.len
  obtain ⟨ad, rfl, hc⟩ := h.r.2 (by omega)
  have hz : rs[i]? = some (rs[i]'(by omega)) := List.getElem?_eq_getElem (by omega)
  obtain ⟨r, hr⟩ : ∃ r, r = rs[i]'(by omega) := ⟨_, rfl⟩
  rw [← hr] at hz
  have key : ∀ j u, j < 8 → (mvC r)[j]? = some u → w.cell? (ad.add (i * 8 + j)) = some u := fun j u hj hu => hc _ _ ((flat_at mvC_len hj hz).trans hu)
  have c0 := key 0 _ (by omega) rfl
  have c1 := key 1 _ (by omega) rfl
  have c2 := key 2 _ (by omega) rfl
  have c3 := key 3 _ (by omega) rfl
  have c4 := key 4 _ (by omega) rfl
  have c5 := key 5 _ (by omega) rfl
  have c6 := key 6 _ (by omega) rfl
  have c7 := key 7 _ (by omega) rfl
  rw [← add_of_add, add_next _ _ (by omega)] at c1 c2 c3 c4 c5 c6 c7
  exact ⟨ad, r, rfl, hz, h.v _ (List.mem_of_getElem? hz), by rw [block_of_add]; exact h.b (by omega) ad rfl, c0, c1, c2, c3, c4, c5, c6, c7⟩
end
set_option maxRecDepth 100000 in
set_option maxHeartbeats 4000000 in
theorem trackAlike_any {A : Option Addr} {n c : Nat} {rs : List Mv} {w : World} (hD : MvsV w.heap.size w A n rs) :
    Calls Try.prog 12 #[.slice A n c] w fun e w' => e = .returned (.bool true) ∧ Below w.heap.size w w' := by
  have h1 := tnew_ok lv_j w
  go_enter Try.func12, Try.ntmps12
  go_wp2_with fail
  refine h1.mono ?_
  rintro e w1 ⟨rfl, hk1, hb1⟩
  have h2 := tnew_ok lv_j w1
  go_wp2_with fail
  refine h2.mono ?_
  rintro e w2 ⟨rfl, hk2, hb2⟩
  have hb02 := below_then hb1 hb2 (Nat.le_refl _)
  have hP : Pt w.heap.size w2 w.heap.size w1.heap.size lv0 lv0 := ⟨_, _, _, _, _, _, _, _, _, _, trk_new lv_j (hk1.kept hb2) (Nat.le_refl _), trk_new lv_j hk2 hb1.size, by have := hk1.lt; omega, fun j h => (by obtain ⟨_, h, _⟩ := h; cases h), by have := hb02.size; omega⟩
  have hQ : Pre lv0 lv0 := ⟨⟨rfl, rfl⟩, ⟨rfl, rfl⟩, 0, Nat.le_refl _, rfl⟩
  clear h1 h2 hk1 hk2 hb1 hb2
  generalize w1.heap.size = gb at *
  obtain ⟨z, hz⟩ : ∃ z, w.heap.size = z := ⟨_, rfl⟩
  rw [hz] at hP hD hb02 ⊢
  go_wp2_with fail
  go_loopw [5] (fun i' wr => ∃ (k : Nat) (a b : Trk), k ≤ n ∧ k ≤ 40 ∧ i' = .int .i64 k ∧ Pt z wr z gb a b ∧ Pre a b ∧ a.L.length ≤ k ∧ Below z w wr) (fun i' _ => 40 - (intOf i').toNat)
  case atStart => exact ⟨0, _, _, Nat.zero_le _, Nat.zero_le _, rfl, hP, hQ, Nat.le_refl _, hb02⟩
  case round =>
    clear hP hb02 hQ
    obtain ⟨k, a, b, hk, hk4, rfl, hP, hQ, hL, hbw⟩ := hrel
    by_cases hlt : k < n ∧ k < 40
    · obtain ⟨hlt, hl4⟩ := hlt
      obtain ⟨ad, r, rfl, hr, hv, hbz, c0, c1, c2, c3, c4, c5, c6, c7⟩ := (hD.below hbw).at_ hlt
      have hmeas := Lib.hid (show 40 - (k + 1) < 40 - k by omega)
      have hend := pt_end hP (by omega) hQ.a0.1
      have hzw := hP.zw
      clear hr
      obtain ⟨na, hna⟩ : ∃ l, a.L.length = l := ⟨_, rfl⟩
      obtain ⟨l2, hl2⟩ : ∃ l, a.lastF.2 = l := ⟨_, rfl⟩
      have hl2b := hP.inv.lastB
      rw [hna, hl2] at hend
      rw [hl2] at hl2b
      rw [hna] at hL
      go_wp2_with fail
      refine hend.mono ?_
      rintro e w3 ⟨rfl, hb3⟩
      have hP3 := hP.below hb3
      have hb3z := hb3.mono hzw
      have hv3 := hv.below hb3z
      have d0 := (hb3.cell (lt_of_cell c0)).trans c0
      have d1 := (hb3.cell (lt_of_cell c1)).trans c1
      have d2 := (hb3.cell (lt_of_cell c2)).trans c2
      have d3 := (hb3.cell (lt_of_cell c3)).trans c3
      have d4 := (hb3.cell (lt_of_cell c4)).trans c4
      have d5 := (hb3.cell (lt_of_cell c5)).trans c5
      have d6 := (hb3.cell (lt_of_cell c6)).trans c6
      have d7 := (hb3.cell (lt_of_cell c7)).trans c7
      clear c0 c1 c2 c3 c4 c5 c6 c7 hend
      obtain ⟨cp, hcp⟩ : ∃ cp, r.copy = cp := ⟨_, rfl⟩
      rw [hcp] at d0
      have hzw3 := hP3.zw
      cases cp with
      | false =>
        have k1 := keep_cell (gs := [(ad.add (k * 8)).block]) d1 (by simp)
        have k2 := keep_cell (gs := [(ad.add (k * 8)).block]) d2 (by simp)
        have k3 := keep_cell (gs := [(ad.add (k * 8)).block]) d3 (by simp)
        have k4 := keep_cell (gs := [(ad.add (k * 8)).block]) d4 (by simp)
        have k5 := keep_cell (gs := [(ad.add (k * 8)).block]) d5 (by simp)
        have hbd : Below w3.heap.size w3 w3.drew := (Below.refl _ _).drew
        have hpk := pick_any r.term 3 w3.drew hv.t.1 hv.t.2 (by omega) (by omega)
        have hpl := restF_lt r.term (m := 3) (by omega)
        generalize restF r.term 3 = pt at *
        have hput := pt_put (l2 + pt) r.cmd r.V r.m r.d (hP3.below hbd) (by omega) (hv3.below (hbd.mono hzw3)).f (by have := hv.md; omega)
        unfold cmdV at hput
        have hlen := putF_len a (l2 + pt) r.cmd
        have hQ' := hQ.put (l2 + pt) r.cmd
        clear d1 d2 d3 d4 d5 d6 d7
        go_wp2_with fail
        refine wp_region_mix (C := keepW [(ad.add (k * 8)).block] w3) [([0, 1, 2, 3, 4, 5, 6, 9, 10, 11, 12, 13], 7), ([8], 14)] [] (by kernel_rfl) (by kernel_rfl) (fun _ _ _ _ e h => ⟨e.symm.trans h.1, h.2⟩) keepW_refl ?_
        refine wpSegs_step fun K1 hK1 => ?_
        simp only [pickL, List.getElem?_cons_zero, List.getElem?_cons_succ]
        repeat (go_big_quiet_step (fail))
        refine wpQuiet_nil ?_
        go_wp2_with fail
        refine hpk.mono ?_
        rintro e w4 ⟨rfl, rfl⟩
        go_wp2_with fail
        refine ⟨keepW_of (fun _ _ => rfl), hK1 _ _ ?_⟩
        refine wpSegs_step fun K2 hK2 => ?_
        simp only [pickL, List.getElem?_cons_zero, List.getElem?_cons_succ]
        repeat (go_big_quiet_step (fail))
        refine wpQuiet_nil ?_
        go_wp2_with fail
        refine hput.mono ?_
        rintro e w5 ⟨vy, rfl, hP5, hb5⟩
        have hb35 := (hbd.mono hzw3).trans hb5
        go_wp2_with fail
        refine ⟨keepW_of (by simp; exact hb35.block _ hbz), hK2 _ _ ?_⟩
        refine wpSegs_last ?_
        simp only [pickL]
        refine wpQuiet_nil ?_
        go_wp2_with fail
        go_roundw
        case rel => exact ⟨k + 1, _, _, hlt, hl4, by go_num, hP5, hQ', by omega, (hbw.trans hb3z).trans hb35⟩
        case measure => simp [intOf]; have := hmeas.out; omega
      | true =>
        have hpk := pick_any r.frm (na + 1) w3 hv.s.1 hv.s.2 (by omega) (by omega)
        rw [show ((na + 1 : Nat) : Int) = (na : Int) + 1 by omega] at hpk
        have hfl := restF_lt r.frm (m := na + 1) (by omega)
        generalize restF r.frm (na + 1) = fr at *
        have hterm := pt_term fr hP3 (by omega)
        obtain ⟨t1, ht1⟩ : ∃ l, (a.termF fr).1 = l := ⟨_, rfl⟩
        obtain ⟨t2, ht2⟩ : ∃ l, (a.termF fr).2 = l := ⟨_, rfl⟩
        rw [ht1, ht2] at hterm
        clear d1 d2 d3 d4 d5
        go_wp2_with fail
        refine hpk.mono ?_
        rintro e w4 ⟨rfl, rfl⟩
        go_wp2_with fail
        refine hterm.mono ?_
        rintro e w4 ⟨rfl, hb4⟩
        have hP4 := hP3.below hb4
        have hb4z := hb4.mono hzw3
        have e7 := (hb4.cell (lt_of_cell d7)).trans d7
        clear hpk hterm d6 d7
        have hpk := pick_any r.cnt 6 w4 hv.c.1 hv.c.2 (by omega) (by omega)
        have hpl := restF_lt r.cnt (m := 6) (by omega)
        generalize restF r.cnt 6 = p at *
        have hsl := pt_slice ((fr : Int) + 1) p hP4 (by omega)
        rw [slice_mid hQ.a0.1] at hsl
        have hzw4 := hP4.zw
        go_wp2_with fail
        refine hpk.mono ?_
        rintro e w5 ⟨rfl, rfl⟩
        go_wp2_with fail
        refine hsl.mono ?_
        rintro e w5 ⟨A5, n5, c5, zs5, rfl, hE5, hb5⟩
        have hP5 := hP4.below hb5
        have hb5z := hb5.mono hzw4
        have hl5 := hE5.len
        have hc5 := own_bounds hE5.1
        have hgb := hP4.swap.lo
        have hn5 : n5 ≤ 10 := by have := hl5.2; rw [List.length_take] at this; omega
        have hQ' := hQ.take fr p t1
        have hbl := hQ.len
        have htake := pt_take (NewIn TD w4.heap.size w5) fr t1 A5 n5 c5 zs5 hP5.swap (by omega) (Rds.of_own hE5.1) hE5.2.1 (by omega) hc5.1 hc5.2 (fun j hj => by have := hj.1; omega) (fun _ j hj => by have := (own_row_blk hE5.1 A5 c5 rfl j hj).2.1; omega)
        rw [hE5.2.2] at htake
        generalize (a.L.drop fr).take p = L5 at *
        obtain ⟨⟨⟨q1, q2⟩, b'⟩, hb'⟩ : ∃ q, b.takeF fr t1 L5 = q := ⟨_, rfl⟩
        rw [hb'] at htake hQ'
        dsimp only at htake hQ'
        clear hpk hsl e7
        go_wp2_with fail
        refine htake.mono ?_
        rintro e w6 ⟨rfl, hP6, hb6⟩
        have hbl' := hQ'.len
        have hend := pt_end hP6 (by omega) hQ'.b0.1
        have hb06 := (((hbw.trans hb3z).trans hb4z).trans hb5z).trans hb6
        have hzw6 := hP6.zw
        obtain ⟨l7, hl7⟩ : ∃ l, b'.lastF.2 = l := ⟨_, rfl⟩
        rw [hl7] at hend
        clear htake
        go_wp2_with fail
        refine hend.mono ?_
        rintro e w7 ⟨rfl, hb7⟩
        have hP7 := hP6.below hb7
        have hzw7 := hP7.zw
        have hb07 := hb06.trans (hb7.mono hzw6)
        clear hend
        obtain ⟨nb, hnb⟩ : ∃ l, b'.L.length = l := ⟨_, rfl⟩
        rw [hnb]
        go_wp2_with fail
        go_loopw [13] (fun i' wi => i' = .int .i64 nb ∧ Below w7.heap.size w7 wi) (fun i' _ => (intOf i').toNat)
        case atStart => exact ⟨rfl, Below.refl _ _⟩
        case round =>
          obtain ⟨rfl, hbi⟩ := hrel
          rename World => wi
          have hPi := hP7.below hbi
          have hzwi := hPi.zw
          have hb0i := hb07.trans (hbi.mono hzw7)
          rcases Nat.eq_zero_or_pos nb with hnb0 | hnb0
          · subst hnb0
            go_wp2_with fail
            go_roundw
            case rel => exact ⟨k + 1, _, _, hlt, hl4, by go_num, hPi.swap, hQ', by omega, hb0i⟩
            case measure => simp [intOf]; have := hmeas.out; omega
          · obtain ⟨v, hv1, hv2⟩ := hQ'.term (by omega)
            obtain ⟨hs1, hs2⟩ := hQ'.same (by omega)
            rw [hnb] at hv1 hv2 hs1 hs2
            have ht1 := pt_term (nb : Nat) hPi.swap (by omega)
            rw [hv1] at ht1
            have hnb1 : (0 : Int) < nb := by omega
            go_wp2_with fail
            refine ht1.mono ?_
            rintro e w8 ⟨rfl, hb8⟩
            have hP8 := hPi.below hb8
            have ht2 := pt_term (nb : Nat) hP8 (by omega)
            rw [hv2] at ht2
            clear ht1
            go_wp2_with fail
            refine ht2.mono ?_
            rintro e w9 ⟨rfl, hb9⟩
            have hP9 := hP8.below hb9
            have hsl := pt_slice 1 (nb : Nat) hP9.swap (by omega)
            rw [hs1] at hsl
            clear ht2
            go_wp2_with fail
            refine hsl.mono ?_
            rintro e wA ⟨AA, nA, cA, zsA, rfl, hEA, hbA⟩
            have hPA := hP9.below hbA
            have hsl := pt_slice 1 (nb : Nat) hPA (by omega)
            rw [hs2] at hsl
            go_wp2_with fail
            refine hsl.mono ?_
            rintro e wB ⟨AB, nB, cB, zsB, rfl, hEB, hbB⟩
            have hPB := hPA.below hbB
            have hEA := hEA.below hbB
            obtain rfl : nB = nA := by have := hEA.len; have := hEB.len; omega
            have hcap := own_bounds hEA.1
            clear hsl
            go_wp2_with fail
            refine (sameEs_any (Rds.of_own hEA.1) (Rds.of_own hEB.1) (hEA.2.2.trans hEB.2.2.symm) hEA.2.1 hEB.2.1 (by omega)).mono ?_
            rintro e wC ⟨rfl, hbC⟩
            have hPC := hPB.below hbC
            have hbiC := below_then (below_then (below_then (below_then hb8 hb9 (Nat.le_refl _)) hbA (Nat.le_refl _)) hbB (Nat.le_refl _)) hbC (Nat.le_refl _)
            go_wp2_with fail
            go_roundw
            case rel => exact ⟨k + 1, _, _, hlt, hl4, by go_num, hPC.swap, hQ', by omega, hb0i.trans (hbiC.mono hzwi)⟩
            case measure => simp [intOf]; have := hmeas.out; omega
    · rcases (show ¬ k < n ∨ (k < n ∧ ¬ k < 40) by omega) with h | ⟨h, h'⟩
      all_goals
        clear hlt
        go_wp2_with fail
        refine (tlives_any wr).mono ?_
        rintro e w5 ⟨rfl, hb5⟩
        go_wp2_with fail
        go_ret
        exact ⟨rfl, by rw [hz]; exact hbw.trans (hb5.mono hP.zw)⟩
end Go.Proofs.Ytojmkbhihnnmaaa
