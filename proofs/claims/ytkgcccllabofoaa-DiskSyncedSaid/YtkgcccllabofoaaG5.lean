/-
  The law DiskSynced: the walk.
-/
import Derived.Test.YtkgcccllabofoaaG4
import Derived.Deep.CutBlock
import Derived.Deep.DeepCutAuto
namespace Go.Proofs.Ytkgcccllabofoaa
open Go.RowKit Go.Maps

theorem row_chg {base base' : Nat} {T : Obj → Bool} {w w' : World} {e : TypeId} {size n : Nat} {v : Value} {xs : List Value} (h : w.ownsRow base e size v n xs) (hc : Chg base' T w w') (hT : ∀ cs, T (.cells cs e (0, 0)) = false) : w'.ownsRow base e size v n xs :=
  own_same h fun _ _ hj => hc.block _ _ hj (.inr (hT _))
set_option maxRecDepth 100000 in
set_option maxHeartbeats 8000000 in
theorem synced_law {z : Zb} {w : World} {A B : Option Addr} {n c m d : Nat} {ys zs : List (Value × Ld)} {keep torn : Int} (hZ : Law0 z w) (hL : LdsV z w A n ys) (hM : LdsV z w B m zs)
    (h1 : -9223372036854775808 ≤ keep) (h2 : keep ≤ 9223372036854775807) (h3 : -9223372036854775808 ≤ torn) (h4 : torn ≤ 9223372036854775807) :
    Calls Try.prog 9 #[.slice A n c, .slice B m d, .int .i64 keep, .int .i64 torn] w fun e w' => e = .returned (.bool true) ∧ Chg z.b TB w w' := by
  go_enter Try.func9, Try.ntmps9
  go_wp2_with fail
  refine (both_nm 30 hZ hL (by omega)).mono ?_
  rintro e w1 ⟨g, gr, R, rfl, hP1, hN1, hc1⟩
  have hcall := sync_any hP1.d
  rw [st_sync hP1.s] at hcall
  have hsrt := hP1.s
  have hz1 := hP1.zl
  have hzb := hP1.bl
  go_wp2_with fail
  refine hcall.mono ?_
  rintro e w2 ⟨rfl, hD2, hc2⟩
  have hN2 := hN1.sync
  have hr2 := (hP1.r.chgP hc2)
  have hs2 : srt (nms R.sync.2.last) := by
    unfold Rt.sync
    split
    · exact hsrt
    · exact (look_all R.last hsrt R.done).2
  have hc12 := hc1.trans hc2.P
  have hz2 := hc2.size
  have hdn : R.sync.1 = 0 → R.sync.2.done = [] := by
    unfold Rt.sync
    split
    · intro h; cases h
    · intro _; rfl
  have hq : R.sync.1 = 0 ∨ R.sync.1 = 30 := by
    unfold Rt.sync
    split
    · exact .inr rfl
    · exact .inl rfl
  generalize R.sync.2 = R2 at *
  generalize R.sync.1 = q2 at *
  clear hcall hP1 hN1 hr2
  go_upto_if 43 with fail
  go_cut [] (fun wr => ∃ S1 : St, DiskAt z wr g 30 S1 ∧ MayS S1 ∧ S1.done = [] ∧ Chg z.b TB w wr ∧ z.z < wr.heap.size)
  case first =>
    rcases hq with rfl | rfl
    · have hres := Lib.hid (show ∃ S1 : St, DiskAt z w2 g 30 S1 ∧ MayS S1 ∧ S1.done = [] ∧ Chg z.b TB w w2 ∧ z.z < w2.heap.size from ⟨R2.st, hD2, hN2.may hs2, hdn rfl, hc12, by omega⟩)
      clear hdn
      go_wp2_with fail
      go_meet
      exact hres.out
    · clear hdn
      have hcr := crash_any keep torn h1 h2 h3 h4 hD2 (by omega) (by omega)
      rw [st_crash hs2] at hcr
      have hN3 := hN2.crash keep torn
      have hs3 := (crashL_ok R2 keep torn hs2).2.1
      go_wp2_with fail
      refine hcr.mono ?_
      rintro e w3 ⟨rfl, hD3, hc3⟩
      have hz3 := hc3.size
      go_wp2_with fail
      go_meet
      exact ⟨_, hD3, hN3.may hs3, rfl, hc12.trans hc3.P, by omega⟩
  case rest =>
    clear hD2 hN2 hs2 hc12 hz2 hdn hq hc2 hc1 hz1 hzb hsrt
    obtain ⟨S1, hD0, hM0, hdone, hc0, hz0⟩ := hcut
    rename World => w3
    go_wp2_with fail
    refine (list_s hD0 hM0 (by omega)).mono ?_
    rintro e wa1 ⟨An, nn, ncc, qn, names, rfl, hownN, hnn, hT1, hbn⟩
    have hD1 := hD0.below hbn
    have hrn1 : RdN wa1 An nn names := Rds.of_own hownN
    have hza := hbn.size
    go_wp2_with fail
    go_loopw [14, 15] (fun wv i wr => ∃ (k : Nat) (A' : Option Addr) (c' : Nat) (vals : List Value), k ≤ nn ∧ i = .int .i64 k ∧ wv = .slice A' k c' ∧ wr.ownsRow wa1.heap.size 40 1 (.slice A' k c') k vals ∧ WasOk z.z wr (names.take k) vals S1.files ∧ Below wa1.heap.size wa1 wr) (fun _ i _ => nn - (intOf i).toNat)
    case atStart => exact ⟨0, none, 0, [], Nat.zero_le _, rfl, rfl, own_nil _ _, ⟨rfl, fun i s hs => (by cases hs)⟩, Below.refl _ _⟩
    case round =>
      obtain ⟨k, A', c', vals, hk, rfl, rfl, hown, hW, hb⟩ := hrel
      have hrn := hrn1.below hb
      have hDw := hD1.below hb
      by_cases hlt : k < nn
      · obtain ⟨ad, s, rfl, hs, cs⟩ := hrn.at_ hlt
        obtain ⟨hm, hf, b, hb'⟩ := hT1 s (List.mem_of_getElem? hs)
        have hcall := read_any s hDw
        rw [read_ok hm hf hb'] at hcall
        have hnx := Lib.hid (show names.take (k + 1) = names.take k ++ [s] by rw [List.take_add_one, hs]; rfl)
        have hb' := Lib.hid hb'
        clear hs hf hm
        go_wp2_with fail
        refine hcall.mono ?_
        rintro e w4 ⟨A4, n4, c4, rfl, hown4, hn4, hb4⟩
        have hv4 : BytesV z.z w4 (.slice A4 n4 c4) b := BytesV.of_own hown4 (by have := hb.size; omega)
        have hlb : b.length ≤ 1048576 := by have := hv4.len; omega
        have hownA := own_below hown hb4
        have hb5 : Below w4.heap.size w4 (w4.alloc (.cells #[.slice A4 n4 c4] 40)) := (Below.refl _ _).alloc (Nat.le_refl _) _
        have hbS := Blk.new w4 40 #[.slice A4 n4 c4]
        have hownB := own_below hownA hb5
        have hbA := below_then (below_then hb hb4 (Nat.le_refl _)) hb5 (Nat.le_refl _)
        have hbase : wa1.heap.size ≤ (w4.alloc (.cells #[.slice A4 n4 c4] 40)).heap.size := hbA.size
        have hv5 := hv4.below hb5
        have hW5 := (hW.kept fun _ _ h => h.below hb4).kept fun _ _ h => h.below hb5
        clear hown hown4 hv4 hW hrn hDw hownA
        go_wp2_with (at_builtin; refine wpList_append_bs rfl (.tmp 68) (.tmp 70) rfl wa1.heap.size rfl hownB w4.heap.size 1 _ rfl hbS rfl (by omega) hbase ?_; intro A6 c6 w6 hown6 hg6 hb6)
        have hk6 : ∀ v l, BytesV z.z _ v l → BytesV z.z w6 v l := fun v l hv => hv.kept fun j cs fz _ hj => own_obj hownB hg6 hj (fun cs' e => by injection e with _ e; cases e)
        have hW6 := (hW5.kept hk6).snoc hb'.out (hk6 _ _ hv5) hlb
        refine ⟨⟨k + 1, A6, c6, _, hlt, by go_num, rfl, hown6, by rw [hnx.out]; exact hW6, hbA.trans hb6⟩, by simp [intOf]; omega⟩
      · obtain rfl : k = nn := by omega
        clear hlt
        rw [List.take_of_length_le (by have := hrn1.1; simp at this; omega)] at hW
        obtain ⟨wb, rfl⟩ : ∃ wo : World, wo = wr := ⟨_, rfl⟩
        have hcb : Chg z.b TB w wb := (hc0.trans (Chg.of_below hbn)).trans (Chg.of_below hb)
        have hzb2 := hb.size
        have hx0 : ExtS S1 S1 := ⟨rfl, fun x hx => by rw [hdone] at hx; cases hx⟩
        go_wp2_with fail
        have hownB := own_below hownN hb
        have hzw := hcb.size
        clear hD0 hD1 hc0 hrn1 hownN
        go_loopw [18] (fun i wr => ∃ (j : Nat) (S2 : St), j ≤ m ∧ j ≤ 20 ∧ i = .int .i64 j ∧ DiskAt z wr g (30 + j) S2 ∧ ExtS S1 S2 ∧ Chg z.b TP wb wr) (fun i _ => m - (intOf i).toNat)
        case atStart => exact ⟨0, S1, Nat.zero_le _, Nat.zero_le _, rfl, hDw, hx0, Chg.refl _ _ _⟩
        case round =>
          obtain ⟨j, S2, hj, hj2, rfl, hD2, hx2, hc2⟩ := hrel
          have hz2 := hc2.size
          by_cases hlt : j < m ∧ j < 20
          · obtain ⟨hlt, hlt2⟩ := hlt
            obtain ⟨ad, X, x, rfl, hy, hX, hx, d0, d1, d2, d3, d4⟩ := (hM.chg (hcb.trans hc2.P) TB_u8).at_ hlt
            obtain ⟨Bx, mx, dx, rfl, _⟩ := id hX
            have hdd := hX.get.2
            have hadb := hM.b ad rfl (by omega)
            have hadb2 : (ad.add (j * 5)).block < z.b := by rw [block_of_add]; exact hadb
            have hmeas := Lib.hid (show m - (j + 1) < m - j by omega)
            have k1 := keep_cell (gs := [(ad.add (j * 5)).block]) d1 (by simp)
            have k2 := keep_cell (gs := [(ad.add (j * 5)).block]) d2 (by simp)
            have hDd := hD2.below ((Below.refl wr.heap.size wr).drew)
            have hXd := (hX.cut (Nat.min_le_left mx 200)).get.1
            have hcall := append_any (w := wr.drew) x.name Bx (min mx 200) dx _ hDd (by show z.z < wr.heap.size; omega) (by omega) hXd (by omega)
            clear hD2 hX d0 d1 d2 d3 d4
            go_wp2_with fail
            refine wp_region_mix (C := keepW [(ad.add (j * 5)).block] wr) [([0, 1, 2, 3, 4, 5, 6, 7, 8, 9, 10], 11), ([], 12)] [] (by kernel_rfl) (by kernel_rfl) (fun _ _ _ _ e h => ⟨e.symm.trans h.1, h.2⟩) keepW_refl ?_
            refine wpSegs_step fun K1 hK1 => ?_
            simp only [pickL, List.getElem?_cons_zero, List.getElem?_cons_succ]
            repeat (go_big_quiet_step (fail))
            refine wpQuiet_nil ?_
            go_wp2_with fail
            refine (few_any Bx mx dx _ hdd.1).mono ?_
            rintro e w6 ⟨rfl, rfl⟩
            go_wp2_with fail
            refine ⟨keepW_of (fun _ _ => rfl), hK1 _ _ ?_⟩
            refine wpSegs_step fun K2 hK2 => ?_
            simp only [pickL, List.getElem?_cons_zero, List.getElem?_cons_succ]
            repeat (go_big_quiet_step (fail))
            refine wpQuiet_nil ?_
            go_wp2_with fail
            refine hcall.mono ?_
            rintro e w7 ⟨rfl, hD7, hc7⟩
            have hc7 : Chg z.b TP wr w7 := (Chg.of_below ((Below.refl wr.heap.size wr).drew)).trans hc7
            go_wp2_with fail
            refine ⟨keepW_of (fun q hq => by rw [List.mem_singleton.1 hq]; have hl := hadb2; have hzb := hZ.bl; exact (hc7.below (by omega)).block _ hl), hK2 _ _ ?_⟩
            refine wpSegs_last ?_
            simp only [pickL]
            refine wpQuiet_nil ?_
            go_wp2_with fail
            refine ⟨⟨j + 1, _, hlt, hlt2, by go_num, hD7, hx2.append _ _, hc2.trans hc7⟩, by simp [intOf]; exact hmeas.out⟩
          · have hM2 := hx2.may hM0 hdone
            obtain ⟨j', hjj⟩ : ∃ j' : Nat, 30 + j ≤ j' ∧ j' = 50 := ⟨50, by omega, rfl⟩
            have hD2 := hD2.more hjj.1
            rw [hjj.2] at hD2
            clear hjj hx0 hDw
            have hcbr : Chg z.b TB w wr := hcb.trans hc2.P
            have hownW := row_chg hown hc2 (fun _ => rfl)
            have hW2 := hW.kept fun _ _ h => h.chg hc2 TP_u8
            have hrn2 : RdN wr An k names := Rds.of_own (row_chg hownB hc2 (fun _ => rfl))
            obtain ⟨wc, rfl⟩ : ∃ wo : World, wo = wr := ⟨_, rfl⟩
            rcases (show ¬ j < m ∨ (j < m ∧ ¬ j < 20) by omega) with h | ⟨h, h'⟩
            all_goals
              go_wp2_with fail
              refine (list_s hD2 hM2 (by omega)).mono ?_
              rintro e wd ⟨An2, nn2, ncc2, qn2, names2, rfl, hownN2, hnn2, hT2, hbd⟩
              have hD3 := hD2.below hbd
              have hrn3 : RdN wd An2 nn2 names2 := Rds.of_own hownN2
              have hownW3 := own_below hownW hbd
              have hW3 := hW2.kept fun _ _ h => h.below hbd
              have hownN3 := own_below (row_chg hownB hc2 (fun _ => rfl)) hbd
              have hszd := hbd.size
              have hcd : Chg z.b TB w wd := hcbr.trans (Chg.of_below hbd)
              clear hD2 hownW hW2 hrn2 hcbr hc2 hcb hownB hown hW hrn hbd
              go_wp2_with fail
              go_loopw [21, 22] (fun wv i wr => ∃ (q : Nat) (A5 : Option Addr) (c5 : Nat) (vals2 : List Value), q ≤ nn2 ∧ i = .int .i64 q ∧ wv = .slice A5 q c5 ∧ wr.ownsRow wd.heap.size 40 1 (.slice A5 q c5) q vals2 ∧ WasOk z.z wr (names2.take q) vals2 S2.files ∧ Below wd.heap.size wd wr) (fun _ i _ => nn2 - (intOf i).toNat)
              case atStart => exact ⟨0, none, 0, [], Nat.zero_le _, rfl, rfl, own_nil _ _, ⟨rfl, fun i s hs => (by cases hs)⟩, Below.refl _ _⟩
              case round =>
                obtain ⟨q, A5, c5, vals2, hq, rfl, rfl, hown, hW, hb⟩ := hrel
                have hrn := hrn3.below hb
                have hDw := hD3.below hb
                by_cases hlt : q < nn2
                · obtain ⟨ad, s, rfl, hs, cs⟩ := hrn.at_ hlt
                  obtain ⟨hm, hf, b, hb'⟩ := hT2 s (List.mem_of_getElem? hs)
                  have hcall := read_any s hDw
                  rw [read_ok hm hf hb'] at hcall
                  have hnx := Lib.hid (show names2.take (q + 1) = names2.take q ++ [s] by rw [List.take_add_one, hs]; rfl)
                  have hb' := Lib.hid hb'
                  have hmeas := Lib.hid (show nn2 - (q + 1) < nn2 - q by omega)
                  clear hs hf hm
                  go_wp2_with fail
                  refine hcall.mono ?_
                  rintro e w4 ⟨A4, n4, c4, rfl, hown4, hn4, hb4⟩
                  have hv4 : BytesV z.z w4 (.slice A4 n4 c4) b := BytesV.of_own hown4 (by have := hb.size; omega)
                  have hlb : b.length ≤ 1048576 := by have := hv4.len; omega
                  have hownA := own_below hown hb4
                  have hb5 : Below w4.heap.size w4 (w4.alloc (.cells #[.slice A4 n4 c4] 40)) := (Below.refl _ _).alloc (Nat.le_refl _) _
                  have hbS := Blk.new w4 40 #[.slice A4 n4 c4]
                  have hownB := own_below hownA hb5
                  have hbA := below_then (below_then hb hb4 (Nat.le_refl _)) hb5 (Nat.le_refl _)
                  have hbase : wd.heap.size ≤ (w4.alloc (.cells #[.slice A4 n4 c4] 40)).heap.size := hbA.size
                  have hv5 := hv4.below hb5
                  have hW5 := (hW.kept fun _ _ h => h.below hb4).kept fun _ _ h => h.below hb5
                  clear hown hown4 hv4 hW hrn hDw hownA
                  go_wp2_with (at_builtin; refine wpList_append_bs rfl (.tmp 115) (.tmp 117) rfl wd.heap.size rfl hownB w4.heap.size 1 _ rfl hbS rfl (by omega) hbase ?_; intro A6 c6 w6 hown6 hg6 hb6)
                  have hk6 : ∀ v l, BytesV z.z _ v l → BytesV z.z w6 v l := fun v l hv => hv.kept fun j cs fz _ hj => own_obj hownB hg6 hj (fun cs' e => by injection e with _ e; cases e)
                  have hW6 := (hW5.kept hk6).snoc hb'.out (hk6 _ _ hv5) hlb
                  refine ⟨⟨q + 1, A6, c6, _, hlt, by go_num, rfl, hown6, by rw [hnx.out]; exact hW6, hbA.trans hb6⟩, by simp [intOf]; exact hmeas.out⟩
                · obtain rfl : q = nn2 := by omega
                  rw [List.take_of_length_le (by have := hrn3.1; simp at this; omega)] at hW
                  have hownN4 := own_below hownN2 hb
                  have hownW4 := own_below hownW3 hb
                  have hW4 := hW3.kept fun _ _ h => h.below hb
                  obtain ⟨we, rfl⟩ : ∃ wo : World, wo = wr := ⟨_, rfl⟩
                  have hownN3' := own_below hownN3 hb
                  have hce : Chg z.b TB w we := hcd.trans (Chg.of_below hb)
                  have hze : z.z < we.heap.size := by have := hb.size; omega
                  go_wp2_with fail
                  refine (crash_any keep torn h1 h2 h3 h4 hDw hze (by omega)).mono ?_
                  rintro e wf ⟨rfl, hD5, hc5⟩
                  have hcf : Chg z.b TB w wf := hce.trans hc5.P
                  have hzf := hc5.size
                  have hN1 : RdN wf An k names := Rds.of_own (row_chg hownN3' hc5 (fun _ => rfl))
                  have hN2 : RdN wf An2 q names2 := Rds.of_own (row_chg hownN4 hc5 (fun _ => rfl))
                  have hV1 := row_chg hownW4 hc5 (fun _ => rfl)
                  have hV2 := row_chg hown hc5 (fun _ => rfl)
                  have hW5 := hW4.kept fun _ _ h => h.chg hc5 TP_u8
                  have hW6 := hW.kept fun _ _ h => h.chg hc5 TP_u8
                  have hk0 : ∀ x ∈ S2.done, x.kind = 0 := fun x hx => (hx2.d x hx).1
                  clear hD3 hDw hrn3 hrn hownN2 hownN3 hownN3' hownN4 hownW3 hownW4 hW3 hW4 hown hW hb hcd hce hze hc5 hD2 hszd hbn hzb2 hzw
                  go_wp2_with fail
                  go_loopw [25] (fun i wr => ∃ p : Nat, p ≤ k ∧ i = .int .i64 p ∧ Below wf.heap.size wf wr) (fun i _ => k - (intOf i).toNat)
                  case atStart => exact ⟨0, Nat.zero_le _, rfl, Below.refl _ _⟩
                  case round =>
                    obtain ⟨p, hp, rfl, hb⟩ := hrel
                    by_cases hlp : p < k
                    · obtain ⟨ad, s, rfl, hs, cs⟩ := (hN1.below hb).at_ hlp
                      obtain ⟨v, b, hv, hG, hbv, hlb⟩ := hW5.2 p s hs
                      obtain ⟨hm, _⟩ := hT1 s (List.mem_of_getElem? hs)
                      have hl2 : S2.last s = some b := by rw [hx2.l]; unfold St.files at hG; rw [hdone] at hG; exact hG
                      obtain ⟨b', hb', hpre⟩ := crash_keep (keep := keep) (torn := torn) hk0 hl2
                      have hcall := read_any s (hD5.below hb)
                      rw [read_ok (S := S2.crash keep torn) (b := b') hm (by unfold St.crash; simp) hb'] at hcall
                      obtain ⟨g1, hA1, hg1, hcv⟩ := own_val (own_below hV1 hb) hv
                      subst hA1
                      have hbv1 := hbv.below hb
                      obtain ⟨Bv, nv, cv, rfl, _⟩ := id hbv1
                      have hlv := hbv1.len
                      have hgv := hbv1.get
                      have hle := hpre.length_le
                      have htk : b'.take nv = b := by rw [← hlv]; exact (List.prefix_iff_eq_take.1 hpre).symm
                      have htk := Lib.hid htk
                      have hlv := Lib.hid hlv
                      have hmeas := Lib.hid (show k - (p + 1) < k - p by omega)
                      clear hs hv hG hm hl2 hb' hpre
                      go_wp2_with fail
                      refine hcall.mono ?_
                      rintro e w4 ⟨A4, n4, c4, rfl, hown4, hn4, hb4⟩
                      have hl4 : b'.length = n4 := by have := hown4.1; simpa using this
                      have hnv : nv ≤ n4 := by rw [← hl4, ← hlv.out]; exact hle
                      have hbd4 := own_bounds hown4
                      have hb14 := below_then hb hb4 (Nat.le_refl _)
                      have hcv4 : w4.cell? ⟨g1, p, none⟩ = some (.slice Bv nv cv) := (hb4.cell (p := ⟨g1, p, none⟩) hg1).trans hcv
                      have hl4 := Lib.hid hl4
                      clear hcall hcv hle
                      unfold maxLen at hbd4
                      go_wp2_with fail
                      have k1 := keep_cell (gs := [g1]) hcv4 (by simp)
                      have hr1 : Rd w4 A4 nv b := by
                        have := (Rd.of_own hown4).take hnv
                        rwa [htk.out] at this
                      have hr2 : Rd w4 Bv nv b := hgv.1.below hb4
                      refine wp_region_mix (C := keepW [g1] w4) [([0, 1, 2, 3, 4, 5, 6, 7, 8, 9, 10], 11)] [12] (by kernel_rfl) (by kernel_rfl) (fun _ _ _ _ e h => ⟨e.symm.trans h.1, h.2⟩) keepW_refl ?_
                      refine wpSegs_step fun K1 hK1 => ?_
                      simp only [pickL, List.getElem?_cons_zero, List.getElem?_cons_succ]
                      repeat (go_big_quiet_step (fail))
                      refine wpQuiet_nil ?_
                      go_wp2_with fail
                      refine (sameB_any hr1.drew hr2.drew (by omega)).mono ?_
                      rintro e w6 ⟨rfl, q6, rfl⟩
                      have hb6 : Below wf.heap.size wf (w4.drewN (1 + q6)) := below_drewN hb14 _
                      go_wp2_with fail
                      refine ⟨keepW_of (fun _ _ => rfl), hK1 _ _ ?_⟩
                      refine wpSegs_last ?_
                      simp only [pickL, List.getElem?_cons_zero, List.getElem?_cons_succ]
                      repeat (go_big_quiet_step (fail))
                      refine wpQuiet_nil ?_
                      go_wp2_with fail
                      go_roundw
                      case rel => exact ⟨p + 1, hlp, by go_num, hb6⟩
                      case measure => simp [intOf]; exact hmeas.out
                    · obtain rfl : p = k := by omega
                      obtain ⟨wg, rfl⟩ : ∃ wo : World, wo = wr := ⟨_, rfl⟩
                      have hN2g := hN2.below hb
                      have hV2g := own_below hV2 hb
                      have hW6g := hW6.kept fun _ _ h => h.below hb
                      have hD6 := hD5.below hb
                      have hcg := hcf.trans (Chg.of_below (base := z.b) (T := TB) hb)
                      clear hD5 hN1 hN2 hV1 hV2 hW5 hW6 hcf hb hT1
                      go_wp2_with fail
                      go_loopw [29] (fun i wr => ∃ p : Nat, p ≤ q ∧ i = .int .i64 p ∧ Below wg.heap.size wg wr) (fun i _ => q - (intOf i).toNat)
                      case atStart => exact ⟨0, Nat.zero_le _, rfl, Below.refl _ _⟩
                      case round =>
                        obtain ⟨p, hp, rfl, hb⟩ := hrel
                        by_cases hlp : p < q
                        · obtain ⟨ad, s, rfl, hs, cs⟩ := (hN2g.below hb).at_ hlp
                          obtain ⟨v, b, hv, hG, hbv, hlb⟩ := hW6g.2 p s hs
                          obtain ⟨hm, _⟩ := hT2 s (List.mem_of_getElem? hs)
                          have hmeas := Lib.hid (show q - (p + 1) < q - p by omega)
                          have hcall := read_any s (hD6.below hb)
                          cases hcg' : crashG S2 keep torn s with
                          | none =>
                            rw [read_non (S := S2.crash keep torn) hm (by unfold St.crash; simp) hcg'] at hcall
                            clear hs hv hG hm hcg'
                            go_wp2_with fail
                            refine hcall.mono ?_
                            rintro e w4 ⟨A4, n4, c4, rfl, hown4, hn4, hb4⟩
                            have hb14 := below_then hb hb4 (Nat.le_refl _)
                            clear hcall
                            go_wp2_with fail
                            go_roundw
                            case rel => exact ⟨p + 1, hlp, by go_num, hb14⟩
                            case measure => simp [intOf]; exact hmeas.out
                          | some b' =>
                            obtain ⟨b2, hb2, hpre⟩ := crash_part (keep := keep) (torn := torn) hk0 hcg'
                            obtain rfl : b = b2 := by rw [hG] at hb2; exact Option.some.inj hb2
                            rw [read_ok (S := S2.crash keep torn) (b := b') hm (by unfold St.crash; simp) hcg'] at hcall
                            obtain ⟨g1, hA1, hg1, hcv⟩ := own_val (own_below hV2g hb) hv
                            subst hA1
                            have hbv1 := hbv.below hb
                            obtain ⟨Bv, nv, cv, rfl, _⟩ := id hbv1
                            have hlv := hbv1.len
                            have hgv := hbv1.get
                            have hle := hpre.length_le
                            have htk := Lib.hid (show b.take b'.length = b' from (List.prefix_iff_eq_take.1 hpre).symm)
                            have hlv := Lib.hid hlv
                            clear hs hv hG hm hb2 hpre hcg'
                            go_wp2_with fail
                            refine hcall.mono ?_
                            rintro e w4 ⟨A4, n4, c4, rfl, hown4, hn4, hb4⟩
                            have hl4 : b'.length = n4 := by have := hown4.1; simpa using this
                            have hnv : n4 ≤ nv := by rw [← hl4, ← hlv.out]; exact hle
                            have hbd4 := own_bounds hown4
                            have hb14 := below_then hb hb4 (Nat.le_refl _)
                            have hcv4 : w4.cell? ⟨g1, p, none⟩ = some (.slice Bv nv cv) := (hb4.cell (p := ⟨g1, p, none⟩) hg1).trans hcv
                            have hl4 := Lib.hid hl4
                            have hgv2 := hgv.2
                            clear hcall hcv hle
                            unfold maxLen at hbd4 hgv2
                            have hr1 : Rd w4 A4 n4 b' := Rd.of_own hown4
                            have hr2 : Rd w4 Bv n4 b' := by
                              have := (hgv.1.below hb4).take hnv
                              rwa [← hl4.out, htk.out, hl4.out] at this
                            go_wp2_with fail
                            refine (sameB_any hr1 hr2 (by omega)).mono ?_
                            rintro e w6 ⟨rfl, q6, rfl⟩
                            have hb6 := below_drewN hb14 q6
                            go_wp2_with fail
                            go_roundw
                            case rel => exact ⟨p + 1, hlp, by go_num, hb6⟩
                            case measure => simp [intOf]; exact hmeas.out
                        · obtain rfl : p = q := by omega
                          have hcz := hcg.trans (Chg.of_below (base := z.b) (T := TB) hb)
                          go_wp2_with fail
                          refine (lives_any _).mono ?_
                          rintro e w8 ⟨rfl, hb8⟩
                          go_wp2_with fail
                          go_ret
                          exact ⟨rfl, hcz.trans (Chg.of_below hb8)⟩
theorem diskSynced_any {w : World} {A B : Option Addr} {n c m d : Nat} {ys zs : List (Value × Ld)} {keep torn : Int} (hL : LdsV (z0 w) w A n ys) (hM : LdsV (z0 w) w B m zs) (h1 : (Lit.int .i64 keep).wf = true) (h2 : (Lit.int .i64 torn).wf = true) :
    Calls Try.prog 9 #[.slice A n c, .slice B m d, .int .i64 keep, .int .i64 torn] w fun e w' => e = .returned (.bool true) ∧ Below w.heap.size w w' :=
  (synced_law (law0 w) hL hM (i64_of_wf h1).1 (i64_of_wf h1).2 (i64_of_wf h2).1 (i64_of_wf h2).2).mono fun _ _ h => ⟨h.1, chg_law h.2⟩
end Go.Proofs.Ytkgcccllabofoaa
