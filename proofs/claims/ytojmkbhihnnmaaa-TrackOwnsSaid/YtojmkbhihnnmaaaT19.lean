/-
  The track: Take, walked.
-/
import Derived.Test.YtojmkbhihnnmaaaT18
namespace Go.Proofs.Ytojmkbhihnnmaaa
open Go.RowKit

section
variable {B : Nat} {S : Nat → Prop} {w w' : World} {g n c : Nat} {t : Trk} {A : Option Addr} {zs : List (Value × En)}
theorem takeF_no {idx tm : Int} {L : List En} (h : ¬ (t.termF idx = (tm, 0) ∧ mayFrom idx 0 tm L = true)) : t.takeF idx tm L = ((0, false), t) := if_neg h
theorem takeF_none {idx tm : Int} {L : List En} (h : t.termF idx = (tm, 0)) (h' : mayFrom idx 0 tm L = true) (hd : t.findDiff L = none) : t.takeF idx tm L = ((0, true), t) := by unfold Trk.takeF; rw [if_pos ⟨h, h'⟩, hd]
theorem takeF_some {idx tm : Int} {L R : List En} {x : En} (h : t.termF idx = (tm, 0)) (h' : mayFrom idx 0 tm L = true) (hd : t.findDiff L = some (x, R)) : t.takeF idx tm L = ((x.idx, true), { t with L := t.L.take (x.idx - t.index - 1).toNat ++ x :: R }) := by unfold Trk.takeF; rw [if_pos ⟨h, h'⟩, hd]
theorem mayFrom_plain {idx : Int} {L : List En} : ∀ {i : Nat} {tm : Int}, mayFrom idx i tm L = true → ∀ x ∈ L, plainB x = true := by
  induction L with
  | nil => intro i tm _ x hx; cases hx
  | cons y L ih =>
    intro i tm h x hx
    obtain ⟨h1, _, _, h4⟩ := mayFrom_cons.1 h
    rcases List.mem_cons.1 hx with rfl | hx
    · exact h1
    · exact ih h4 x hx
set_option maxRecDepth 100000 in
set_option maxHeartbeats 4000000 in
theorem ttake_any (S2 : Nat → Prop) (idx tm : Int) (A2 : Option Addr) (m c2 : Nat) (ys : List (Value × En)) (h : TrkIn B S w g t A n c zs) (hn : n ≤ 1000000) (hB : B ≤ w.heap.size) (hr : RdE w A2 m ys) (hd : DeepE S2 w ys)
    (hm : m ≤ 100000) (hmc : m ≤ c2) (hcc : c2 ≤ maxLen) (hS2 : ∀ j, S2 j → j ≠ g) (hA2 : 0 < m → ∀ j, rowOf A2 j → j ≠ g) :
    Calls Try.prog 47 #[.pointer (some ⟨g, 0, none⟩), .int .i64 idx, .int .i64 tm, .slice A2 m c2] w fun e w' =>
      e = .returned (.tuple #[.int .i64 (t.takeF idx tm (ys.map (·.2))).1.1, .bool (t.takeF idx tm (ys.map (·.2))).1.2]) ∧ PostT B S w g A (t.takeF idx tm (ys.map (·.2))).2 w'.heap.size w' := by
  have hterm := tterm_below idx h hn
  have hno := Lib.hid (fun h0 => takeF_no (t := t) (idx := idx) (tm := tm) (L := ys.map (·.2)) h0)
  obtain ⟨v1, hv1⟩ : ∃ v, (t.termF idx).1 = v := ⟨_, rfl⟩
  obtain ⟨v2, hv2⟩ : ∃ v, (t.termF idx).2 = v := ⟨_, rfl⟩
  have hv : t.termF idx = (v1, v2) := by rw [← hv1, ← hv2]
  rw [hv1, hv2] at hterm
  clear hv1 hv2
  have hl := Lib.hid h.len.1
  have hyl := Lib.hid hr.len
  have hib := h.i.b
  have hir := h.i.room
  rw [← h.len.1] at hir
  by_cases i1 : v2 = 0
  · by_cases i2 : v1 = tm
    · subst i1
      subst i2
      have hti := termF_in hv
      rw [← h.len.1] at hti
      obtain ⟨hi1, hi2, hi3⟩ := hti
      clear hi3
      obtain ⟨bm, hbm⟩ : ∃ bm, mayFrom idx 0 v1 (ys.map (·.2)) = bm := ⟨_, rfl⟩
      cases bm with
      | false =>
        have he := Lib.hid (hno.out (by rw [hbm]; simp))
        have hv := Lib.hid hv
        clear hno
        go_enter Try.func47, Try.ntmps47
        go_wp2_with fail
        refine hterm.mono ?_
        rintro e w1 ⟨rfl, hb1⟩
        go_wp2_with fail
        refine (may_tany S2 idx v1 A2 m c2 ys w1 (hr.below hb1) (hd.keep (Stay.below hb1)) (by omega) (by omega) (by omega)).mono ?_
        rintro e w2 ⟨rfl, hb2⟩
        rw [hbm]
        go_wp2_with fail
        go_ret2
        exact ⟨by rw [he.out]; rfl, by rw [he.out]; exact PostT.same h (below_then hb1 hb2 (Nat.le_refl _))⟩
      | true =>
        have hNone := Lib.hid (fun h0 : t.findDiff (ys.map (·.2)) = none => takeF_none hv hbm h0)
        have hSome := Lib.hid (fun (x : En) (R : List En) (h0 : t.findDiff (ys.map (·.2)) = some (x, R)) => takeF_some hv hbm h0)
        have hspec := Lib.hid (fun (x : En) (R : List En) (h0 : t.findDiff (ys.map (·.2)) = some (x, R)) => findDiff_spec (t := t) (i := 0) (idx := idx) (term := v1) (x := x) (r := R) (by rw [show idx + ((0 : Nat) : Int) = idx by omega]; exact hv) hbm h0)
        have hplain := Lib.hid (mayFrom_plain hbm)
        have hinv := Lib.hid (h.i.takeF idx v1 (ys.map (·.2)))
        have hv := Lib.hid hv
        have Hbm := Lib.hid hbm
        clear hno
        go_enter Try.func47, Try.ntmps47
        go_wp2_with fail
        refine hterm.mono ?_
        rintro e w1 ⟨rfl, hb1⟩
        go_wp2_with fail
        refine (may_tany S2 idx v1 A2 m c2 ys w1 (hr.below hb1) (hd.keep (Stay.below hb1)) (by omega) (by omega) (by omega)).mono ?_
        rintro e w2 ⟨rfl, hb2⟩
        rw [hbm]
        clear hbm
        have hb02 := below_then hb1 hb2 (Nat.le_refl _)
        unfold maxLen at hcc
        go_wp2_with fail
        go_loopw [41] (fun i' wr => ∃ i : Nat, i ≤ m ∧ i' = .int .i64 i ∧ t.findDiff (ys.map (·.2)) = t.findDiff ((ys.map (·.2)).drop i) ∧ Below w.heap.size w wr) (fun i' _ => m - (intOf i').toNat)
        case atStart => exact ⟨0, Nat.zero_le _, rfl, rfl, hb02⟩
        case round =>
          obtain ⟨i, hi, rfl, hfd, hb⟩ := hrel
          have Hfd := Lib.hid hfd
          clear hfd
          by_cases hlt : i < m
          · have hA2 := hA2 (Nat.zero_lt_of_lt hlt)
            obtain ⟨ad2, v3, x, rfl, hx, c0, c1, c2', c3, c4, c5⟩ := (hr.below hb).at_ hlt
            obtain ⟨B1, m1, d1, hv1, l1, l2, l3⟩ := ((hd _ (List.mem_of_getElem? hx)).keep (Stay.below (S := S2) hb)).form
            obtain rfl : v3 = _ := hv1
            have hxL : (ys.map (·.2))[i]? = some x := by rw [List.getElem?_map, hx]; rfl
            have hdr := get_cons hxL
            rw [hdr] at Hfd
            have hxp := plain_num (hplain.out x (List.mem_of_getElem? hxL))
            have hmeas := Lib.hid (show m - (i + 1) < m - i by omega)
            have hbA : Below wr.heap.size wr (wr.alloc (.cells #[.int .i64 x.idx, .int .i64 x.term, .int .i64 x.op, .int .i64 x.sess, .int .i64 x.seq, .slice B1 m1 d1] 65)) := (Below.refl _ _).alloc (Nat.le_refl _) _
            have hblk := Blk.new wr 65 #[.int .i64 x.idx, .int .i64 x.term, .int .i64 x.op, .int .i64 x.sess, .int .i64 x.seq, .slice B1 m1 d1]
            have hb3 := below_then hb hbA (Nat.le_refl _)
            have h3 := h.below hb3
            have hcall := tterm_below x.idx h3 hn
            obtain ⟨u1, hu1⟩ : ∃ v, (t.termF x.idx).1 = v := ⟨_, rfl⟩
            obtain ⟨u2, hu2⟩ : ∃ v, (t.termF x.idx).2 = v := ⟨_, rfl⟩
            have hu := Lib.hid (show t.termF x.idx = (u1, u2) by rw [← hu1, ← hu2])
            rw [hu1, hu2] at hcall
            have hdrop := Lib.hid (show ys.drop i = (.slice B1 m1 d1, x) :: ys.drop (i + 1) from get_cons hx)
            clear hu1 hu2 hxL hx hdr
            go_wp2_with fail
            generalize wr.alloc (.cells #[.int .i64 x.idx, .int .i64 x.term, .int .i64 x.op, .int .i64 x.sess, .int .i64 x.seq, .slice B1 m1 d1] 65) = w3 at *
            generalize wr.heap.size = gx at *
            refine hcall.mono ?_
            rintro e w4 ⟨rfl, hb4⟩
            have hb04 := below_then hb3 hb4 (Nat.le_refl _)
            have h4 := h3.below hb4
            have hblk := hblk.kept hb4
            clear hcall hb3 h3 hb4
            have a0 := hblk.cell 0
            have a1 := hblk.cell 1
            simp only [List.getElem?_toArray, List.getElem?_cons_zero, List.getElem?_cons_succ] at a0 a1
            by_cases jj : u2 = 0 ∧ u1 = x.term
            · obtain ⟨j1, j2⟩ := jj
              subst j1
              subst j2
              have Hn := Lib.hid (Hfd.out.trans (show _ = t.findDiff ((ys.map (·.2)).drop (i + 1)) by
                show (if t.termF x.idx = (x.term, 0) then _ else _) = _
                rw [if_pos hu.out]))
              go_wp2_with fail
              go_roundw
              case rel => exact ⟨i + 1, hlt, by go_num, Hn.out, hb04⟩
              case measure => simp [intOf]; exact hmeas.out
            · have hfd' : t.findDiff (ys.map (·.2)) = some (x, (ys.map (·.2)).drop (i + 1)) := Hfd.out.trans (by
                show (if t.termF x.idx = (x.term, 0) then _ else _) = _
                rw [if_neg (by rw [hu.out]; rintro h0; injection h0 with h1 h2; exact jj ⟨h2, h1⟩)])
              obtain ⟨j, term', _, e1, e2, _, _, _⟩ := hspec.out x _ hfd'
              have e3 := termF_in e2
              rw [← hl.out] at e3
              obtain ⟨e4, e5, e6⟩ := e3
              clear e6 e2
              obtain ⟨k, hk⟩ : ∃ k : Nat, x.idx - t.index - 1 = k := ⟨(x.idx - t.index - 1).toNat, by omega⟩
              have hkn : k ≤ n := by omega
              have he0 := hSome.out x _ hfd'
              rw [hk, show (k : Int).toNat = k from rfl] at he0
              have he := Lib.hid he0
              have hinv := hinv.out
              rw [he0] at hinv
              have hinv := Lib.hid hinv
              have hM := Lib.hid (show (ys.drop i).map (·.2) = x :: (ys.map (·.2)).drop (i + 1) by rw [hdrop.out, List.map_cons, List.map_drop])
              have hmi := Lib.hid (show (ys.drop i).length = m - i by rw [List.length_drop, hyl.out])
              clear hfd' e1 e4 e5 he0
              obtain ⟨hnc, hcm⟩ := own_bounds h4.o
              obtain ⟨q0, q1, q2⟩ := h4.cells
              have f2 := h4.b.free 2
              have hkc : k ≤ c := by omega
              have hic : ¬ c2 = i := by omega
              unfold maxLen at hcm
              have hjj : (u2 ≠ 0 ∧ (u2 == 0) = false) ∨ (u2 = 0 ∧ (u1 == x.term) = false) := by
                by_cases j1 : u2 = 0
                · exact .inr ⟨j1, beq_eq_false_iff_ne.2 fun e => jj ⟨j1, e⟩⟩
                · exact .inl ⟨j1, beq_eq_false_iff_ne.2 j1⟩
              clear jj
              rcases hjj with ⟨jj, jjj⟩ | ⟨jj, jjj⟩
              all_goals
                go_wp2_with fail
                go_quiet (fail)
                go_wp2_with fail
                obtain ⟨w5, hw5⟩ : ∃ w5, (w4.drewN nq).setCell ⟨g, 2, none⟩ (.slice A k k) = w5 := ⟨_, rfl⟩
                rw [hw5]
                have hF45 : Fr (fun j => j = g) w4 w5 := by rw [← hw5]; exact (Fr.of_below (X := fun j => j = g) (below_drewN (Below.refl _ _) nq)).trans (Fr.set g 2 _) fun _ h => .inl h
                have hk5 : Blk w5 g 93 #[.int .i64 t.index, .int .i64 t.term, .slice A k k] := by rw [← hw5]; exact (h4.b.drewN nq).set_ 2 _
                have hT45 : TStay TD w4 w5 := by rw [← hw5]; exact TStay.set (w := w4.drewN nq) (h4.b.drewN nq) (by decide)
                have hF05 : Fr (fun j => j = g) w w5 := (Fr.of_below hb04).trans hF45 fun _ h => .inl h
                have hgx : Blk w5 gx 65 #[.int .i64 x.idx, .int .i64 x.term, .int .i64 x.op, .int .i64 x.sess, .int .i64 x.seq, .slice B1 m1 d1] := (hF45.block gx hblk.lt (blk_apart h4.b hblk (by decide))).trans hblk
                have hrow5 : RdE w5 (some (ad2.add (i * 6))) (m - i) (ys.drop i) := by
                  have h1 : RdE w5 (some ad2) m ys := Rds.stay (S := fun j => j ≠ g) hr (fun _ ad e => hA2 _ ⟨ad, e, rfl⟩) (hF05.stay fun j hj _ => hj)
                  have := Rds.cut (size := 6) h1 (k := i) hi hmc
                  rw [if_neg hic, ← flat_drop enC_len] at this
                  exact this
                have hdeep5 : DeepE S2 w5 (ys.drop i) := (hd.keep (hF05.stay fun j hj _ => hS2 j hj)).sub fun y hy => List.mem_of_mem_drop hy
                have hsm5 := Lib.hid (show ∀ y ∈ ys.drop i, SmallF y.2.facts from fun y hy => plain_small (hplain.out _ (List.mem_map_of_mem (List.mem_of_mem_drop hy))))
                have hS5 : ∀ j, S j → TyIn TD w5 j := fun j hj => (h4.s j hj).move hT45
                have hg5 := hk5.lt
                have hrA : ∀ j, rowOf A j → j < w4.heap.size := fun j hj => (own_row_blk h4.o A c rfl j hj).1
                have hneA : ∀ j, rowOf A j → j ≠ g := fun j hj => by
                  obtain ⟨_, _, cs, h⟩ := own_row_blk h4.o A c rfl j hj
                  exact blk_apart h4.b h (by decide)
                have hstart : TkLoop S w5 w5 g t A k 0 k (zs.take k) [] ((ys.drop i).map (·.2)) := by
                  refine ⟨hk5, .inl ⟨rfl, ?_, ?_⟩, fun h => absurd h (by omega), ?_, rfl, Fr.refl _ _, TStay.refl _ _, fun j hj => Nat.lt_of_lt_of_le (hrA j hj) hF45.size⟩
                  · rw [List.append_nil]
                    have h1 : RdE w5 A n zs := Rds.stay (S := fun j => j ≠ g) h4.rd (fun _ ad e => hneA _ ⟨ad, e, rfl⟩) (hF45.stay fun j hj _ => hj)
                    have := Rds.take (size := 6) h1 hkn
                    rw [← flat_take enC_len] at this
                    exact this
                  · rw [List.append_nil]
                    exact fun z hz => h4.d.one z (List.mem_of_mem_take hz)
                  · rw [List.append_nil]
                    exact ((h4.d.keep fun j hj hl => hT45 j (h4.s j hj)).mono fun j _ hj => .inl hj).sub fun y hy => List.mem_of_mem_take hy
                clear hrA hneA
                obtain ⟨p, hp⟩ : ∃ p, m - i = p := ⟨_, rfl⟩
                rw [hp] at hrow5 hmi
                have hp0 : 0 < p := by omega
                have hp5 : p ≤ 100000 := by omega
                have hpp := Lib.hid hp
                clear hw5
                simp only [hp]
                clear hp
                go_loopw [83] (fun i' wr => ∃ (q : Nat) (A' : Option Addr) (c' : Nat) (zq : List (Value × En)), q ≤ p ∧ i' = .int .i64 q ∧ TkLoop S w5 wr g t A' k q c' (zs.take k) zq ((ys.drop i).map (·.2))) (fun i' _ => p - (intOf i').toNat)
                case atStart => exact ⟨0, A, k, [], Nat.zero_le _, rfl, hstart⟩
                case round =>
                  clear hstart
                  obtain ⟨q, A', c', zq, hq, rfl, hL⟩ := hrel
                  rename World => wr
                  by_cases hlq : q < p
                  · have hF := hL.2.2.2.2.2.1
                    obtain ⟨bd, v4, y, hbd, hy, o0, o1, o2, o3, o4, o5⟩ := RdE.at_ (Rds.stay (S := fun j => j ≠ g) hrow5 (fun h0 ad e => by
                      have e' : ad = ad2.add (i * 6) := (Option.some.inj e).symm
                      rw [e', block_of_add]
                      exact hA2 _ ⟨ad2, rfl, rfl⟩) (hF.stay fun j hj _ => hj)) hlq
                    obtain rfl : ad2.add (i * 6) = bd := Option.some.inj hbd
                    have fy := (hdeep5 _ (List.mem_of_getElem? hy)).keep (hF.stay fun j hj _ => hS2 j hj)
                    have hsm := hsm5.out _ (List.mem_of_getElem? hy)
                    obtain ⟨B3, m3, d3, hv3, l4, l5, l6⟩ := fy.form
                    obtain rfl : v4 = _ := hv3
                    have htk := Lib.hid (take_next (show ((ys.drop i).map (·.2))[q]? = some y by rw [List.getElem?_map, hy]; rfl))
                    have hmeas' := Lib.hid (show p - (q + 1) < p - q by omega)
                    have hbA : Below wr.heap.size wr (wr.alloc (.cells #[.int .i64 y.idx, .int .i64 y.term, .int .i64 y.op, .int .i64 y.sess, .int .i64 y.seq, .slice B3 m3 d3] 65)) := (Below.refl _ _).alloc (Nat.le_refl _) _
                    have hyb := Blk.new wr 65 #[.int .i64 y.idx, .int .i64 y.term, .int .i64 y.op, .int .i64 y.sess, .int .i64 y.seq, .slice B3 m3 d3]
                    have hA'b := hL.2.2.2.2.2.2.2
                    have hLA := hL.below hbA
                    have fy := fy.keep (Stay.below (S := S2) hbA)
                    have hsz5 : w5.heap.size ≤ wr.heap.size := hF.size
                    clear hy hbd hrow5 hdeep5 hF hL
                    go_wp2_with fail
                    generalize wr.alloc (.cells #[.int .i64 y.idx, .int .i64 y.term, .int .i64 y.op, .int .i64 y.sess, .int .i64 y.seq, .slice B3 m3 d3] 65) = wA at *
                    have hszA : wr.heap.size ≤ wA.heap.size := hbA.size
                    generalize wr.heap.size = gy at *
                    have r0 := hyb.cell 0
                    have r1 := hyb.cell 1
                    have r2 := hyb.cell 2
                    have r3 := hyb.cell 3
                    have r4 := hyb.cell 4
                    have r5 := hyb.cell 5
                    simp only [List.getElem?_toArray, List.getElem?_cons_zero, List.getElem?_cons_succ] at r0 r1 r2 r3 r4 r5
                    have rg := hLA.1.cell 2
                    simp only [List.getElem?_toArray, List.getElem?_cons_zero, List.getElem?_cons_succ] at rg
                    have kg := keep_cell (gs := [g, gy]) rg (by simp)
                    have k0 := keep_cell (gs := [g, gy]) r0 (by simp)
                    have k1 := keep_cell (gs := [g, gy]) r1 (by simp)
                    have k2 := keep_cell (gs := [g, gy]) r2 (by simp)
                    have k3 := keep_cell (gs := [g, gy]) r3 (by simp)
                    have k4 := keep_cell (gs := [g, gy]) r4 (by simp)
                    have k5 := keep_cell (gs := [g, gy]) r5 (by simp)
                    have hgA : g < wA.heap.size := hLA.1.lt
                    have hyA : gy < wA.heap.size := hyb.lt
                    have hgs : ∀ q ∈ [g, gy], q < wA.heap.size := by simp; exact ⟨hgA, hyA⟩
                    have hcall : Calls Try.prog 71 #[.agg #[.int .i64 y.idx, .int .i64 y.term, .int .i64 y.op, .int .i64 y.sess, .int .i64 y.seq, .slice B3 m3 d3]] wA.drew fun e w' => ∃ A' c', e = .returned (.agg #[.int .i64 y.idx, .int .i64 y.term, .int .i64 y.op, .int .i64 y.sess, .int .i64 y.seq, .slice A' m3 c']) ∧ FactsV (NewIn TD wA.heap.size w') w' (.slice A' m3 c') y.facts ∧ Below wA.heap.size wA w' :=
                      (own_any S2 y B3 m3 d3 wA.drew fy hsm).mono fun e w' h => by
                        obtain ⟨A', c', h1, h2, h3⟩ := h
                        exact ⟨A', c', h1, h2, (below_drewN (Below.refl wA.heap.size wA) 1).trans h3⟩
                    clear fy rg r0 r1 r2 r3 r4 r5
                    refine wp_region_mixE (C := keepW [g, gy] wA) [([0, 1, 2, 3, 4, 5], 6), ([], 7), ([], 8)] ([9, 10], 11) (by kernel_rfl) (by kernel_rfl) (fun _ _ _ _ e h => ⟨e.symm.trans h.1, h.2⟩) keepW_refl ?_
                    refine wpSegsE_step fun K1 hK1 => ?_
                    simp only [pickL, List.getElem?_cons_zero, List.getElem?_cons_succ]
                    repeat (go_big_quiet_step (fail))
                    refine wpQuiet_nil ?_
                    go_wp2_with fail
                    refine hcall.mono ?_
                    rintro e w6 ⟨A6, d6, rfl, hf6, hb6⟩
                    clear hcall
                    go_wp2_with fail
                    refine ⟨keepW_below hgs hb6, hK1 _ _ ?_⟩
                    have hbB : Below w6.heap.size w6 (w6.alloc (.cells #[.int .i64 y.idx, .int .i64 y.term, .int .i64 y.op, .int .i64 y.sess, .int .i64 y.seq, .slice A6 m3 d6] 65)) := (Below.refl _ _).alloc (Nat.le_refl _) _
                    have hblk6 : Blk (w6.alloc (.cells #[.int .i64 y.idx, .int .i64 y.term, .int .i64 y.op, .int .i64 y.sess, .int .i64 y.seq, .slice A6 m3 d6] 65)) w6.heap.size 65 (enC (.slice A6 m3 d6, y)).toArray := Blk.new w6 65 (enC (.slice A6 m3 d6, y)).toArray
                    have hbA7 := below_then hb6 hbB (Nat.le_refl _)
                    have hL7 := hLA.below hbA7
                    have hf7 := hf6.move (TStay.below hbB)
                    have hkq : k + q ≤ 100000000 := by omega
                    have hB7 : w5.heap.size ≤ (w6.alloc (.cells #[.int .i64 y.idx, .int .i64 y.term, .int .i64 y.op, .int .i64 y.sess, .int .i64 y.seq, .slice A6 m3 d6] 65)).heap.size := by have := hbA7.size; omega
                    refine wpSegsE_step fun K2 hK2 => ?_
                    simp only [pickL, List.getElem?_cons_zero, List.getElem?_cons_succ]
                    repeat (go_big_quiet_step (fail))
                    refine wpQuiet_nil ?_
                    go_wp2_with fail
                    refine ⟨keepW_below hgs hbA7, hK2 _ _ ?_⟩
                    refine wpSegsE_step fun K3 hK3 => ?_
                    simp only [pickL, List.getElem?_cons_zero, List.getElem?_cons_succ]
                    repeat (go_big_quiet_step (fail))
                    refine wpQuiet_nil ?_
                    go_wp2_with (at_builtin; refine wpList_append_ex rfl (.tmp 91) (.tmp 94) rfl w5.heap.size rfl hL7.2.1 w6.heap.size (z := (.slice A6 m3 d6, y)) rfl hblk6 rfl hkq hB7 ?_; intro A9 c9 w9 hown9 hb9 hs9 hfr9)
                    obtain ⟨w7, hw7⟩ : ∃ w7, w6.alloc (.cells #[.int .i64 y.idx, .int .i64 y.term, .int .i64 y.op, .int .i64 y.sess, .int .i64 y.seq, .slice A6 m3 d6] 65) = w7 := ⟨_, rfl⟩
                    rw [hw7] at hbB hblk6 hbA7 hL7 hf7 hb9 hs9 hfr9 hB7
                    have hkg : w9.heap[g]? = wA.heap[g]? := (hb9.block g hg5).trans (hbA7.block g hgA)
                    have hky : w9.heap[gy]? = wA.heap[gy]? := (hfr9.block gy (by have := hbA7.size; omega) fun hj => by have := hA'b _ hj; omega).trans (hbA7.block gy hyA)
                    refine ⟨keepW_two hkg hky, hK3 _ _ ?_⟩
                    have hk9 := hL7.1.below hb9 hg5
                    have fg := hk9.free 2
                    have cg := hk9.cell 2
                    simp only [List.getElem?_toArray, List.getElem?_cons_zero, List.getElem?_cons_succ] at cg
                    have hfin := Lib.hid (hL7.next hg5 hS5 hb9 hs9 hown9 (hf7.mono (NewIn.wide (L := TD) (fun _ h => h) (by omega))) htk.out)
                    clear hL7 hown9 hb9 hs9 hfr9 hf7 hf6 hLA
                    refine wpSegsE_last ?_
                    simp only [pickL, List.getElem?_cons_zero, List.getElem?_cons_succ]
                    repeat (go_big_quiet_step (fail))
                    refine wpQuiet_nil ?_
                    go_wp2_with fail
                    exact ⟨⟨q + 1, A9, c9, _, hlq, by go_num, hfin.out⟩, by simp [intOf]; exact hmeas'.out⟩
                  · obtain rfl : q = p := by omega
                    obtain ⟨L1, _, L3, L4, L5, L6, L7, _⟩ := hL
                    have hgx9 : Blk wr gx 65 #[.int .i64 x.idx, .int .i64 x.term, .int .i64 x.op, .int .i64 x.sess, .int .i64 x.seq, .slice B1 m1 d1] := (L6.block gx hgx.lt (blk_apart hk5 hgx (by decide))).trans hgx
                    have z0 := hgx9.cell 0
                    simp only [List.getElem?_toArray, List.getElem?_cons_zero] at z0
                    have hown := L3 hp0
                    have hmap : (zs.take k ++ zq).map (·.2) = t.L.take k ++ x :: (ys.map (·.2)).drop (i + 1) := by
                      rw [List.map_append, List.map_take, h4.l, L5, show ((ys.drop i).map (·.2)).take q = (ys.drop i).map (·.2) from List.take_of_length_le (by rw [List.length_map, hmi.out]; exact Nat.le_refl _), hM.out]
                    have hsz : w.heap.size ≤ w5.heap.size := hF05.size
                    have hP := Lib.hid (show PostT B S w g A { t with L := t.L.take k ++ x :: (ys.map (·.2)).drop (i + 1) } wr.heap.size wr from
                      ⟨A', k + q, c', _, fun j => S j ∨ NewIn TD w5.heap.size wr j, ⟨L1, own_mono hown (by omega), L4, hmap, hinv.out, h4.g, fun j hj => hj.elim (fun hj => (hS5 j hj).move L7) fun hj => hj.2⟩,
                        fun j hj => hj.imp_right fun hj => ⟨by have := hj.1; omega, by obtain ⟨_, cs, fz, ty, h1, _⟩ := hj; exact lt_of_heap h1⟩,
                        fun j hj => .inr (by have := (own_row_blk hown A' c' rfl j hj).2.1; omega), Nat.le_refl _, (hF05.trans L6 fun _ h => .inl h).mono fun _ h => .inl h⟩)
                    clear hown L1 L3 L4 L5 L6 L7 hmap hgx9
                    go_wp2_with fail
                    go_ret2
                    exact ⟨by rw [he.out]; rfl, by rw [he.out]; exact hP.out⟩
          · obtain rfl : i = m := by omega
            have he := Lib.hid (hNone.out (Hfd.out.trans (by rw [List.drop_eq_nil_of_le (by rw [List.length_map, hyl.out]; exact Nat.le_refl _)]; rfl)))
            go_wp2_with fail
            go_ret2
            exact ⟨by rw [he.out]; rfl, by rw [he.out]; exact PostT.same h hb⟩
    · have he := Lib.hid (hno.out (by rw [hv]; rintro ⟨h0, _⟩; injection h0 with h0; exact i2 h0))
      have i3 : (v1 == tm) = false := beq_eq_false_iff_ne.2 i2
      have i4 : (v1 != tm) = true := by rw [bne, i3]; rfl
      subst i1
      have hv := Lib.hid hv
      clear hno
      go_enter Try.func47, Try.ntmps47
      go_wp2_with fail
      refine hterm.mono ?_
      rintro e w1 ⟨rfl, hb1⟩
      go_wp2_with fail
      go_ret2
      exact ⟨by rw [he.out]; rfl, by rw [he.out]; exact PostT.same h hb1⟩
  · have he := Lib.hid (hno.out (by rw [hv]; rintro ⟨h0, _⟩; injection h0 with _ h0; exact i1 h0))
    have i3 : (v2 == 0) = false := beq_eq_false_iff_ne.2 i1
    have i4 : (v2 != 0) = true := by rw [bne, i3]; rfl
    have hv := Lib.hid hv
    clear hno
    go_enter Try.func47, Try.ntmps47
    go_wp2_with fail
    refine hterm.mono ?_
    rintro e w1 ⟨rfl, hb1⟩
    go_wp2_with fail
    go_ret2
    exact ⟨by rw [he.out]; rfl, by rw [he.out]; exact PostT.same h hb1⟩
end
end Go.Proofs.Ytojmkbhihnnmaaa
