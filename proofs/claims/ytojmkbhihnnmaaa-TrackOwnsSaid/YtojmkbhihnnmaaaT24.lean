/-
  The answer's track: Take.
-/
import Derived.Test.YtojmkbhihnnmaaaT23
namespace Go.Proofs.Ytojmkbhihnnmaaa
open Go.RowKit

section
variable {S : Nat → Prop} {w w' : World} {g n c : Nat} {t : Trk} {A : Option Addr} {zs : List (Value × En)}
theorem take_min {α : Type} {l : List α} {k j : Nat} {x : α} (h : l[j]? = some x) (hk : j < k) : l.take (min (j + 1) k) = l.take (min j k) ++ [x] := by
  rw [Nat.min_eq_left (by omega), Nat.min_eq_left (by omega), take_next h]
theorem rtake_tail {w7 wr : World} {A7 : Option Addr} {N q i c7 : Nat} {ad2 : Addr} {v : Value} {ys : List (Value × En)} {x : En} {R : List En} (h : RefIn S w g t A n c zs) (hbw : Below w.heap.size w wr) (hb7 : Below w.heap.size wr w7)
    (hown7 : w7.ownsRow w.heap.size 65 6 (.slice A7 N c7) N ((zs.take q ++ ys.drop i).flatMap enC)) (hd : DeepE S w ys) (hM : (ys.drop i).map (·.2) = x :: R) (hinv : Trk.Inv { t with L := t.L.take q ++ x :: R }) (hS : ∀ j, S j → j ≠ g)
    (o0 : w.cell? (ad2.add (i * 6)) = some v) (hA2 : ad2.block ≠ g) :
    Blk w7 g 78 #[.int .i64 t.index, .int .i64 t.term, .slice A n c] ∧ (w7.setCell ⟨g, 2, none⟩ (.slice A7 N c7)).cell? (ad2.add (i * 6)) = some v ∧ PostR S w g A { t with L := t.L.take q ++ x :: R } (w7.setCell ⟨g, 2, none⟩ (.slice A7 N c7)) := by
  have hb07 : Below w.heap.size w w7 := hbw.trans hb7
  have hg07 : Blk w7 g 78 #[.int .i64 t.index, .int .i64 t.term, .slice A n c] := (hb07.block g h.b.lt).trans h.b
  have hd7 : DeepE S w7 (zs.take q ++ ys.drop i) := ((h.d.keep (Stay.below (S := S) hb07)).sub fun y hy => List.mem_of_mem_take hy).append ((hd.keep (Stay.below (S := S) hb07)).sub fun y hy => List.mem_of_mem_drop hy)
  have hmap : (zs.take q ++ ys.drop i).map (·.2) = t.L.take q ++ x :: R := by rw [List.map_append, List.map_take, h.l, hM]
  have h8 := RefIn.setRow (t := t) hg07 hown7 hd7 hmap hinv hS
  have o7 := (hb07.cell (lt_of_cell o0)).trans o0
  refine ⟨hg07, ?_, A7, _, c7, _, h8, fun j hj => .inr (own_row_blk hown7 A7 c7 rfl j hj).2.1, (Fr.of_below (X := fun j => j = g) hb07).trans (Fr.set g 2 _) fun _ h => .inl h⟩
  rw [World.cell?_setCell_other]
  · exact o7
  · intro e
    have := congrArg Addr.block e
    rw [block_of_add] at this
    exact hA2 this.symm
set_option maxRecDepth 100000 in
set_option maxHeartbeats 4000000 in
theorem rtake_any (idx tm : Int) (A2 : Option Addr) (m c2 : Nat) (ys : List (Value × En)) (h : RefIn S w g t A n c zs) (hn : n ≤ 1000000) (hr : RdE w A2 m ys) (hd : DeepE S w ys)
    (hm : m ≤ 100000) (hmc : m ≤ c2) (_hcc : c2 ≤ maxLen) (hS : ∀ j, S j → j ≠ g) (hA2 : 0 < m → ∀ j, rowOf A2 j → j ≠ g) :
    Calls Try.prog 51 #[.pointer (some ⟨g, 0, none⟩), .int .i64 idx, .int .i64 tm, .slice A2 m c2] w fun e w' =>
      e = .returned (.tuple #[.int .i64 (t.takeF idx tm (ys.map (·.2))).1.1, .bool (t.takeF idx tm (ys.map (·.2))).1.2]) ∧ PostR S w g A (t.takeF idx tm (ys.map (·.2))).2 w' := by
  have hterm := rterm_any idx h hn
  have hno := Lib.hid (fun h0 => takeF_no (t := t) (idx := idx) (tm := tm) (L := ys.map (·.2)) h0)
  obtain ⟨v1, hv1⟩ : ∃ v, (t.termF idx).1 = v := ⟨_, rfl⟩
  obtain ⟨v2, hv2⟩ : ∃ v, (t.termF idx).2 = v := ⟨_, rfl⟩
  have hv : t.termF idx = (v1, v2) := by rw [← hv1, ← hv2]
  rw [hv1, hv2] at hterm
  clear hv1 hv2
  have hl := Lib.hid h.len.1
  have hzl := Lib.hid h.len.2
  have hyl := Lib.hid hr.len
  have hib := h.i.b
  have hir := h.i.room
  rw [← h.len.1] at hir
  by_cases i1 : v2 = 0
  · by_cases i2 : v1 = tm
    · subst i1
      subst i2
      have hti := termF_in hv
      rw [← h.len.1] at hti
      obtain ⟨hi1, hi2, hi3⟩ := hti
      clear hi3
      have hNone := Lib.hid (fun (hbm : mayFrom idx 0 v1 (ys.map (·.2)) = true) (h0 : t.findDiff (ys.map (·.2)) = none) => takeF_none hv hbm h0)
      have hSome := Lib.hid (fun (hbm : mayFrom idx 0 v1 (ys.map (·.2)) = true) (x : En) (R : List En) (h0 : t.findDiff (ys.map (·.2)) = some (x, R)) => takeF_some hv hbm h0)
      have hspec := Lib.hid (fun (hbm : mayFrom idx 0 v1 (ys.map (·.2)) = true) (x : En) (R : List En) (h0 : t.findDiff (ys.map (·.2)) = some (x, R)) => findDiff_spec (t := t) (i := 0) (idx := idx) (term := v1) (x := x) (r := R) (by rw [show idx + ((0 : Nat) : Int) = idx by omega]; exact hv) hbm h0)
      have hplain := Lib.hid (fun (hbm : mayFrom idx 0 v1 (ys.map (·.2)) = true) => mayFrom_plain hbm)
      have hinv := Lib.hid (h.i.takeF idx v1 (ys.map (·.2)))
      have hv := Lib.hid hv
      go_enter Try.func51, Try.ntmps51
      go_wp2_with fail
      refine hterm.mono ?_
      rintro e w1 ⟨rfl, rfl⟩
      clear hterm
      skip
      go_wp2_with fail
      go_loopw [12] (fun i' wr => ∃ i : Nat, i ≤ m ∧ i' = .int .i64 i ∧ mayFrom idx 0 v1 (ys.map (·.2)) = mayFrom idx i (prevT v1 (ys.map (·.2)) i) ((ys.map (·.2)).drop i) ∧ Below w.heap.size w wr) (fun i' _ => m - (intOf i').toNat)
      case atStart => exact ⟨0, Nat.zero_le _, rfl, rfl, Below.refl _ _⟩
      case round =>
        obtain ⟨i, hi, rfl, hmf, hb⟩ := hrel
        by_cases hlt : i < m
        · obtain ⟨ad2, v3, x, rfl, hx, c0, c1, c2', c3, c4, c5⟩ := (hr.below hb).at_ hlt
          have fx := (hd _ (List.mem_of_getElem? hx)).keep (Stay.below (S := S) hb)
          obtain ⟨B1, m1, d1, hv1, l1, l2, l3⟩ := fx.form
          obtain rfl : v3 = _ := hv1
          have hxL : (ys.map (·.2))[i]? = some x := by rw [List.getElem?_map, hx]; rfl
          have hdr := get_cons hxL
          rw [hdr] at hmf
          have hnext := Lib.hid (show prevT v1 (ys.map (·.2)) (i + 1) = x.term by rw [prevT_succ, hxL])
          obtain ⟨pv, hpv⟩ : ∃ pv, prevT v1 (ys.map (·.2)) i = pv := ⟨_, rfl⟩
          rw [hpv] at hmf
          have hmf : mayFrom idx 0 v1 (ys.map (·.2)) = (plainB x && (decide (x.idx = idx + 1 + i) && (decide (pv ≤ x.term) && mayFrom idx (i + 1) x.term ((ys.map (·.2)).drop (i + 1))))) := hmf
          have hmeas := Lib.hid (show m - (i + 1) < m - i by omega)
          have hcall := rplain_any S x B1 m1 d1 _ fx (Nat.le_trans l1 l2)
          unfold enV at hcall
          -- the least term
          have hleast : (i = 0 ∧ v1 = pv) ∨ (∃ k, i = k + 1 ∧ k < m ∧ ∃ w0 : Unit, wr.cell? ⟨(ad2.add (k * 6)).block, (ad2.add (k * 6)).off + 1, none⟩ = some (.int .i64 pv)) := by
            rcases Nat.eq_zero_or_pos i with h0 | h0
            · subst h0
              exact .inl ⟨rfl, hpv⟩
            · obtain ⟨k, rfl⟩ : ∃ k, i = k + 1 := ⟨i - 1, by omega⟩
              obtain ⟨ad3, v4, y, e3, hy, e0, e1, _⟩ := (hr.below hb).at_ (show k < m by omega)
              obtain rfl := Option.some.inj e3
              have : pv = y.term := by rw [← hpv, prevT_succ, List.getElem?_map, hy]; rfl
              rw [this]
              exact .inr ⟨k, rfl, by omega, (), e1⟩
          obtain ⟨bp, hbp⟩ : ∃ bp, plainB x = bp := ⟨_, rfl⟩
          rw [hbp] at hcall hmf
          have hNo := Lib.hid (fun h0 : mayFrom idx 0 v1 (ys.map (·.2)) = false => hno.out (by rw [h0]; simp))
          have hpx := Lib.hid hbp
          have hmfH := Lib.hid hmf
          clear hx hxL hdr hpv fx hbp hmf
          go_wp2_with fail
          refine hcall.mono ?_
          rintro e w1 ⟨rfl, hb1⟩
          clear hcall
          have hb01 := below_then hb hb1 (Nat.le_refl _)
          have c0 := (hb1.cell (lt_of_cell c0)).trans c0
          have c1 := (hb1.cell (lt_of_cell c1)).trans c1
          have hcases : (bp = false ∧ mayFrom idx 0 v1 (ys.map (·.2)) = false) ∨ (bp = true ∧ ¬ x.idx = idx + 1 + i ∧ mayFrom idx 0 v1 (ys.map (·.2)) = false) ∨ (bp = true ∧ x.idx = idx + 1 + i ∧ x.term < pv ∧ mayFrom idx 0 v1 (ys.map (·.2)) = false) ∨
              (bp = true ∧ x.idx = idx + 1 + i ∧ ¬ x.term < pv ∧ mayFrom idx 0 v1 (ys.map (·.2)) = mayFrom idx (i + 1) x.term ((ys.map (·.2)).drop (i + 1))) := by
            have hmf := hmfH.out
            cases bp with
            | false => exact .inl ⟨rfl, hmf⟩
            | true =>
              by_cases j1 : x.idx = idx + 1 + i
              · rw [decide_eq_true j1] at hmf
                by_cases j2 : x.term < pv
                · rw [decide_eq_false (show ¬ pv ≤ x.term by omega)] at hmf
                  exact .inr (.inr (.inl ⟨rfl, j1, j2, hmf⟩))
                · rw [decide_eq_true (show pv ≤ x.term by omega)] at hmf
                  exact .inr (.inr (.inr ⟨rfl, j1, j2, hmf⟩))
              · rw [decide_eq_false j1] at hmf
                exact .inr (.inl ⟨rfl, j1, hmf⟩)
          clear c2' c3 c4 c5 hmfH hspec hSome hNone hplain hinv
          rcases hleast with ⟨hi0, hle⟩ | ⟨k, hi0, hkm, _, hle⟩
          · subst hle
            have hz : ¬ (0 : Int) < (i : Int) := by omega
            clear hi0
            rcases hcases with ⟨j0, j4⟩ | ⟨j0, j1, j4⟩ | ⟨j0, j1, j2, j4⟩ | ⟨j0, j1, j2, j4⟩
            · have he := Lib.hid (hNo.out j4)
              subst j0
              clear j4 hNo
              go_wp2_with fail
              go_ret2
              exact ⟨by rw [he.out]; rfl, by rw [he.out]; exact PostR.same h hb01⟩
            · have he := Lib.hid (hNo.out j4)
              subst j0
              clear j4 hNo
              go_wp2_with fail
              go_ret2
              exact ⟨by rw [he.out]; rfl, by rw [he.out]; exact PostR.same h hb01⟩
            · have he := Lib.hid (hNo.out j4)
              subst j0
              clear j4 hNo
              go_wp2_with fail
              go_ret2
              exact ⟨by rw [he.out]; rfl, by rw [he.out]; exact PostR.same h hb01⟩
            · have j4 := Lib.hid j4
              subst j0
              clear hNo
              go_wp2_with fail
              go_roundw
              case rel => exact ⟨i + 1, hlt, by go_num, by rw [hnext.out]; exact j4.out, hb01⟩
              case measure => simp [intOf]; exact hmeas.out
          · have hz : (0 : Int) < (i : Int) := by omega
            have hik : (i : Int) - 1 = (k : Int) := by omega
            have hle := (hb1.cell (lt_of_cell hle)).trans hle
            clear hi0
            rcases hcases with ⟨j0, j4⟩ | ⟨j0, j1, j4⟩ | ⟨j0, j1, j2, j4⟩ | ⟨j0, j1, j2, j4⟩
            · have he := Lib.hid (hNo.out j4)
              subst j0
              clear j4 hNo
              go_wp2_with fail
              go_ret2
              exact ⟨by rw [he.out]; rfl, by rw [he.out]; exact PostR.same h hb01⟩
            · have he := Lib.hid (hNo.out j4)
              subst j0
              clear j4 hNo
              go_wp2_with fail
              go_ret2
              exact ⟨by rw [he.out]; rfl, by rw [he.out]; exact PostR.same h hb01⟩
            · have he := Lib.hid (hNo.out j4)
              subst j0
              clear j4 hNo
              go_wp2_with fail
              go_ret2
              exact ⟨by rw [he.out]; rfl, by rw [he.out]; exact PostR.same h hb01⟩
            · have j4 := Lib.hid j4
              subst j0
              clear hNo
              go_wp2_with fail
              go_roundw
              case rel => exact ⟨i + 1, hlt, by go_num, by rw [hnext.out]; exact j4.out, hb01⟩
              case measure => simp [intOf]; exact hmeas.out
        · have hbm : mayFrom idx 0 v1 (ys.map (·.2)) = true := hmf.trans (by rw [List.drop_eq_nil_of_le (by rw [List.length_map, hyl.out]; omega)]; rfl)
          have hplain := Lib.hid (hplain.out hbm)
          have hspec := Lib.hid (hspec.out hbm)
          have hSome := Lib.hid (hSome.out hbm)
          have hNone := Lib.hid (hNone.out hbm)
          clear hmf hno hbm
          go_wp2_with fail
          clear hi hlt
          rename_i wr0
          have hb0 := hb
          clear hb
          go_loopw [15] (fun i' wr => ∃ i : Nat, i ≤ m ∧ i' = .int .i64 i ∧ t.findDiff (ys.map (·.2)) = t.findDiff ((ys.map (·.2)).drop i) ∧ Below w.heap.size w wr) (fun i' _ => m - (intOf i').toNat)
          case atStart => exact ⟨0, Nat.zero_le _, rfl, rfl, hb0⟩
          case round =>
            clear hb0
            obtain ⟨i, hi, rfl, hfd, hb⟩ := hrel
            have Hfd := Lib.hid hfd
            clear hfd
            by_cases hlt : i < m
            · have hA2 := hA2 (Nat.zero_lt_of_lt hlt)
              obtain ⟨ad2, v3, x, rfl, hx, c0w, c1w, _, _, _, _⟩ := hr.at_ hlt
              have c0 := (Below.cell hb (lt_of_cell c0w)).trans c0w
              have c1 := (Below.cell hb (lt_of_cell c1w)).trans c1w
              have fx := (hd _ (List.mem_of_getElem? hx)).keep (Stay.below (S := S) hb)
              obtain ⟨B1, m1, d1, hv1, l1, l2, l3⟩ := fx.form
              obtain rfl : v3 = _ := hv1
              have hxL : (ys.map (·.2))[i]? = some x := by rw [List.getElem?_map, hx]; rfl
              have hdr := get_cons hxL
              rw [hdr] at Hfd
              have hxp := plain_num (hplain.out x (List.mem_of_getElem? hxL))
              have hmeas := Lib.hid (show m - (i + 1) < m - i by omega)
              have h3 := h.below hb
              have hcall := rterm_any x.idx h3 hn
              obtain ⟨u1, hu1⟩ : ∃ v, (t.termF x.idx).1 = v := ⟨_, rfl⟩
              obtain ⟨u2, hu2⟩ : ∃ v, (t.termF x.idx).2 = v := ⟨_, rfl⟩
              have hu := Lib.hid (show t.termF x.idx = (u1, u2) by rw [← hu1, ← hu2])
              rw [hu1, hu2] at hcall
              have hdrop := Lib.hid (show ys.drop i = (.slice B1 m1 d1, x) :: ys.drop (i + 1) from get_cons hx)
              clear hu1 hu2 hxL hx hdr
              go_wp2_with fail
              refine hcall.mono ?_
              rintro e w4 ⟨rfl, rfl⟩
              clear hcall
              by_cases jj : u2 = 0 ∧ u1 = x.term
              · obtain ⟨j1, j2⟩ := jj
                subst j1
                subst j2
                have Hn := Lib.hid (Hfd.out.trans (show _ = t.findDiff ((ys.map (·.2)).drop (i + 1)) by
                  show (if t.termF x.idx = (x.term, 0) then _ else _) = _
                  rw [if_pos hu.out]))
                go_wp2_with fail
                go_roundw
                case rel => exact ⟨i + 1, hlt, by go_num, Hn.out, hb⟩
                case measure => simp [intOf]; exact hmeas.out
              · have hfd' : t.findDiff (ys.map (·.2)) = some (x, (ys.map (·.2)).drop (i + 1)) := Hfd.out.trans (by
                  show (if t.termF x.idx = (x.term, 0) then _ else _) = _
                  rw [if_neg (by rw [hu.out]; rintro h0; injection h0 with h1 h2; exact jj ⟨h2, h1⟩)])
                obtain ⟨j, term', _, e1, e2, _, _, _⟩ := hspec.out x _ hfd'
                have e3 := termF_in e2
                rw [← hl.out] at e3
                obtain ⟨e4, e5, e6⟩ := e3
                clear e6 e2
                obtain ⟨k, hk⟩ : ∃ k : Nat, x.idx - t.index - 1 = k := ⟨(x.idx - t.index - 1).toNat, by omega⟩
                have hkn : k ≤ n := by omega
                have he0 := hSome.out x _ hfd'
                rw [hk, show (k : Int).toNat = k from rfl] at he0
                have he := Lib.hid he0
                have hinv := hinv.out
                rw [he0] at hinv
                have hinv := Lib.hid hinv
                have hM := Lib.hid (show (ys.drop i).map (·.2) = x :: (ys.map (·.2)).drop (i + 1) by rw [hdrop.out, List.map_cons, List.map_drop])
                have hmi := Lib.hid (show (ys.drop i).length = m - i by rw [List.length_drop, hyl.out])
                clear hfd' e1 e4 e5 he0
                have hic : ¬ c2 = i := by omega
                have c0x : w.cell? (ad2.add (i * 6)) = some (.int .i64 x.idx) := c0w
                have hjj : (u2 ≠ 0 ∧ (u2 == 0) = false) ∨ (u2 = 0 ∧ (u1 == x.term) = false) := by
                  by_cases j1 : u2 = 0
                  · exact .inr ⟨j1, beq_eq_false_iff_ne.2 fun e => jj ⟨j1, e⟩⟩
                  · exact .inl ⟨j1, beq_eq_false_iff_ne.2 j1⟩
                clear jj
                rcases hjj with ⟨jj, jjj⟩ | ⟨jj, jjj⟩
                all_goals
                  go_wp2_with fail
                  go_loopw [18, 19] (fun o j' w2 => ∃ (j q : Nat) (A' : Option Addr) (c' : Nat), j ≤ n ∧ j' = .int .i64 j ∧ o = .slice A' q c' ∧ q = min j k ∧ w2.ownsRow w.heap.size 65 6 (.slice A' q c') q ((zs.take (min j k)).flatMap enC) ∧ Below w.heap.size w w2) (fun _ j' _ => n - (intOf j').toNat)
                  case atStart => exact ⟨0, 0, none, 0, Nat.zero_le _, rfl, rfl, by rw [Nat.zero_min], by rw [Nat.zero_min]; exact own_nil _ _, hb⟩
                  case round =>
                    obtain ⟨j, q, A', c', hj, rfl, rfl, hq, hown, hbw⟩ := hrel
                    rename World => wr2
                    have h' := h.below hbw
                    obtain ⟨q0, q1, q2⟩ := h'.cells
                    have o0 := (Below.cell hbw (lt_of_cell c0x)).trans c0x
                    by_cases hjn : j < n
                    · obtain ⟨bd, B3, m3, d3, y, hAe, hz, hy, p0, p1, p2, p3, p4, p5⟩ := h'.at_ hjn
                      have hyi := h.i.idx _ _ hy
                      have hmeas' := Lib.hid (show n - (j + 1) < n - j by omega)
                      have hbA : ∀ q, Below wr2.heap.size wr2 ((wr2.drewN q).alloc (.cells #[.int .i64 y.idx, .int .i64 y.term, .int .i64 y.op, .int .i64 y.sess, .int .i64 y.seq, .slice B3 m3 d3] 65)) := fun q => (below_drewN (Below.refl _ _) q).alloc (Nat.le_refl _) _
                      have hown2 := fun q => own_below hown (hbA q)
                      have hbw2 := fun q => below_then hbw (hbA q) (Nat.le_refl _)
                      have hblk := fun q => Blk.new (wr2.drewN q) 65 (enC (.slice B3 m3 d3, y)).toArray
                      rw [hAe] at q2
                      by_cases hjk : j < k
                      · have hyx : y.idx < x.idx := by omega
                        have hnx := Lib.hid (take_min hz hjk)
                        have hq2 := Lib.hid (show q + 1 = min (j + 1) k by omega)
                        have hq1 : q + 1 ≤ 1000000000 := by omega
                        clear hz hy hyi hown hbw hq
                        go_wp2_with fail
                        go_quiet (fail)
                        go_wp2_with (at_builtin; refine wpList_append_es rfl (.tmp 126) (.tmp 134) rfl w.heap.size rfl (hown2 nq) rfl (RdE.one (hblk nq)) (fun y hy => by rw [List.mem_singleton.1 hy]; rfl) hq1 (hbw2 nq).size ?_; intro A6 c6 w6 hown6 hfr6 hb6 hrow6)
                        refine ⟨?_, by simp [intOf]; exact hmeas'.out⟩; first | (show ∃ j' : Nat, _; exact ⟨j + 1, q + 1, A6, c6, hjn, by go_num, rfl, hq2.out, by rw [hnx.out]; exact hown6, (hbw2 nq).trans hb6⟩) | ((repeat apply Exists.intro); (repeat apply Exists.intro); (repeat apply Exists.intro); (repeat apply Exists.intro); refine ⟨?_, rfl⟩; exact ⟨j + 1, q + 1, A6, c6, hjn, by go_num, rfl, hq2.out, by rw [hnx.out]; exact hown6, (hbw2 nq).trans hb6⟩)
                      · have hyx : ¬ y.idx < x.idx := by omega
                        have hq2 := Lib.hid (show q = min (j + 1) k ∧ min (j + 1) k = min j k by omega)
                        clear hz hy hyi hown2 hbw2 hq
                        go_wp2_with fail
                        go_quiet (fail)
                        go_wp2_with fail
                        refine ⟨?_, by simp [intOf]; exact hmeas'.out⟩; first | (show ∃ j' : Nat, _; exact ⟨j + 1, q, A', c', hjn, by go_num, rfl, hq2.out.1, by rw [hq2.out.2]; exact hown, below_drewN hbw _⟩) | ((repeat apply Exists.intro); (repeat apply Exists.intro); (repeat apply Exists.intro); (repeat apply Exists.intro); refine ⟨?_, rfl⟩; exact ⟨j + 1, q, A', c', hjn, by go_num, rfl, hq2.out.1, by rw [hq2.out.2]; exact hown, below_drewN hbw _⟩)
                    · obtain rfl : j = n := by omega
                      have hqk : q = k := by omega
                      rw [Nat.min_eq_right hkn, hqk] at hown
                      have hrow : RdE wr2 (some (ad2.add (i * 6))) (m - i) (ys.drop i) := by
                        have := Rds.cut (size := 6) (hr.below hbw) (k := i) hi hmc
                        rw [if_neg hic, ← flat_drop enC_len] at this
                        exact this
                      have hone := fun z hz => hd.one z (List.mem_of_mem_drop (i := i) hz)
                      have hnm : k + (m - i) ≤ 1000000000 := by omega
                      have hg7 := h'.b.lt
                      subst hqk
                      clear q0 q1 hq hj hjn
                      have hk7 := h'.b
                      clear h'
                      have hA2g : ad2.block ≠ g := hA2 _ ⟨ad2, rfl, rfl⟩
                      go_wp2_with (at_builtin; refine wpList_append_es rfl (.tmp 136) (.tmp 139) rfl w.heap.size rfl hown rfl hrow hone hnm hbw.size ?_; intro A7 c7 w7 hown7 hfr7 hb7 hrow7; obtain ⟨hk8, z7, hP⟩ := rtake_tail h hbw hb7 hown7 hd hM.out hinv.out hS c0x hA2g; have f7 := hk8.free 2; have g7 := hk8.cell 2; replace hP := Lib.hid hP; simp only [List.getElem?_toArray, List.getElem?_cons_zero, List.getElem?_cons_succ] at g7; clear hown7 hfr7 hb7 hrow7)
                      go_ret2
                      exact ⟨by rw [he.out]; rfl, by rw [he.out]; exact hP.out⟩
            · obtain rfl : i = m := by omega
              have he := Lib.hid (hNone.out (Hfd.out.trans (by rw [List.drop_eq_nil_of_le (by rw [List.length_map, hyl.out]; exact Nat.le_refl _)]; rfl)))
              go_wp2_with fail
              go_ret2
              exact ⟨by rw [he.out]; rfl, by rw [he.out]; exact PostR.same h hb⟩
    · have he := Lib.hid (hno.out (by rw [hv]; rintro ⟨h0, _⟩; injection h0 with h0; exact i2 h0))
      have i3 : (v1 == tm) = false := beq_eq_false_iff_ne.2 i2
      have i4 : (v1 != tm) = true := by rw [bne, i3]; rfl
      subst i1
      have hv := Lib.hid hv
      clear hno
      go_enter Try.func51, Try.ntmps51
      go_wp2_with fail
      refine hterm.mono ?_
      rintro e w1 ⟨rfl, rfl⟩
      go_wp2_with fail
      go_ret2
      exact ⟨by rw [he.out]; rfl, by rw [he.out]; exact PostR.same h (Below.refl _ _)⟩
  · have he := Lib.hid (hno.out (by rw [hv]; rintro ⟨h0, _⟩; injection h0 with h1 h2; exact i1 h2))
    have i3 : (v2 == 0) = false := beq_eq_false_iff_ne.2 i1
    have i4 : (v2 != 0) = true := by rw [bne, i3]; rfl
    have hv := Lib.hid hv
    clear hno
    go_enter Try.func51, Try.ntmps51
    go_wp2_with fail
    refine hterm.mono ?_
    rintro e w1 ⟨rfl, rfl⟩
    go_wp2_with fail
    go_ret2
    exact ⟨by rw [he.out]; rfl, by rw [he.out]; exact PostR.same h (Below.refl _ _)⟩
end
end Go.Proofs.Ytojmkbhihnnmaaa
