/-
  The laws of the schema: their walks (Owns).
-/
import Derived.Test.YtojmkbhihnnmaaaSch18
namespace Go.Proofs.Ytojmkbhihnnmaaa
open Go.RowKit Go.Maps

theorem fewF_idem (S : Sch) : fewF (fewF S) = fewF S := by
  unfold fewF
  simp only [Sch.mk.injEq]
  refine ⟨?_, ?_, ?_⟩
  · rw [← List.map_take, List.map_map, List.take_take]
    simp only [Nat.min_self]
    apply List.map_congr_left
    intro d _
    simp [fewD, List.take_take]
  · rw [List.take_take]; simp
  · rw [← List.map_take, List.map_map, List.take_take]
    simp only [Nat.min_self]
    apply List.map_congr_left
    intro v _
    simp [List.take_take]
theorem own_set_any {w : World} {base : Nat} {e : TypeId} {v : Value} {n : Nat} {ys : List Value} (h : w.ownsRow base e 1 v n ys) (g k : Nat) (u : Value) : ∃ ys', (w.setCell ⟨g, k, none⟩ u).ownsRow base e 1 v n ys' := by
  rcases h.2 with ⟨rfl, rfl⟩ | ⟨g', cap, cur, rfl, hb, hg, hnc, hcm, hcs, htake⟩
  · exact ⟨[], by simp, .inl ⟨rfl, rfl⟩⟩
  · by_cases e : g' = g
    · subst e
      refine ⟨((cur.setIfInBounds k u).toList.take (n * 1)), ?_, .inr ⟨g', cap, cur.setIfInBounds k u, rfl, hb, heap_setCell_same w g' k cur _ u hg, hnc, hcm, by simpa using hcs, rfl⟩⟩
      rw [List.length_take, Array.length_toList]; simp; omega
    · exact ⟨ys, h.1, .inr ⟨g', cap, cur, rfl, hb, (heap_setCell_other w ⟨g, k, none⟩ g' u e).trans hg, hnc, hcm, hcs, htake⟩⟩
/-- rows of rows of the call's own, whatever they hold -/
def ShX (w : World) (base : Nat) (A : Option Addr) (n c : Nat) (xs : List Value) : Prop :=
  w.ownsRow base 30 1 (.slice A n c) n xs ∧ ∀ (i : Nat) u, xs[i]? = some u → ∃ B m d ys, u = .slice B m d ∧ w.ownsRow base 3 1 (.slice B m d) m ys
theorem OwnV.sh {w : World} {base : Nat} {A : Option Addr} {n c : Nat} {L : List (List Int)} (h : OwnV w base base A n c L) : ∃ xs, ShX w base A n c xs := by
  obtain ⟨xs, hL, hrow, hin⟩ := h
  refine ⟨xs, hrow, fun i u hi => ?_⟩
  have hxl : xs.length = n := by have := hrow.1; omega
  have hi' : i < n := by rw [← hxl]; exact (List.getElem?_eq_some_iff.1 hi).1
  obtain ⟨B, m, d, e, ho⟩ := hin i L[i] (List.getElem?_eq_getElem (by omega))
  exact ⟨B, m, d, _, Option.some.inj (hi.symm.trans e), ho⟩
theorem ShX.set {w : World} {base : Nat} {A : Option Addr} {n c : Nat} {xs : List Value} (h : ShX w base A n c xs) {g m d : Nat} {ys : List Value} (hin : w.ownsRow base 3 1 (.slice (some ⟨g, 0, none⟩) m d) m ys) (k : Nat) (u : Value) : ShX (w.setCell ⟨g, k, none⟩ u) base A n c xs := by
  obtain ⟨hrow, hall⟩ := h
  have hg := (hin.stored k u).2
  refine ⟨own_grownT (by decide) hin hrow hg, fun i x hi => ?_⟩
  obtain ⟨B, m', d', ys', rfl, ho⟩ := hall i x hi
  obtain ⟨ys2, ho2⟩ := own_set_any ho g k u
  exact ⟨B, m', d', ys2, rfl, ho2⟩
theorem ShX.at_ {w : World} {base : Nat} {A : Option Addr} {n c : Nat} {xs : List Value} (h : ShX w base A n c xs) {i : Nat} (hi : i < n) : ∃ g B m d ys, A = some ⟨g, 0, none⟩ ∧ xs[i]? = some (.slice B m d) ∧ w.cell? ⟨g, i, none⟩ = some (.slice B m d) ∧ w.ownsRow base 3 1 (.slice B m d) m ys := by
  obtain ⟨hrow, hall⟩ := h
  have hxl : xs.length = n := by have := hrow.1; omega
  obtain ⟨g, cap, hv, _, _⟩ := hrow.form (by omega)
  injection hv with hA _ hc
  subst hA; subst hc
  obtain ⟨B, m, d, ys, e, ho⟩ := hall i xs[i] (List.getElem?_eq_getElem (by omega))
  exact ⟨g, B, m, d, ys, rfl, by rw [List.getElem?_eq_getElem (by omega), e], by rw [hrow.cellAt i (by omega), List.getElem?_eq_getElem (by omega), e], ho⟩

/-- a view that reads in an old world, or lies in a row of the call's own -/
def InOk (w4 wr : World) (b : Nat) (xs : List Value) (L : List (List Int)) : Prop :=
  xs.length = L.length ∧ ∀ (i : Nat) v, L[i]? = some v → ∃ B m c, xs[i]? = some (Value.slice B m c) ∧ (RdI w4 B m v ∨ wr.ownsRow b 3 1 (.slice B m c) m (v.map vi)) ∧ m ≤ c ∧ c ≤ maxLen
theorem InOk.reads {w4 wr : World} {b base n c : Nat} {xs : List Value} {L : List (List Int)} {A : Option Addr} (h : InOk w4 wr b xs L) (hb : Below w4.heap.size w4 wr) (ho : wr.ownsRow base 30 1 (.slice A n c) n xs) (hn : L.length = n) : RdV wr A n L := by
  refine ⟨hn, fun i d hi => ?_⟩
  obtain ⟨B, m, d', hy, h2, h3, h4⟩ := h.2 i d hi
  have hi' : i < n := by rw [← hn]; exact (List.getElem?_eq_some_iff.1 hi).1
  have hx := Rds.of_own ho
  obtain ⟨ad, eA, hc⟩ := hx.2 (by omega)
  refine ⟨ad, B, m, d', eA, hc i _ hy, ?_, h3, h4⟩
  rcases h2 with h2 | h2
  · exact h2.below hb
  · exact RdI.of_own h2
theorem InOk.later {w4 wr w' : World} {b : Nat} {xs : List Value} {L : List (List Int)} (h : InOk w4 wr b xs L) (hb : Below wr.heap.size wr w') : InOk w4 w' b xs L :=
  ⟨h.1, fun i d hi => by
    obtain ⟨B, m, d', hy, h2, h3⟩ := h.2 i d hi
    exact ⟨B, m, d', hy, h2.imp id (fun h => own_below h hb), h3⟩⟩
theorem InOk.set {w4 wr : World} {b base n c gV : Nat} {xs : List Value} {L : List (List Int)} (h : InOk w4 wr b xs L) (ho : wr.ownsRow base 30 1 (.slice (some ⟨gV, 0, none⟩) n c) n xs) {i : Nat} {v : List Int} (hv : L[i]? = some v)
    {B : Option Addr} {m d : Nat} (hn : wr.ownsRow b 3 1 (.slice B m d) m (v.map vi)) : InOk w4 (wr.setCell ⟨gV, i, none⟩ (.slice B m d)) b (xs.set i (.slice B m d)) L := by
  have hg := (ho.stored i (.slice B m d)).2
  refine ⟨by rw [List.length_set]; exact h.1, fun j x hx => ?_⟩
  by_cases hij : i = j
  · subst hij
    obtain rfl : v = x := Option.some.inj (hv.symm.trans hx)
    exact ⟨B, m, d, by rw [List.getElem?_set, if_pos rfl, if_pos (by rw [h.1]; exact (List.getElem?_eq_some_iff.1 hx).1)], .inr (own_grownT (by decide) ho hn hg), (own_bounds hn).1, (own_bounds hn).2⟩
  · obtain ⟨B', m', d', hy, h2, h3⟩ := h.2 j x hx
    exact ⟨B', m', d', by rw [List.getElem?_set, if_neg hij]; exact hy, h2.imp id (fun h => own_grownT (by decide) ho h hg), h3⟩
set_option maxHeartbeats 2000000 in
theorem schemaOwns_any (A1 A2 A3 B : Option Addr) (n1 n2 n3 c1 c2 c3 m c : Nat) (S : Sch) (l : List Int) (w : World) (hr : RdSch w A1 A2 A3 n1 n2 n3 c1 c2 c3 S) (hl : RdI w B m l) (hln : m ≤ c) (hlm : c ≤ maxLen) :
    Calls Try.prog 9 #[.agg #[.slice A1 n1 c1, .slice A2 n2 c2, .slice A3 n3 c3], .slice B m c] w fun e w' => e = .returned (.bool true) ∧ Below w.heap.size w w' := by
  have l8 : ∀ n : Nat, n ≤ 13 → n ≤ maxLen := fun n h => maxLen_big h (by omega)
  have hbA : Below w.heap.size w (w.alloc (.cells #[.slice A1 n1 c1, .slice A2 n2 c2, .slice A3 n3 c3] 26)) := (Below.refl _ _).alloc (Nat.le_refl _) _
  have hbl := Blk.new w 26 #[.slice A1 n1 c1, .slice A2 n2 c2, .slice A3 n3 c3]
  have hz : (w.alloc (.cells #[.slice A1 n1 c1, .slice A2 n2 c2, .slice A3 n3 c3] 26)).heap.size = w.heap.size + 1 := by simp
  have hsm := fewF_Sm S
  have Hid0 := Lib.hid (fewF_idem S)
  obtain ⟨hs8, _, _, hs12, hsv8⟩ := fewF_sm S
  go_enter Try.func9, Try.ntmps9
  go_wp2_with fail
  generalize w.alloc (.cells #[.slice A1 n1 c1, .slice A2 n2 c2, .slice A3 n3 c3] 26) = w1 at *
  refine (few8_any _ _ _ _ _ _ _ _ _ S w _ hbA hr).mono ?_
  rintro e w2 ⟨B1, d1, B2, d2, B3, d3, ys, xs, rfl, ho1, hk1, ho2, ho3, hk3, hb2⟩
  generalize fewF S = T at *
  have hbl2 := hbl.kept hb2
  have h0 := hbl2.cell 0
  have h1 := hbl2.cell 1
  have h2 := hbl2.cell 2
  have f0 := hbl2.free 0
  have f1 := hbl2.free 1
  have f2 := hbl2.free 2
  simp only [List.getElem?_toArray, List.getElem?_cons_zero, List.getElem?_cons_succ] at h0 h1 h2
  have hin : FewIn w (((w2.setCell ⟨w.heap.size, 0, none⟩ (.slice B1 T.dims.length d1)).setCell ⟨w.heap.size, 1, none⟩ (.slice B2 T.measures.length d2)).setCell ⟨w.heap.size, 2, none⟩ (.slice B3 T.views.length d3)) w.heap.size w1.heap.size T B1 B2 B3 d1 d2 d3 ys xs := by
    have hlt : w.heap.size < w1.heap.size := by omega
    exact ⟨((hbl2.set_ 0 _).set_ 1 _).set_ 2 _, own_set_far (own_set_far (own_set_far ho1 hlt _) hlt _) hlt _, hk1, own_set_far (own_set_far (own_set_far ho2 hlt _) hlt _) hlt _, own_set_far (own_set_far (own_set_far ho3 hlt _) hlt _) hlt _, hk3,
      (((below_then hbA hb2 (Nat.le_refl _)).setCell (Nat.le_refl _) _).setCell (Nat.le_refl _) _).setCell (Nat.le_refl _) _⟩
  go_wp2_with fail
  generalize (((w2.setCell ⟨w.heap.size, 0, none⟩ (.slice B1 T.dims.length d1)).setCell ⟨w.heap.size, 1, none⟩ (.slice B2 T.measures.length d2)).setCell ⟨w.heap.size, 2, none⟩ (.slice B3 T.views.length d3)) = w4 at *
  clear h0 h1 h2 f0 f1 f2 hbl2 ho1 ho2 ho3 hb2 hbl
  refine (cut_any _ _ _ l _ (hl.below hin.l) hln hlm).mono ?_
  rintro e w' ⟨⟨m', rfl, hm8, _, hv⟩, rfl⟩
  have hr4 := hin.reads
  generalize l.take 8 = v at *
  have h0 := hin.b.cell 0
  have h1 := hin.b.cell 1
  have h2 := hin.b.cell 2
  simp only [List.getElem?_toArray, List.getElem?_cons_zero, List.getElem?_cons_succ] at h0 h1 h2
  go_wp2_with fail
  refine (few8_any _ _ _ _ _ _ _ _ _ T w4 _ (Below.refl _ _) hr4).mono ?_
  rintro e w5 ⟨C1, e1, C2, e2, C3, e3, ys5, xs5, rfl, ho1, hk1, ho2, ho3, hk5, hb5⟩
  rw [Hid0.out] at ho1 hk1 ho2 ho3 hk5 ⊢
  have hb6 := (Below.refl w5.heap.size w5).alloc (Nat.le_refl _) (.cells #[.slice C1 T.dims.length e1, .slice C2 T.measures.length e2, .slice C3 T.views.length e3] 26)
  have hbl5 := Blk.new w5 26 #[.slice C1 T.dims.length e1, .slice C2 T.measures.length e2, .slice C3 T.views.length e3]
  have hb46 := below_then hb5 hb6 (Nat.le_refl _)
  have ho6 := own_below ho3 hb6
  have hin6 : InOk w4 (w5.alloc (.cells #[.slice C1 T.dims.length e1, .slice C2 T.measures.length e2, .slice C3 T.views.length e3] 26)) w4.heap.size xs5 T.views :=
    ⟨hk5.1, fun i x hx => by
      obtain ⟨B, m, c, e, hr, h1, h2⟩ := hk5.2 i x hx
      exact ⟨B, m, c, e, .inl hr, h1, h2⟩⟩
  clear ho1 hk1 ho2 ho3 hk5
  go_wp2_with fail
  generalize hw6 : w5.alloc (.cells #[.slice C1 T.dims.length e1, .slice C2 T.measures.length e2, .slice C3 T.views.length e3] 26) = w6 at *
  clear hw6
  have hNb : T.views.length ≤ 12 := hs12
  have Hsv := Lib.hid hsv8
  clear hsv8
  go_loopw [6, 7] (fun i _ wr => ∃ (k : Nat) (xs : List Value), k ≤ T.views.length ∧ i = .int .i64 k ∧ Blk wr w5.heap.size 26 #[.slice C1 T.dims.length e1, .slice C2 T.measures.length e2, .slice C3 T.views.length e3] ∧ wr.ownsRow w4.heap.size 30 1 (.slice C3 T.views.length e3) T.views.length xs ∧ InOk w4 wr w4.heap.size xs T.views ∧ Below w4.heap.size w4 wr) (fun i _ _ => T.views.length - (intOf i).toNat)
  case atStart => exact ⟨0, xs5, Nat.zero_le _, rfl, hbl5, ho6, hin6, hb46⟩
  case round =>
    obtain ⟨k, xsr, hk, rfl, hbl, hor, hir, hbr⟩ := hrel
    have q2 := hbl.cell 2
    simp only [List.getElem?_toArray, List.getElem?_cons_zero, List.getElem?_cons_succ] at q2
    by_cases hlt : k < T.views.length
    · have hvk : T.views[k]? = some T.views[k] := List.getElem?_eq_getElem hlt
      generalize T.views[k] = x at *
      obtain ⟨Bk, mk, ck, hxk, hrk, hmk, hck⟩ := hir.2 k x hvk
      have hrr : RdI wr Bk mk x := by
        rcases hrk with h | h
        · exact h.below hbr
        · exact RdI.of_own h
      have hm8' := Hsv.out x (List.mem_of_getElem? hvk)
      rw [hrr.len] at hm8'
      obtain ⟨gV, cap, hv', hgV, _⟩ := hor.form (by omega)
      injection hv' with hC _ hcap
      subst hC; subst hcap
      have hcell : wr.cell? ⟨gV, k, none⟩ = some (.slice Bk mk ck) := (hor.cellAt k (by have := hor.1; omega)).trans hxk
      have hbd := own_bounds hor
      unfold maxLen at hbd
      have Hvk := Lib.hid hvk
      have Hxk := Lib.hid hxk
      clear hvk hxk hrk
      have hown0 : wr.ownsRow wr.heap.size 3 1 (.slice none 0 0) 0 (([] : List Int).map vi) := own_nil _ _
      go_wp2_with (first
        | (at_builtin; refine wpList_append_is rfl (.tmp 30) (.tmp 35) rfl wr.heap.size rfl hown0 rfl hrr (by omega) (Nat.le_refl _) ?_
           intro A3' c3' w3' hown3 _ hb3
           simp only [Nat.zero_add, List.nil_append] at hown3
           have hbl3 := hbl.kept hb3
           have q3 := hbl3.cell 2
           simp only [List.getElem?_toArray, List.getElem?_cons_zero, List.getElem?_cons_succ] at q3
           have hor3 := own_below hor hb3
           have hcell3 := (hb3.cell (lt_of_cell hcell)).trans hcell
           have hfree3 := hor3.frozenAt (g := gV) k
           have hnext := (hir.later hb3).set hor3 Hvk.out (own_mono hown3 hbr.size)
           have hgr := hor3.stored k (.slice A3' mk c3')
           have hnb : Below w4.heap.size w4 (w3'.setCell ⟨gV, k, none⟩ (.slice A3' mk c3')) := (below_then hbr hb3 (Nat.le_refl _)).setCell (by show w4.heap.size ≤ gV; exact hgV) _
           have hbln := hbl3.grownT (by decide) hor3 hgr.2)
        | fail)
      go_roundw
      case rel => exact ⟨k + 1, _, by omega, by go_num, hbln, hgr.1, hnext, hnb⟩
      case measure => simp [intOf]; omega
    · obtain rfl : k = T.views.length := by omega
      rename World => wA
      have hRV := hir.reads hbr hor rfl
      have hinA := hin.later hbr
      have a0 := hinA.b.cell 0
      have a1 := hinA.b.cell 1
      have a2 := hinA.b.cell 2
      simp only [List.getElem?_toArray, List.getElem?_cons_zero, List.getElem?_cons_succ] at a0 a1 a2
      have hbd3 := own_bounds hor
      unfold maxLen at hbd3
      clear hor hir h0 h1 h2 ho6 hin6
      go_wp2_with fail
      refine (views_any _ _ _ _ _ _ _ _ _ T _ hinA.reads hsm.d hsm.v hsm.x).mono ?_
      rintro e w7 ⟨A7, e7, rfl, hov, hb7⟩
      obtain ⟨xs7, hsh⟩ := hov.sh
      have hbd7 := own_bounds hsh.1
      unfold maxLen at hbd7
      clear hov a0 a1 a2
      go_wp2_with fail
      go_loopw [9] (fun i wr => ∃ k : Nat, k ≤ T.views.length + 1 ∧ i = .int .i64 k ∧ ShX wr wA.heap.size A7 (T.views.length + 1) e7 xs7 ∧ Below wA.heap.size wA wr) (fun i _ => T.views.length + 1 - (intOf i).toNat)
      case atStart => exact ⟨0, Nat.zero_le _, rfl, hsh, hb7⟩
      case round =>
        obtain ⟨k, hk, rfl, hshr, hbAr⟩ := hrel
        by_cases hlt : k < T.views.length + 1
        · obtain ⟨gA, Bk, mk, dk, yk, rfl, hxk, hck, hok⟩ := hshr.at_ hlt
          have Hxk := Lib.hid hxk
          have hbdk := own_bounds hok
          unfold maxLen at hbdk
          clear hxk hok
          go_wp2_with fail
          go_loopw [10] (fun i wr => ∃ e : Nat, e ≤ mk ∧ i = .int .i64 e ∧ ShX wr wA.heap.size (some ⟨gA, 0, none⟩) (T.views.length + 1) e7 xs7 ∧ Below wA.heap.size wA wr) (fun i _ => mk - (intOf i).toNat)
          case atStart => exact ⟨0, Nat.zero_le _, rfl, hshr, hbAr⟩
          case round =>
            obtain ⟨e, he, rfl, hshr, hbAr⟩ := hrel
            obtain ⟨gA', Bk', mk', dk', yk', e1', hxk', hck', hok'⟩ := hshr.at_ hlt
            obtain rfl : gA = gA' := by injection e1' with e1'; injection e1'
            have e2' := Option.some.inj (hxk'.symm.trans Hxk.out)
            injection e2' with e3 e4 e5
            subst e3; subst e4; subst e5
            clear hxk' e1' hck
            by_cases hle : e < mk'
            · obtain ⟨gI, cap, hv', hgI, _⟩ := hok'.form (by omega)
              injection hv' with hC _ hcap
              subst hC; subst hcap
              have hyl : yk'.length = mk' := by have := hok'.1; omega
              have hci : wr.cell? ⟨gI, e, none⟩ = some (yk'[e]'(by omega)) := (hok'.cellAt e (by omega)).trans (List.getElem?_eq_getElem (by omega))
              have hfi := hok'.frozenAt (g := gI) e
              have hshn := hshr.set hok' e (.int .i64 77)
              have hbn : Below wA.heap.size wA (wr.setCell ⟨gI, e, none⟩ (.int .i64 77)) := hbAr.setCell hgI _
              generalize yk'[e]'(by omega) = ye at *
              clear hyl
              go_wp2_with fail
              go_roundw
              case rel => exact ⟨e + 1, by omega, by go_num, hshn, hbn⟩
              case measure => simp [intOf]; omega
            · obtain rfl : e = mk' := by omega
              go_wp2_with fail
              go_roundw
              case rel => exact ⟨k + 1, by omega, by go_num, hshr, hbAr⟩
              case measure => simp [intOf]; omega
        · obtain rfl : k = T.views.length + 1 := by omega
          clear hshr hsh
          have hRV7 := hRV.below hbAr
          have hin7 := hinA.later hbAr
          have hbl7 := hbl.kept hbAr
          have hv7 := hv.below (below_then hbr hbAr (Nat.le_refl _))
          have hend : ∀ w', Below wr.heap.size wr w' → Below w.heap.size w w' := fun w' hb => below_then hin7.l hb (Nat.le_refl _)
          have Hjl := Lib.hid (joinF_length (u := v) (v := v) rfl)
          have Hvl := Lib.hid hv7.len
          have Hjj := Lib.hid (show joinF v v = v by
            rw [joinF_eq rfl]
            refine List.ext_getElem? fun i => ?_
            rw [List.getElem?_zipWith]
            cases v[i]? with
            | none => rfl
            | some x => simp)
          go_wp2_with fail
          refine (join_any _ _ _ _ _ _ v v _ hv7 hv7 (by omega) (by omega)).mono ?_
          rintro e w8 ⟨A8, c8, rfl, ho8, hb8⟩
          rw [Hjj.out, Hvl.out] at ho8
          rw [Hjj.out, Hvl.out]
          have hv8 := hv7.below hb8
          have hown0 : w8.ownsRow w8.heap.size 3 1 (.slice none 0 0) 0 (([] : List Int).map vi) := own_nil _ _
          go_wp2_with (first
            | (at_builtin; refine wpList_append_is rfl (.tmp 68) (.tmp 69) rfl w8.heap.size rfl hown0 rfl hv8 (by omega) (Nat.le_refl _) ?_
               intro A9 c9 w9 ho9 _ hb9
               simp only [Nat.zero_add, List.nil_append] at ho9
               have hb79 := below_then hb8 hb9 (Nat.le_refl _)
               have ho89 := own_below ho8 hb9)
            | fail)
          have hbd9 := own_bounds ho9
          have hbd89 := own_bounds ho89
          unfold maxLen at hbd9 hbd89
          go_loopw [13] (fun i wz => ∃ (e : Nat) (ys : List Value), e ≤ m' ∧ i = .int .i64 e ∧ wz.ownsRow wr.heap.size 3 1 (.slice A8 m' c8) m' ys ∧ wz.ownsRow w8.heap.size 3 1 (.slice A9 m' c9) m' (v.map vi) ∧ Below wr.heap.size wr wz) (fun i _ => m' - (intOf i).toNat)
          case atStart => exact ⟨0, v.map vi, Nat.zero_le _, rfl, ho89, ho9, hb79⟩
          case round =>
            obtain ⟨e, ysj, he, rfl, hoj, hoo, hbz⟩ := hrel
            by_cases hle : e < m'
            · obtain ⟨gI, cap, hv', hgI, hgl⟩ := hoj.form (by omega)
              injection hv' with hC _ hcap
              subst hC; subst hcap
              have hyl : ysj.length = m' := by have := hoj.1; omega
              have hci := (hoj.cellAt e (by omega)).trans (List.getElem?_eq_getElem (by omega))
              have hfi := hoj.frozenAt (g := gI) e
              have hg8 : gI < w8.heap.size := by
                obtain ⟨gI', cap', hv', _, hgl'⟩ := ho8.form (by omega)
                injection hv' with hC' _ _
                injection hC' with hC'
                injection hC' with hC'
                omega
              have hojn := (hoj.stored e (.int .i64 77)).1
              have hoon := own_set_far hoo (p := ⟨gI, e, none⟩) hg8 (.int .i64 77)
              have hbn : Below wA.heap.size wA (wr.setCell ⟨gI, e, none⟩ (.int .i64 77)) → True := fun _ => trivial
              generalize ysj[e]'(by omega) = ye at *
              clear hyl hbn
              go_wp2_with fail
              go_roundw
              case rel => exact ⟨e + 1, _, by omega, by go_num, hojn, hoon, hbz.setCell hgI _⟩
              case measure => simp [intOf]; omega
            · obtain rfl : e = m' := by omega
              rename World => wL
              have hRVL := hRV7.below hbz
              have hinL := hin7.later hbz
              have hblL := hbl7.kept hbz
              have hvL := hv7.below hbz
              have hRO := RdI.of_own hoo
              clear hoj hoo ho8 ho89 ho9
              have q2 := hblL.cell 2
              simp only [List.getElem?_toArray, List.getElem?_cons_zero, List.getElem?_cons_succ] at q2
              go_wp2_with fail
              go_loopw [14] (fun i wz => ∃ k : Nat, k ≤ T.views.length ∧ i = .int .i64 k ∧ Below wL.heap.size wL wz) (fun i _ => T.views.length - (intOf i).toNat)
              case atStart => exact ⟨0, Nat.zero_le _, rfl, Below.refl _ _⟩
              case round =>
                obtain ⟨k, hk, rfl, hbw⟩ := hrel
                have hblr := hblL.kept hbw
                have q2 := hblr.cell 2
                simp only [List.getElem?_toArray, List.getElem?_cons_zero, List.getElem?_cons_succ] at q2
                by_cases hlt2 : k < T.views.length
                · obtain ⟨x, a1, X1, x1, y1, hxk1, e1', hcw1, hx1, hl1, hm1⟩ := hRVL.at_ hlt2
                  obtain ⟨x', a2, X2, x2, y2, hxk2, e2', hcw2, hx2, hl2, hm2⟩ := hinL.reads.v.at_ hlt2
                  obtain rfl : x = x' := Option.some.inj (hxk1.symm.trans hxk2)
                  subst e1'; subst e2'
                  have hinr := hinL.later hbw
                  have hcr1 := (hbw.cell (lt_of_cell hcw1)).trans hcw1
                  have hcr2 := (hbw.cell (lt_of_cell hcw2)).trans hcw2
                  have hcx1 : ∀ x : After wr.heap.size wr, x.1.cell? (a1.add k) = _ := after_cell hcr1 (lt_of_cell hcr1)
                  have hcx2 : ∀ x : After wr.heap.size wr, x.1.cell? (a2.add k) = _ := after_cell hcr2 (lt_of_cell hcr2)
                  have hqx1 : ∀ x : After wr.heap.size wr, x.1.cell? ⟨w5.heap.size, 2, none⟩ = some (.slice (some a1) T.views.length e3) := after_cell q2 (lt_of_cell q2)
                  have hqx2 : ∀ x : After wr.heap.size wr, x.1.cell? ⟨w.heap.size, 2, none⟩ = some (.slice (some a2) T.views.length d3) := after_cell (hinr.b.cell 2) hinr.b.lt
                  have hbd2 := own_bounds hinr.v
                  unfold maxLen at hbd2
                  clear hxk1 hxk2
                  go_wp2_with fail
                  refine wp_region_mix (C := laterW wr.heap.size wr) [([0, 1, 2, 3, 4, 5, 6, 7, 8, 9], 10)] [11] (by kernel_rfl) (by kernel_rfl) (fun _ _ _ _ e h => ⟨e.symm.trans h.1, h.2⟩) (laterW_of (Below.refl _ _).drew) ?_
                  refine wpSegs_step fun K1 hK1 => ?_
                  simp only [pickL, List.getElem?_cons_zero, List.getElem?_cons_succ]
                  repeat (go_big_quiet_step (fail))
                  refine wpQuiet_nil ?_
                  go_wp2_with fail
                  refine (sameI_any _ _ _ _ _ _ x x _ (hx1.below (hbw.drew)) (hx2.below (hbw.drew)) (Nat.le_trans hl1 hm1) (Nat.le_trans hl2 hm2)).mono ?_
                  rintro e w11 ⟨rfl, q11, rfl⟩
                  rw [decide_eq_true rfl]
                  go_wp2_with fail
                  refine ⟨laterW_of (below_drewN (Below.refl wr.heap.size wr) _), hK1 _ _ ?_⟩
                  refine wpSegs_last ?_
                  simp only [pickL, List.getElem?_cons_zero, List.getElem?_cons_succ]
                  repeat (go_big_quiet_step (fail))
                  refine wpQuiet_nil ?_
                  clear hcx1 hcx2 hqx1 hqx2
                  go_wp2_with fail
                  go_roundw
                  case rel => exact ⟨k + 1, by omega, by go_num, below_drewN hbw _⟩
                  case measure => simp [intOf]; omega
                · obtain rfl : k = T.views.length := by omega
                  go_wp2_with fail
                  refine (sameI_any _ _ _ _ _ _ v v _ (hRO.below hbw) (hvL.below hbw) (l8 _ (by omega)) (l8 _ (by omega))).mono ?_
                  rintro e w11 ⟨rfl, q11, rfl⟩
                  rw [decide_eq_true rfl]
                  have hb11 := below_drewN hbw q11
                  generalize World.drewN _ q11 = w11 at *
                  go_wp2_with fail
                  refine (lives8_any _).mono ?_
                  rintro e w12 ⟨rfl, hb12⟩
                  go_wp2
                  go_ret
                  exact ⟨rfl, below_then hinL.l (below_then hb11 hb12 (Nat.le_refl _)) (Nat.le_refl _)⟩
end Go.Proofs.Ytojmkbhihnnmaaa
