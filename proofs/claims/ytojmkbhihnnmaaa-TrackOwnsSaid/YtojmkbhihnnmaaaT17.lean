/-
  The track: Drop.
-/
import Derived.Test.YtojmkbhihnnmaaaT16
namespace Go.Proofs.Ytojmkbhihnnmaaa
open Go.RowKit

section
variable {B : Nat} {S : Nat → Prop} {w w' : World} {g n c : Nat} {t : Trk} {A : Option Addr} {zs : List (Value × En)}
theorem blk_apart {w : World} {g j : Nat} {T T' : TypeId} {cs ds : Array Value} {fz : Nat × Nat} (h : Blk w g T cs) (h' : w.heap[j]? = some (.cells ds T' fz)) (ht : T ≠ T') : j ≠ g := fun e => by
  unfold Blk at h
  rw [e, h] at h'
  injection h' with h'
  injection h' with _ h'
  exact ht h'
theorem TrkIn.setAll {S7 : Nat → Prop} {w7 : World} {A7 : Option Addr} {n7 c7 : Nat} {zs7 : List (Value × En)} {L7 : List En} {i tm : Int} (hg : B ≤ g) (hk : Blk w7 g 93 #[.int .i64 t.index, .int .i64 t.term, .slice A n c])
    (ho : w7.ownsRow B 65 6 (.slice A7 n7 c7) n7 (zs7.flatMap enC)) (hd : DeepE S7 w7 zs7) (hl : zs7.map (·.2) = L7) (hi : Trk.Inv ⟨i, tm, L7⟩) (hs : ∀ j, S7 j → TyIn TD w7 j) :
    TrkIn B S7 (((w7.setCell ⟨g, 2, none⟩ (.slice A7 n7 c7)).setCell ⟨g, 0, none⟩ (.int .i64 i)).setCell ⟨g, 1, none⟩ (.int .i64 tm)) g ⟨i, tm, L7⟩ A7 n7 c7 zs7 := by
  have k2 := hk.set_ 2 (.slice A7 n7 c7)
  have k0 := k2.set_ 0 (.int .i64 i)
  have k1 := k0.set_ 1 (.int .i64 tm)
  have hT : TStay TD w7 (((w7.setCell ⟨g, 2, none⟩ (.slice A7 n7 c7)).setCell ⟨g, 0, none⟩ (.int .i64 i)).setCell ⟨g, 1, none⟩ (.int .i64 tm)) := ((TStay.set hk (by decide)).trans (TStay.set k2 (by decide))).trans (TStay.set k0 (by decide))
  have hF : Fr (fun j => j = g) w7 (((w7.setCell ⟨g, 2, none⟩ (.slice A7 n7 c7)).setCell ⟨g, 0, none⟩ (.int .i64 i)).setCell ⟨g, 1, none⟩ (.int .i64 tm)) := ((Fr.set g 2 _).trans (Fr.set g 0 _) fun _ h => .inl h).trans (Fr.set g 1 _) fun _ h => .inl h
  exact
  { b := by simpa using k1
    o := own_keep ho fun j hj hl => hF.block j hl fun e => by
      obtain ⟨_, _, cs, h⟩ := own_row_blk ho A7 c7 rfl j hj
      exact blk_apart hk h (by decide) e
    d := hd.keep fun j hj hl => hT j (hs j hj)
    l := hl
    i := hi
    g := hg
    s := fun j hj => (hs j hj).move hT }
set_option maxRecDepth 100000 in
theorem tdrop_any (i : Int) (h : TrkIn B S w g t A n c zs) (hn : n ≤ 1000000) (hB : B ≤ w.heap.size) : Calls Try.prog 49 #[.pointer (some ⟨g, 0, none⟩), .int .i64 i] w fun e w' => e = .returned (.int .i64 (t.dropF i).1) ∧ PostT B S w g A (t.dropF i).2 w'.heap.size w' := by
  have hterm := tterm_below i h hn
  have hinv := h.i.dropF i
  obtain ⟨v1, hv1⟩ : ∃ v, (t.termF i).1 = v := ⟨_, rfl⟩
  rcases termF_code t i with h2 | h2 | h2
  · have he := Lib.hid (show t.dropF i = (0, t) by unfold Trk.dropF; rw [h2]; rfl)
    rw [h2, hv1] at hterm
    clear hinv hv1 h2
    go_enter Try.func49, Try.ntmps49
    go_wp2_with fail
    refine hterm.mono ?_
    rintro e w1 ⟨rfl, hb1⟩
    go_wp2_with fail
    go_ret
    exact ⟨by rw [he.out]; rfl, by rw [he.out]; exact PostT.same h hb1⟩
  · have he := Lib.hid (show t.dropF i = (33, t) by unfold Trk.dropF; rw [h2]; rfl)
    rw [h2, hv1] at hterm
    clear hinv hv1 h2
    go_enter Try.func49, Try.ntmps49
    go_wp2_with fail
    refine hterm.mono ?_
    rintro e w1 ⟨rfl, hb1⟩
    go_wp2_with fail
    go_ret
    exact ⟨by rw [he.out]; rfl, by rw [he.out]; exact PostT.same h hb1⟩
  · obtain ⟨h5, h6, _⟩ := termF_in (t := t) (i := i) (term := (t.termF i).1) (by rw [← h2])
    rw [← h.len.1] at h6
    have hb := h.i.b
    obtain ⟨k, hk⟩ : ∃ k : Nat, i - t.index = k := ⟨(i - t.index).toNat, by omega⟩
    have he0 : t.dropF i = (0, ⟨i, v1, t.L.drop k⟩) := by
      unfold Trk.dropF
      rw [h2, hv1, hk]; rfl
    rw [he0] at hinv
    have he := Lib.hid he0
    rw [h2, hv1] at hterm
    have hkn : k ≤ n := by omega
    clear hv1 h2 he0
    go_enter Try.func49, Try.ntmps49
    go_wp2_with fail
    refine hterm.mono ?_
    rintro e w1 ⟨rfl, hb1⟩
    have h1 := h.below hb1
    obtain ⟨hnc, hcm⟩ := own_bounds h1.o
    obtain ⟨q0, q1, q2⟩ := h1.cells
    have k0 := keep_cell (gs := [g]) q0 (by simp)
    have k2 := keep_cell (gs := [g]) q2 (by simp)
    have hrow := Rds.cut (size := 6) h1.rd (k := k) hkn hnc
    rw [← flat_drop enC_len] at hrow
    have hkc : k ≤ c := by omega
    have hgl := h1.b.lt
    have hnk : n - k ≤ 1000000000 := by omega
    have hB1 : B ≤ w1.heap.size := by have := hb1.size; omega
    have hdeep : DeepE S w1 (zs.drop k) := h1.d.sub fun y hy => List.mem_of_mem_drop hy
    have hk := Lib.hid hk
    unfold maxLen at hcm
    have hone := hdeep.one
    by_cases hck : c = k
    all_goals
      have hk := hk.out
      simp only [hck, if_true, if_false] at hrow
      go_wp2_with fail
      refine wp_region_mixE (C := keepW [g] w1) [([0, 1, 2, 3, 4, 5, 6, 7, 8, 9, 10, 11], 12)] ([13, 14], 15) (by kernel_rfl) (by kernel_rfl) (fun _ _ _ _ e h => ⟨e.symm.trans h.1, h.2⟩) keepW_refl ?_
      refine wpSegsE_step fun K1 hK1 => ?_
      simp only [pickL, List.getElem?_cons_zero, List.getElem?_cons_succ]
      repeat (go_big_quiet_step (fail))
      refine wpQuiet_nil ?_
      have hown1 : w1.drew.ownsRow w1.heap.size 65 6 (.slice none 0 0) 0 (([] : List (Value × En)).flatMap enC) := own_nil _ _
      go_wp2_with (at_builtin; refine wpList_append_es rfl (.const (.slice none 0 0)) (.tmp 30) rfl w1.heap.size rfl hown1 rfl (ys := zs.drop k) hrow hone (by omega) (Nat.le_refl _) ?_; intro A7 c7 w7 hown7 hfr7 hb7 hrow7)
      simp only [Nat.zero_add, List.nil_append] at hown7 ⊢
      have hb17 : Below w1.heap.size w1 w7 := (below_drewN (Below.refl w1.heap.size w1) 1).trans hb7
      have hk7 := h1.b.kept hb17
      refine ⟨keepW_below (by simp; exact hgl) hb17, hK1 _ _ ?_⟩
      have hst := TStay.below (L := TD) hb17
      have h10 := TrkIn.setAll (t := t) (i := i) (tm := v1) h1.g hk7 (own_mono hown7 hB1) (hdeep.keep fun j hj hl => hb17.block j hl) (by rw [List.map_drop, h1.l]) hinv (fun j hj => (h1.s j hj).move hst)
      have hF : Fr (fun j => j = g ∨ rowOf A j) w (((w7.setCell ⟨g, 2, none⟩ (.slice A7 (n - k) c7)).setCell ⟨g, 0, none⟩ (.int .i64 i)).setCell ⟨g, 1, none⟩ (.int .i64 v1)) :=
        (Fr.of_below (below_then hb1 hb17 (Nat.le_refl _))).trans (((Fr.set g 2 _).trans (Fr.set g 0 _) fun _ h => .inl h).trans (Fr.set g 1 _) fun _ h => .inl h) fun j hj => .inl (.inl hj)
      have hr7 : ∀ j, rowOf A7 j → rowOf A j ∨ w.heap.size ≤ j := fun j hj => .inr (by have := (own_row_blk hown7 A7 c7 rfl j hj).2.1; have := hb1.size; omega)
      have hP := Lib.hid (show PostT B S w g A ⟨i, v1, t.L.drop k⟩ _ _ from ⟨A7, n - k, c7, _, S, h10, fun _ h => .inl h, hr7, Nat.le_refl _, hF⟩)
      have d0 := hk7.cell 0
      have d1 := hk7.cell 1
      have d2 := hk7.cell 2
      have f0 := hk7.free 0
      have f1 := hk7.free 1
      have f2 := hk7.free 2
      simp only [List.getElem?_toArray, List.getElem?_cons_zero, List.getElem?_cons_succ] at d0 d1 d2
      clear h10 hF hr7 hown7 hfr7 hb7 hrow7
      refine wpSegsE_last ?_
      simp only [pickL, List.getElem?_cons_zero, List.getElem?_cons_succ]
      repeat (go_big_quiet_step (fail))
      refine wpQuiet_nil ?_
      go_wp2_with fail
      go_ret
      exact ⟨by rw [he.out]; rfl, by rw [he.out]; exact hP.out⟩
end
end Go.Proofs.Ytojmkbhihnnmaaa
