/-
  The laws of the schema: their walks (May, Views).
-/
import Derived.Test.YtojmkbhihnnmaaaSch17
namespace Go.Proofs.Ytojmkbhihnnmaaa
open Go.RowKit Go.Maps

/-- the schema that few told, in memory, stored into a block ahead of it -/
structure FewIn (wB wr : World) (g base : Nat) (S : Sch) (A1 A2 A3 : Option Addr) (c1 c2 c3 : Nat) (ys : List DimV) (xs : List Value) : Prop where
  b : Blk wr g 26 #[.slice A1 S.dims.length c1, .slice A2 S.measures.length c2, .slice A3 S.views.length c3]
  d : wr.ownsRow base 42 2 (.slice A1 S.dims.length c1) S.dims.length (dimCells ys)
  dk : DimsOk wB ys S.dims
  m : wr.ownsRow base 9 1 (.slice A2 S.measures.length c2) S.measures.length (S.measures.map vs)
  v : wr.ownsRow base 30 1 (.slice A3 S.views.length c3) S.views.length xs
  vk : ViewsOk wB xs S.views
  l : Below wB.heap.size wB wr
theorem FewIn.later {wB wr w' : World} {g base : Nat} {S : Sch} {A1 A2 A3 : Option Addr} {c1 c2 c3 : Nat} {ys : List DimV} {xs : List Value} (h : FewIn wB wr g base S A1 A2 A3 c1 c2 c3 ys xs) (hb : Below wr.heap.size wr w') : FewIn wB w' g base S A1 A2 A3 c1 c2 c3 ys xs :=
  ⟨h.b.kept hb, own_below h.d hb, h.dk, own_below h.m hb, own_below h.v hb, h.vk, below_then h.l hb (Nat.le_refl _)⟩
theorem FewIn.reads {wB wr : World} {g base : Nat} {S : Sch} {A1 A2 A3 : Option Addr} {c1 c2 c3 : Nat} {ys : List DimV} {xs : List Value} (h : FewIn wB wr g base S A1 A2 A3 c1 c2 c3 ys xs) :
    RdSch wr A1 A2 A3 S.dims.length S.measures.length S.views.length c1 c2 c3 S :=
  ⟨h.dk.reads h.l h.d rfl, Rds.of_own h.m, h.vk.reads h.l h.v rfl, own_bounds h.d, own_bounds h.m, own_bounds h.v⟩

theorem schemaMay_any (A1 A2 A3 : Option Addr) (n1 n2 n3 c1 c2 c3 : Nat) (S : Sch) (w : World) (hr : RdSch w A1 A2 A3 n1 n2 n3 c1 c2 c3 S) :
    Calls Try.prog 3 #[.agg #[.slice A1 n1 c1, .slice A2 n2 c2, .slice A3 n3 c3]] w fun e w' => e = .returned (.bool true) ∧ Below w.heap.size w w' := by
  have hbA : Below w.heap.size w (w.alloc (.cells #[.slice A1 n1 c1, .slice A2 n2 c2, .slice A3 n3 c3] 26)) := (Below.refl _ _).alloc (Nat.le_refl _) _
  have hbl := Blk.new w 26 #[.slice A1 n1 c1, .slice A2 n2 c2, .slice A3 n3 c3]
  have hz : (w.alloc (.cells #[.slice A1 n1 c1, .slice A2 n2 c2, .slice A3 n3 c3] 26)).heap.size = w.heap.size + 1 := by simp
  have hsm := fewF_Sm S
  go_enter Try.func3, Try.ntmps3
  go_wp2_with fail
  generalize w.alloc (.cells #[.slice A1 n1 c1, .slice A2 n2 c2, .slice A3 n3 c3] 26) = w1 at *
  refine (few8_any _ _ _ _ _ _ _ _ _ S w _ hbA hr).mono ?_
  rintro e w2 ⟨B1, d1, B2, d2, B3, d3, ys, xs, rfl, ho1, hk1, ho2, ho3, hk3, hb2⟩
  generalize fewF S = T at *
  have hbl2 := hbl.kept hb2
  have h0 := hbl2.cell 0
  have h1 := hbl2.cell 1
  have h2 := hbl2.cell 2
  have f0 := hbl2.free 0
  have f1 := hbl2.free 1
  have f2 := hbl2.free 2
  simp only [List.getElem?_toArray, List.getElem?_cons_zero, List.getElem?_cons_succ] at h0 h1 h2
  have hin : FewIn w (((w2.setCell ⟨w.heap.size, 0, none⟩ (.slice B1 T.dims.length d1)).setCell ⟨w.heap.size, 1, none⟩ (.slice B2 T.measures.length d2)).setCell ⟨w.heap.size, 2, none⟩ (.slice B3 T.views.length d3)) w.heap.size w1.heap.size T B1 B2 B3 d1 d2 d3 ys xs := by
    have hlt : w.heap.size < w1.heap.size := by omega
    exact ⟨((hbl2.set_ 0 _).set_ 1 _).set_ 2 _, own_set_far (own_set_far (own_set_far ho1 hlt _) hlt _) hlt _, hk1, own_set_far (own_set_far (own_set_far ho2 hlt _) hlt _) hlt _, own_set_far (own_set_far (own_set_far ho3 hlt _) hlt _) hlt _, hk3,
      (((below_then hbA hb2 (Nat.le_refl _)).setCell (Nat.le_refl _) _).setCell (Nat.le_refl _) _).setCell (Nat.le_refl _) _⟩
  go_wp2_with fail
  generalize (((w2.setCell ⟨w.heap.size, 0, none⟩ (.slice B1 T.dims.length d1)).setCell ⟨w.heap.size, 1, none⟩ (.slice B2 T.measures.length d2)).setCell ⟨w.heap.size, 2, none⟩ (.slice B3 T.views.length d3)) = w3 at *
  have hx0 : ∀ x : After w3.heap.size w3, x.1.cell? ⟨w.heap.size, 0, none⟩ = some (.slice B1 T.dims.length d1) := after_cell (hin.b.cell 0) hin.b.lt
  have hx1 : ∀ x : After w3.heap.size w3, x.1.cell? ⟨w.heap.size, 1, none⟩ = some (.slice B2 T.measures.length d2) := after_cell (hin.b.cell 1) hin.b.lt
  have hx2 : ∀ x : After w3.heap.size w3, x.1.cell? ⟨w.heap.size, 2, none⟩ = some (.slice B3 T.views.length d3) := after_cell (hin.b.cell 2) hin.b.lt
  clear h0 h1 h2 f0 f1 f2 hbl2
  obtain ⟨b, hb⟩ := bool_of (mayB T)
  have Hb := Lib.hid hb
  clear hb
  refine wp_region_mix (C := laterW w3.heap.size w3) [([0, 2], 1), ([], 3), ([4, 5], 6)] [7, 8] (by kernel_rfl) (by kernel_rfl) (fun _ _ _ _ e h => ⟨e.symm.trans h.1, h.2⟩) (laterW_of (Below.refl _ _).drew) ?_
  refine wpSegs_step fun K1 hK1 => ?_
  simp only [pickL, List.getElem?_cons_zero, List.getElem?_cons_succ]
  repeat (go_big_quiet_step (fail))
  refine wpQuiet_nil ?_
  go_wp2_with fail
  refine (may_any _ _ _ _ _ _ _ _ _ T _ (hin.reads.below (Below.refl _ _).drew) hsm.d hsm.m hsm.v hsm.l).mono ?_
  rintro e w4 ⟨rfl, hb4⟩
  rw [Hb.out]
  have hb34 : Below w3.heap.size w3 w4 := (Below.refl w3.heap.size w3).drew.trans hb4
  go_wp2_with fail
  refine ⟨laterW_of hb34, hK1 _ _ ?_⟩
  refine wpSegs_step fun K2 hK2 => ?_
  simp only [pickL, List.getElem?_cons_zero, List.getElem?_cons_succ]
  repeat (go_big_quiet_step (fail))
  refine wpQuiet_nil ?_
  go_wp2_with fail
  refine (refmay_any _ _ _ _ _ _ _ _ _ T _ (hin.reads.below hb34) hsm.d hsm.m hsm.v).mono ?_
  rintro e w5 ⟨rfl, hb5⟩
  rw [Hb.out]
  have hb35 := below_then hb34 hb5 (Nat.le_refl _)
  go_wp2_with fail
  refine ⟨laterW_of hb35, hK2 _ _ ?_⟩
  cases b
  all_goals
    refine wpSegs_step fun K3 hK3 => ?_
    simp only [pickL, List.getElem?_cons_zero, List.getElem?_cons_succ]
    repeat (go_big_quiet_step (fail))
    refine wpQuiet_nil ?_
    go_wp2_with fail
    refine (lives8_any _).mono ?_
    rintro e w6 ⟨rfl, hb6⟩
    have hb36 := below_then hb35 hb6 (Nat.le_refl _)
    go_wp2_with fail
    refine ⟨laterW_of hb36, hK3 _ _ ?_⟩
    refine wpSegs_last ?_
    simp only [pickL, List.getElem?_cons_zero, List.getElem?_cons_succ]
    repeat (go_big_quiet_step (fail))
    refine wpQuiet_nil ?_
    go_wp2
    go_ret
    exact ⟨rfl, below_then hin.l hb36 (Nat.le_refl _)⟩
end Go.Proofs.Ytojmkbhihnnmaaa
