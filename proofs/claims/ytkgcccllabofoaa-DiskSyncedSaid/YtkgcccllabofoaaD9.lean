/-
  The disk: ready; what a deed does to a map of files.
-/
import Derived.Test.YtkgcccllabofoaaD8
namespace Go.Proofs.Ytkgcccllabofoaa
open Go.RowKit Go.Maps

def readyN (may down : Bool) : Nat := if may then (if down then 30 else 0) else 1
set_option maxRecDepth 100000 in
theorem ready_any {g bl bf n c : Nat} {A : Option Addr} {fuse : Bool} {left : Int} {w : World} (s : ByteArray) (h : Blk w g 74 (dkCells bl bf A n c fuse left)) :
    Calls Try.prog 61 #[.pointer (some ⟨g, 0, none⟩), .string s] w fun e w' => e = .returned (.int .i64 (readyN (mayF s) (downF fuse left) : Nat)) ∧ Below w.heap.size w w' := by
  go_enter Try.func61, Try.ntmps61
  go_wp2_with fail
  refine (may_any s w).mono ?_
  rintro e w1 ⟨rfl, hb⟩
  have h1 := h.kept hb
  cases hm : mayF s with
  | false =>
    go_wp2_with fail
    go_ret
    exact ⟨by rw [hm]; rfl, hb⟩
  | true =>
    go_wp2_with fail
    refine (down_any h1).mono ?_
    rintro e w2 ⟨rfl, rfl⟩
    cases hd : downF fuse left with
    | false =>
      go_wp2_with fail
      go_ret
      exact ⟨by rw [hm, hd]; rfl, hb⟩
    | true =>
      go_wp2_with fail
      go_ret
      exact ⟨by rw [hm, hd]; rfl, hb⟩

def deedV (X : Value) (x : Dd) : Value := .agg #[.string x.name, X, .int .i64 (cutOf x)]
theorem grown_of_below {w w' : World} (h : Below w.heap.size w w') (g : Nat) : w.grownBy w' (some g) := ⟨h.os, h.tape, h.output, h.size, fun j hj _ => h.block j hj⟩
theorem grown_then {w w1 w2 : World} {g : Nat} (h : w.grownBy w1 (some g)) (h' : w1.grownBy w2 (some g)) : w.grownBy w2 (some g) :=
  ⟨h'.os.trans h.os, h'.tape.trans h.tape, h'.output.trans h.output, Nat.le_trans h.size h'.size, fun j hj hne => (h'.block j (by have := h.size; omega) hne).trans (h.block j hj hne)⟩
theorem grown_drew {w w1 : World} {row : Option Nat} (h : w.grownBy w1 row) (n : Nat) : w.grownBy (w1.drewN n) row := ⟨h.os, h.tape, h.output, h.size, h.block⟩

set_option maxRecDepth 100000 in
theorem does_any (z b k : Nat) (G : FS) (x : Dd) (X : Value) (w : World) (hM : MapB z w b k G) (hX : BytesV z w X x.data) (hz : z < w.heap.size) (hx : OkD G x) :
    Calls Try.prog 59 #[.map (some b), deedV X x] w fun e w' => e = .returned (.tuple #[]) ∧ MapB z w' b (k + 1) (doF G x) ∧ w.grownBy w' (some b) := by
  have hname : x.name.size ≤ maxLen := by have := hx.name; unfold maxLen; omega
  unfold deedV
  generalize hcc : cutOf x = cc
  have hbA : Below w.heap.size w (w.alloc (.cells #[.string x.name, X, .int .i64 cc] 78)) := (Below.refl _ _).alloc (Nat.le_refl _) _
  have hM1 := hM.below hbA
  have hX1 := hX.below hbA
  have hM1d : MapB z (w.alloc (.cells #[.string x.name, X, .int .i64 cc] 78)).drew b k G := hM1.keep rfl fun _ _ h => h
  have hblt := hM.lt
  have hbl := Blk.new w 78 #[.string x.name, X, .int .i64 cc]
  have h0 := hbl.cell 0
  have h1 := hbl.cell 1
  have h2 := hbl.cell 2
  simp only [List.getElem?_toArray, List.getElem?_cons_zero, List.getElem?_cons_succ] at h0 h1 h2
  rcases (show x.kind = 0 ∨ x.kind = 1 ∨ x.kind = 2 by have := hx.k; omega) with hk | hk | hk
  · obtain rfl : cc = -1 := by rw [← hcc]; unfold cutOf; rw [if_pos hk]
    have hl := hx.app hk
    have hD := Lib.hid (show doF G x = putG G x.name ((G x.name).getD [] ++ x.data) by unfold doF nowF; rw [if_neg (by omega), if_pos hk])
    obtain ⟨A, n, c, hv, hget, _⟩ := hM1d.get hname
    have hXn := hX1
    obtain ⟨B, m, d, hXe, _⟩ := hX1
    subst hXe
    have hln := hv.len
    have hlm := hXn.len
    go_enter Try.func59, Try.ntmps59
    go_wp2_with fail
    generalize hw1 : w.alloc (.cells #[.string x.name, .slice B m d, .int .i64 (-1)] 78) = w1 at *
    have k0 := keep_cell (gs := [w.heap.size]) h0 (by simp)
    have k1 := keep_cell (gs := [w.heap.size]) h1 (by simp)
    have hgl : w.heap.size < w1.heap.size := hbl.lt
    have hb2 : Below w1.heap.size w1 (w1.alloc (.cells #[.slice A n c, .slice B m d] 40)).drew := ((Below.refl _ _).alloc (Nat.le_refl _) _).drew
    have hbk2 : Blk (w1.alloc (.cells #[.slice A n c, .slice B m d] 40)).drew w1.heap.size 40 #[.slice A n c, .slice B m d] := Blk.new w1 _ _
    have hv2 := BytesV.below (w := w1) hv hb2
    have hX2 := hXn.below hb2
    have hM2 := hM1.below hb2
    refine wp_region_mix (C := keepW [w.heap.size] w1) [([0, 1, 2, 3, 4, 5, 7, 8], 6), ([], 9), ([], 10), ([], 11)] [] (by kernel_rfl) (by kernel_rfl) (fun _ _ _ _ e h => ⟨e.symm.trans h.1, h.2⟩) keepW_refl ?_
    refine wpSegs_step fun K1 hK1 => ?_
    simp only [pickL, List.getElem?_cons_zero, List.getElem?_cons_succ]
    repeat (go_big_quiet_step (fail))
    refine wpQuiet_nil ?_
    go_wp2_with fail
    refine ⟨keepW_of (fun _ _ => rfl), hK1 _ _ ?_⟩
    refine wpSegs_step fun K2 hK2 => ?_
    simp only [pickL, List.getElem?_cons_zero, List.getElem?_cons_succ]
    repeat (go_big_quiet_step (fail))
    refine wpQuiet_nil ?_
    go_wp2_with fail
    generalize (w1.alloc (.cells #[.slice A n c, .slice B m d] 40)).drew = w2 at *
    refine ⟨keepW_of (by simp; exact hb2.block _ hgl), hK2 _ _ ?_⟩
    refine wpSegs_step fun K3 hK3 => ?_
    simp only [pickL, List.getElem?_cons_zero, List.getElem?_cons_succ]
    repeat (go_big_quiet_step (fail))
    refine wpQuiet_nil ?_
    go_wp2_with fail
    refine (concat_any _ A B n c m d _ _ w2 hbk2 hv2.get.1 hX2.get.1 (by omega) (by omega)).mono ?_
    rintro e w3 ⟨A3, c3, rfl, hown, hb3⟩
    have hb13 := below_then hb2 hb3 (Nat.le_refl _)
    obtain ⟨w4, hset, hM4, hg4⟩ := (hM2.below hb3).set hname (BytesV.of_own hown (by have := hb2.size; omega)) (by rw [List.length_append]; omega)
    have hg14 := grown_then (grown_then (grown_of_below hbA b) (grown_of_below hb13 b)) hg4
    go_wp2_with fail
    refine ⟨keepW_of (by simp; exact hb13.block _ hgl), hK3 _ _ ?_⟩
    refine wpSegs_step fun K4 hK4 => ?_
    simp only [pickL, List.getElem?_cons_zero, List.getElem?_cons_succ]
    repeat (go_big_quiet_step (fail))
    refine wpQuiet_nil ?_
    go_wp2_with fail
    refine ⟨keepW_of (by simp; exact (hg4.block _ (by have := hb13.size; omega) (by simp; omega)).trans (hb13.block _ hgl)), hK4 _ _ ?_⟩
    refine wpSegs_last ?_
    simp only [pickL]
    refine wpQuiet_nil ?_
    go_wp2_with fail
    exact bodyPost_end0' rfl rfl ⟨rfl, by rw [hD.out]; exact hM4, hg14⟩
  · obtain rfl : cc = x.n := by rw [← hcc]; unfold cutOf; rw [if_neg (by omega), if_pos hk]
    have hcl := hx.cut hk
    have hcM := hM.lenD x.name
    have hD := Lib.hid (show doF G x = putG G x.name (((G x.name).getD []).take x.n) by unfold doF nowF; rw [if_neg (by omega), if_neg (by omega), if_pos hk])
    obtain ⟨A, n, c, hv, hget, _⟩ := hM1d.get hname
    have hln := hv.len
    have hvb := hv.get.2
    unfold maxLen at hvb
    have e1 : ((x.n : Int) == -2) = false := beq_eq_false_iff_ne.2 (by omega)
    have e2 : ((x.n : Int) == -1) = false := beq_eq_false_iff_ne.2 (by omega)
    go_enter Try.func59, Try.ntmps59
    go_wp2_with fail
    generalize hw1 : w.alloc (.cells #[.string x.name, X, .int .i64 x.n] 78) = w1 at *
    have k0 := keep_cell (gs := [w.heap.size]) h0 (by simp)
    have k2 := keep_cell (gs := [w.heap.size]) h2 (by simp)
    have hgl : w.heap.size < w1.heap.size := hbl.lt
    refine wp_region_mix (C := keepW [w.heap.size] w1) [([0, 1, 2, 3, 4, 5, 7, 8], 6), ([9], 10), ([], 11)] [] (by kernel_rfl) (by kernel_rfl) (fun _ _ _ _ e h => ⟨e.symm.trans h.1, h.2⟩) keepW_refl ?_
    refine wpSegs_step fun K1 hK1 => ?_
    simp only [pickL, List.getElem?_cons_zero, List.getElem?_cons_succ]
    repeat (go_big_quiet_step (fail))
    refine wpQuiet_nil ?_
    go_wp2_with fail
    refine ⟨keepW_of (fun _ _ => rfl), hK1 _ _ ?_⟩
    refine wpSegs_step fun K2 hK2 => ?_
    simp only [pickL, List.getElem?_cons_zero, List.getElem?_cons_succ]
    repeat (go_big_quiet_step (fail))
    refine wpQuiet_nil ?_
    go_wp2_with fail
    refine (clone_any A x.n c _ w1.drew (hv.get.1.take (k := x.n) (by omega)) (by omega)).mono ?_
    rintro e w3 ⟨A3, c3, rfl, hown, hb3⟩
    have hb13 : Below w1.heap.size w1 w3 := below_then ((Below.refl w1.heap.size w1).drew) hb3 (Nat.le_refl _)
    obtain ⟨w4, hset, hM4, hg4⟩ := (hM1.below hb13).set hname (BytesV.of_own hown (by show z < w1.heap.size; omega)) (by rw [List.length_take]; omega)
    have hg14 := grown_then (grown_then (grown_of_below hbA b) (grown_of_below hb13 b)) hg4
    go_wp2_with fail
    refine ⟨keepW_of (by simp; exact hb13.block _ hgl), hK2 _ _ ?_⟩
    refine wpSegs_step fun K3 hK3 => ?_
    simp only [pickL, List.getElem?_cons_zero, List.getElem?_cons_succ]
    repeat (go_big_quiet_step (fail))
    refine wpQuiet_nil ?_
    go_wp2_with fail
    refine ⟨keepW_of (by simp; exact (hg4.block _ (by have := hb13.size; omega) (by simp; omega)).trans (hb13.block _ hgl)), hK3 _ _ ?_⟩
    refine wpSegs_last ?_
    simp only [pickL]
    refine wpQuiet_nil ?_
    go_wp2_with fail
    exact bodyPost_end0' rfl rfl ⟨rfl, by rw [hD.out]; exact hM4, hg14⟩
  · obtain rfl : cc = -2 := by rw [← hcc]; unfold cutOf; rw [if_neg (by omega), if_neg (by omega)]
    have hD := Lib.hid (show doF G x = delG G x.name by unfold doF; rw [if_pos hk])
    obtain ⟨w2, hdel, hM2, hg2⟩ := hM1.del hname
    go_enter Try.func59, Try.ntmps59
    go_wp2_with fail
    exact bodyPost_end0' rfl rfl ⟨rfl, by rw [hD.out]; exact hM2.more (by omega), grown_then (grown_of_below hbA b) hg2⟩
end Go.Proofs.Ytkgcccllabofoaa
