/-
  The law: like.
-/
import Derived.Test.YtojmkbhihnnmaaaT27
namespace Go.Proofs.Ytojmkbhihnnmaaa
open Go.RowKit

section
variable {z M : Nat} {w w' : World} {gt gr g : Nat} {t u : Trk}
theorem slice_all {t : Trk} {n : Nat} (h : n = t.L.length) : t.sliceF (t.index + 1) ((n : Int) + 5) = t.L := by
  unfold Trk.sliceF
  rw [if_neg (by omega), show (t.index + 1 - t.index - 1).toNat = 0 by omega, List.drop_zero, List.take_of_length_le (by omega)]
set_option maxRecDepth 100000 in
set_option maxHeartbeats 4000000 in
theorem tlike_any (hP : Two z M w gt gr t t) (hN : t.L.length ≤ 900000) :
    Calls Try.prog 39 #[.pointer (some ⟨gt, 0, none⟩), .pointer (some ⟨gr, 0, none⟩)] w fun e w' => e = .returned (.bool true) ∧ Below w.heap.size w w' := by
  obtain ⟨S, At, n, ct, zs, A2, n2, c2, zs2, h1, h2, _⟩ := id hP
  have hn1 := h1.nlen (N := 900000) hN
  have hn2 := h2.nlen (N := 900000) hN
  have hcall := tbase_any h1
  obtain ⟨⟨l1, l2⟩, hl⟩ : ∃ r, t.lastF = r := ⟨_, rfl⟩
  have hib := h1.i.b
  have hall := slice_all h2.len.1
  go_enter Try.func39, Try.ntmps39
  go_wp2_with fail
  refine hcall.mono ?_
  rintro e w1 ⟨rfl, q, rfl⟩
  have hb1 : Below w.heap.size w (w.drewN q) := below_drewN (Below.refl _ _) q
  have hcall := tend_below (h1.below hb1) (by omega)
  rw [hl] at hcall
  go_wp2_with fail
  refine hcall.mono ?_
  rintro e w2 ⟨rfl, hb2⟩
  have hb2 := below_then hb1 hb2 (Nat.le_refl _)
  have hcall := rend_any (h2.below hb2) (by omega)
  rw [hl] at hcall
  go_wp2_with fail
  refine hcall.mono ?_
  rintro e w3 ⟨rfl, hb3⟩
  have hb3 := below_then hb2 hb3 (Nat.le_refl _)
  have h13 := h1.below hb3
  have h23 := h2.below hb3
  obtain ⟨r0, r1, r2⟩ := h23.cells
  have k0 := keep_cell (gs := [gr]) r0 (by simp)
  have k1 := keep_cell (gs := [gr]) r1 (by simp)
  have k2 := keep_cell (gs := [gr]) r2 (by simp)
  have hgs : ∀ q ∈ [gr], q < w3.heap.size := by simp; exact h23.b.lt
  have hbd : Below w3.heap.size w3 w3.drew := (Below.refl _ _).drew
  have hscall := tslice_any (t.index + 1) ((n2 : Int) + 5) (h13.below hbd) (by omega)
  rw [hall] at hscall
  clear hcall r0 r1 r2
  go_wp2_with fail
  refine wp_region_mix (C := keepW [gr] w3) [([0, 1, 2, 3, 4, 5, 6, 7, 8, 9, 10, 11, 13, 14, 15, 16], 12), ([], 17)] [18] (by kernel_rfl) (by kernel_rfl) (fun _ _ _ _ e h => ⟨e.symm.trans h.1, h.2⟩) keepW_refl ?_
  refine wpSegs_step fun K1 hK1 => ?_
  simp only [pickL, List.getElem?_cons_zero, List.getElem?_cons_succ]
  repeat (go_big_quiet_step (fail))
  refine wpQuiet_nil ?_
  go_wp2_with fail
  refine hscall.mono ?_
  rintro e w5 ⟨A5, n5, c5, zs5, rfl, hE5, hb5⟩
  have hb35 := hbd.trans hb5
  have h25 := h23.below hb35
  obtain rfl : n5 = n2 := by
    have e1 := hE5.len
    have e2 := h25.len
    omega
  have hsame := sameEs_any (c := c5) (d := c2) (Rds.of_own hE5.1) h25.r (hE5.2.2.trans h25.l.symm) hE5.2.1 h25.d (by unfold maxLen; omega)
  go_wp2_with fail
  refine ⟨keepW_below hgs hb35, hK1 _ _ ?_⟩
  refine wpSegs_step fun K2 hK2 => ?_
  simp only [pickL, List.getElem?_cons_zero, List.getElem?_cons_succ]
  repeat (go_big_quiet_step (fail))
  refine wpQuiet_nil ?_
  go_wp2_with fail
  refine hsame.mono ?_
  rintro e w6 ⟨rfl, hb6⟩
  have hb36 := below_then hb35 hb6 (Nat.le_refl _)
  go_wp2_with fail
  refine ⟨keepW_below hgs hb36, hK2 _ _ ?_⟩
  refine wpSegs_last ?_
  simp only [pickL, List.getElem?_cons_zero, List.getElem?_cons_succ]
  repeat (go_big_quiet_step (fail))
  refine wpQuiet_nil ?_
  obtain ⟨r0, r1, r2⟩ := (h23.below hb36).cells
  clear k0 k1 k2 hscall hsame
  go_wp2_with fail
  go_ret
  exact ⟨by first | rfl | simp, below_then hb3 hb36 (Nat.le_refl _)⟩
end
end Go.Proofs.Ytojmkbhihnnmaaa
