/-
  The walks of the frames: the document's examples.
-/
import Derived.Test.YtfhfpcihbclanaaFrame8
namespace Go.Proofs.Ytfhfpcihbclanaa
open Go.RowKit

theorem lives3_any (w : World) : Calls Try.prog 28 #[] w fun e w' => e = .returned (.bool true) ∧ Below w.heap.size w w' := by
  have hs1 : scanF ([] ++ frameB 7 [97]) = ⟨[⟨7, [97]⟩], 10, 0⟩ := by kernel_rfl
  have hs2 : scanF [1, 0, 0] = ⟨[], 0, 3⟩ := by kernel_rfl
  have hx0 : ((([] ++ frameB 7 [97] : List UInt8)[0]?.getD 0).toNat) = 1 := by kernel_rfl
  have hx4 : ((([] ++ frameB 7 [97] : List UInt8)[4]?.getD 0).toNat) = 7 := by kernel_rfl
  have hx5 : ((([] ++ frameB 7 [97] : List UInt8)[5]?.getD 0).toNat) = 97 := by kernel_rfl
  generalize hfb : ([] ++ frameB 7 [97] : List UInt8) = fb at *
  have Hfb := Lib.hid hfb
  have Hs1 := Lib.hid hs1
  have Hs2 := Lib.hid hs2
  have hb0 : Below w.heap.size w (w.alloc (.cells #[.int .u8 97] 5 (1, 2))) := (Below.refl _ _).alloc (Nat.le_refl _) _
  have hr0 : Rd (w.alloc (.cells #[.int .u8 97] 5 (1, 2))) (some ⟨w.heap.size, 0, none⟩) 1 [97] := Rd.lit _ _ _ _ _ 1 _ rfl rfl rfl
  have kc := convert_const Try.prog 23 5 Try.underlying23 Try.underlying5
  clear hfb hs1 hs2
  go_enter Try.func28, Try.ntmps28
  go_wp2_with fail
  refine (put_ok none _ 0 0 7 1 _ [] [97] _ Rd.none_ hr0 (by omega) (by omega) (by omega)).mono ?_
  rintro e w1 ⟨A1, c1, rfl, hown1, hb1⟩
  rw [Hfb.out] at hown1
  have hb01 := below_then hb0 hb1 (Nat.le_refl _)
  go_wp2_with fail
  refine (put_bad none none 0 0 0 0 256 w1 (by omega)).mono ?_
  rintro e w' ⟨rfl, rfl⟩
  go_wp2_with fail
  refine (scan_any _ _ _ fb _ (Rd.of_own hown1) (by omega) (own_bounds hown1).1 (own_bounds hown1).2).mono ?_
  rintro e w2 ⟨A2, c2, rfl, hown2, hb2⟩
  rw [Hs1.out] at hown2 ⊢
  have hb02 := below_then hb01 hb2 (Nat.le_refl _)
  have hown12 := own_below hown1 hb2
  have hb03 : Below w.heap.size w (w2.alloc (.cells #[.int .u8 1, .int .u8 0, .int .u8 0] 5)) := hb02.alloc hb02.size _
  have hb23 : Below w2.heap.size w2 (w2.alloc (.cells #[.int .u8 1, .int .u8 0, .int .u8 0] 5)) := (Below.refl _ _).alloc (Nat.le_refl _) _
  go_wp2_with fail
  refine (scan_any _ _ _ [1, 0, 0] _ (Rd.lit _ _ _ _ _ 3 _ rfl rfl (by simp)) (by omega) (by omega) (by unfold maxLen; omega)).mono ?_
  rintro e w4 ⟨A4, c4, rfl, hown4, hb4⟩
  rw [Hs2.out] at hown4 ⊢
  have hb04 := below_then hb03 hb4 (Nat.le_refl _)
  have hown24 := own_below (own_below hown12 hb23) hb4
  have hr4 := ((hown2.reads.below hb23).below hb4)
  obtain ⟨ad, B, m, c, kd, body, hx, rfl, hc, _⟩ := hr4.at_ (k := 0) (by simp)
  rw [show 0 * 2 = 0 from rfl, add_nought] at hc
  simp only [List.getElem?_cons_zero, Option.some.injEq, Fr.mk.injEq] at hx
  obtain ⟨rfl, rfl⟩ := hx
  obtain ⟨g, rfl, _, d0, _⟩ := own_at hown24 (k := 0) (by omega)
  obtain ⟨g', e1, _, d4, _⟩ := own_at hown24 (k := 4) (by omega)
  obtain rfl : g = g' := by injection e1 with e1; injection e1
  obtain ⟨g', e2, _, d5, _⟩ := own_at hown24 (k := 5) (by omega)
  obtain rfl : g = g' := by injection e2 with e2; injection e2
  clear e1 e2 hown1 hown12 hown2 hr4
  rw [hx0] at d0; rw [hx4] at d4; rw [hx5] at d5
  go_wp2
  go_ret
  exact ⟨rfl, hb04⟩
end Go.Proofs.Ytfhfpcihbclanaa
