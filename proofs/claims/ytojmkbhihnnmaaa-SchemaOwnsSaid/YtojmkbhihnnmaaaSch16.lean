/-
  The walks of the schema: the document's examples.
-/
import Derived.Test.YtojmkbhihnnmaaaSch15
namespace Go.Proofs.Ytojmkbhihnnmaaa
open Go.RowKit Go.Maps

theorem Rds.blk {w : World} {g : Nat} {T : TypeId} {cs : Array Value} (h : Blk w g T cs) (size n : Nat) (hn : cs.toList.length = n * size) : Rds w size (some ⟨g, 0, none⟩) n cs.toList := by
  refine ⟨hn, fun _ => ⟨_, rfl, fun j u hu => ?_⟩⟩
  have e : (⟨g, 0, none⟩ : Addr).add j = ⟨g, j, none⟩ := by unfold Addr.add; split <;> simp [*]
  rw [e, h.cell j, ← hu]
  simp

def strB (l : List UInt8) : ByteArray := ⟨l.toArray⟩
def S0 : Sch := ⟨[⟨strB [97], [strB [120], strB [121]]⟩, ⟨strB [98], [strB [120], strB [121], strB [122]]⟩], [strB [109]], [[0, 0]]⟩

theorem s0_reads (w : World) (g : Nat) (b1 : Blk w g 9 #[.string (strB [120]), .string (strB [121])]) (b2 : Blk w (g + 1) 9 #[.string (strB [120]), .string (strB [121]), .string (strB [122])])
    (b3 : Blk w (g + 2) 42 #[.string (strB [97]), .slice (some ⟨g, 0, none⟩) 2 2, .string (strB [98]), .slice (some ⟨g + 1, 0, none⟩) 3 3]) (b4 : Blk w (g + 3) 9 #[.string (strB [109])])
    (b5 : Blk w (g + 4) 3 #[.int .i64 0, .int .i64 0]) (b6 : Blk w (g + 5) 30 #[.slice (some ⟨g + 4, 0, none⟩) 2 2]) :
    RdSch w (some ⟨g + 2, 0, none⟩) (some ⟨g + 3, 0, none⟩) (some ⟨g + 5, 0, none⟩) 2 1 1 2 1 1 S0 := by
  have ml : ∀ n : Nat, n ≤ 3 → n ≤ maxLen := fun n h => maxLen_big h (by omega)
  refine ⟨⟨rfl, fun i d hi => ?_⟩, Rds.blk b4 1 1 rfl, ⟨rfl, fun i v hi => ?_⟩, ⟨by omega, ml _ (by omega)⟩, ⟨by omega, ml _ (by omega)⟩, ⟨by omega, ml _ (by omega)⟩⟩
  · match i with
    | 0 =>
      obtain rfl : _ = d := Option.some.inj hi
      exact ⟨⟨g + 2, 0, none⟩, some ⟨g, 0, none⟩, 2, 2, rfl, b3.cell 0, b3.cell 1, Rds.blk b1 1 2 rfl, by omega, ml _ (by omega)⟩
    | 1 =>
      obtain rfl : _ = d := Option.some.inj hi
      exact ⟨⟨g + 2, 0, none⟩, some ⟨g + 1, 0, none⟩, 3, 3, rfl, b3.cell 2, b3.cell 3, Rds.blk b2 1 3 rfl, by omega, ml _ (by omega)⟩
    | i + 2 => simp [S0] at hi
  · match i with
    | 0 =>
      obtain rfl : _ = v := Option.some.inj hi
      exact ⟨⟨g + 5, 0, none⟩, some ⟨g + 4, 0, none⟩, 2, 2, rfl, b6.cell 0, Rds.blk b5 1 2 rfl, by omega, ml _ (by omega)⟩
    | i + 1 => simp [S0] at hi
theorem s0_sm : Sm S0 := ⟨by decide, by decide, by decide, by decide, by decide⟩
theorem s0_may : mayB S0 = true := by decide +kernel
theorem s0_base : baseF S0 = [2, 3] := by decide +kernel
theorem s0_n1 : numberF S0 [2, 3] = (0, 0) := by decide +kernel
theorem s0_n2 : numberF S0 [0, 0] = (1, 0) := by decide +kernel
theorem s0_join : joinF [2, 0] [1, 1] = [2, 1] := by decide +kernel
theorem s0_prod : prodF S0.dims = 12 := by decide +kernel
theorem s0_corner : cornerF S0 [0, 4] = false := by decide +kernel
theorem s0_c1 : coversF [2, 1] [1, 1] = true := by decide +kernel
theorem s0_c2 : coversF [2, 0] [1, 1] = false := by decide +kernel

theorem Blk.newAt {w : World} {T : TypeId} {cs : Array Value} {g : Nat} (h : w.heap.size = g) : Blk (w.alloc (.cells cs T)) g T cs := by subst h; exact Blk.new w T cs
theorem alloc_size {w : World} {o : Obj} {g : Nat} (h : w.heap.size = g) : (w.alloc o).heap.size = g + 1 := by subst h; simp
theorem s0_world (w : World) : RdSch ((((((((w.alloc (.cells #[.string { data := #[120] }, .string { data := #[121] }] 9)).alloc (.cells #[.string { data := #[120] }, .string { data := #[121] }, .string { data := #[122] }] 9)).alloc (.cells #[.string { data := #[97] }, .slice (some ⟨w.heap.size, 0, none⟩) 2 2, .string { data := #[98] }, .slice (some ⟨w.heap.size + 1, 0, none⟩) 3 3] 42)).alloc (.cells #[.string { data := #[109] }] 9)).alloc (.cells #[.int .i64 0, .int .i64 0] 3)).alloc (.cells #[.slice (some ⟨w.heap.size + 1 + 1 + 1 + 1, 0, none⟩) 2 2] 30)).alloc (.cells #[.slice (some ⟨w.heap.size + 1 + 1, 0, none⟩) 2 2, .slice (some ⟨w.heap.size + 1 + 1 + 1, 0, none⟩) 1 1, .slice (some ⟨w.heap.size + 1 + 1 + 1 + 1 + 1, 0, none⟩) 1 1] 26))) (some ⟨w.heap.size + 1 + 1, 0, none⟩) (some ⟨w.heap.size + 1 + 1 + 1, 0, none⟩) (some ⟨w.heap.size + 1 + 1 + 1 + 1 + 1, 0, none⟩) 2 1 1 2 1 1 S0 ∧
    Blk ((((((((w.alloc (.cells #[.string { data := #[120] }, .string { data := #[121] }] 9)).alloc (.cells #[.string { data := #[120] }, .string { data := #[121] }, .string { data := #[122] }] 9)).alloc (.cells #[.string { data := #[97] }, .slice (some ⟨w.heap.size, 0, none⟩) 2 2, .string { data := #[98] }, .slice (some ⟨w.heap.size + 1, 0, none⟩) 3 3] 42)).alloc (.cells #[.string { data := #[109] }] 9)).alloc (.cells #[.int .i64 0, .int .i64 0] 3)).alloc (.cells #[.slice (some ⟨w.heap.size + 1 + 1 + 1 + 1, 0, none⟩) 2 2] 30)).alloc (.cells #[.slice (some ⟨w.heap.size + 1 + 1, 0, none⟩) 2 2, .slice (some ⟨w.heap.size + 1 + 1 + 1, 0, none⟩) 1 1, .slice (some ⟨w.heap.size + 1 + 1 + 1 + 1 + 1, 0, none⟩) 1 1] 26))) (w.heap.size + 1 + 1 + 1 + 1 + 1 + 1) 26 #[.slice (some ⟨w.heap.size + 1 + 1, 0, none⟩) 2 2, .slice (some ⟨w.heap.size + 1 + 1 + 1, 0, none⟩) 1 1, .slice (some ⟨w.heap.size + 1 + 1 + 1 + 1 + 1, 0, none⟩) 1 1] ∧
    Below w.heap.size w ((((((((w.alloc (.cells #[.string { data := #[120] }, .string { data := #[121] }] 9)).alloc (.cells #[.string { data := #[120] }, .string { data := #[121] }, .string { data := #[122] }] 9)).alloc (.cells #[.string { data := #[97] }, .slice (some ⟨w.heap.size, 0, none⟩) 2 2, .string { data := #[98] }, .slice (some ⟨w.heap.size + 1, 0, none⟩) 3 3] 42)).alloc (.cells #[.string { data := #[109] }] 9)).alloc (.cells #[.int .i64 0, .int .i64 0] 3)).alloc (.cells #[.slice (some ⟨w.heap.size + 1 + 1 + 1 + 1, 0, none⟩) 2 2] 30)).alloc (.cells #[.slice (some ⟨w.heap.size + 1 + 1, 0, none⟩) 2 2, .slice (some ⟨w.heap.size + 1 + 1 + 1, 0, none⟩) 1 1, .slice (some ⟨w.heap.size + 1 + 1 + 1 + 1 + 1, 0, none⟩) 1 1] 26))) := by
  have z0 : w.heap.size = w.heap.size := rfl
  refine ⟨s0_reads _ w.heap.size ((((((Blk.newAt z0).alloc _).alloc _).alloc _).alloc _).alloc _ |>.alloc _) (((((Blk.newAt (alloc_size z0)).alloc _).alloc _).alloc _).alloc _ |>.alloc _) ((((Blk.newAt (alloc_size (alloc_size z0))).alloc _).alloc _).alloc _ |>.alloc _) (((Blk.newAt (alloc_size (alloc_size (alloc_size z0)))).alloc _).alloc _ |>.alloc _) ((Blk.newAt (alloc_size (alloc_size (alloc_size (alloc_size z0))))).alloc _ |>.alloc _) ((Blk.newAt (alloc_size (alloc_size (alloc_size (alloc_size (alloc_size z0)))))).alloc _), Blk.newAt (alloc_size (alloc_size (alloc_size (alloc_size (alloc_size (alloc_size z0)))))), ?_⟩
  have b1 := (Below.refl w.heap.size w).alloc (Nat.le_refl _) (.cells #[.string { data := #[120] }, .string { data := #[121] }] 9)
  have b2 := b1.alloc b1.size (.cells #[.string { data := #[120] }, .string { data := #[121] }, .string { data := #[122] }] 9)
  have b3 := b2.alloc b2.size (.cells #[.string { data := #[97] }, .slice (some ⟨w.heap.size, 0, none⟩) 2 2, .string { data := #[98] }, .slice (some ⟨w.heap.size + 1, 0, none⟩) 3 3] 42)
  have b4 := b3.alloc b3.size (.cells #[.string { data := #[109] }] 9)
  have b5 := b4.alloc b4.size (.cells #[.int .i64 0, .int .i64 0] 3)
  have b6 := b5.alloc b5.size (.cells #[.slice (some ⟨w.heap.size + 1 + 1 + 1 + 1, 0, none⟩) 2 2] 30)
  exact b6.alloc b6.size _
theorem ints2 (w : World) (x y : Int) (g : Nat) (hg : w.heap.size = g) : RdI (w.alloc (.cells #[.int .i64 x, .int .i64 y] 3)) (some ⟨g, 0, none⟩) 2 [x, y] := RdI.lit _ _ _ _ _ 2 _ rfl rfl hg

set_option maxHeartbeats 1000000 in
theorem lives8_any (w : World) : Calls Try.prog 18 #[] w fun e w' => e = .returned (.bool true) ∧ Below w.heap.size w w' := by
  obtain ⟨hS, hB, hb1⟩ := s0_world w
  have l2 : (2 : Nat) ≤ maxLen := by unfold maxLen; omega
  go_enter Try.func18, Try.ntmps18
  go_wp2_with fail
  generalize (((((((w.alloc (.cells #[.string { data := #[120] }, .string { data := #[121] }] 9)).alloc (.cells #[.string { data := #[120] }, .string { data := #[121] }, .string { data := #[122] }] 9)).alloc (.cells #[.string { data := #[97] }, .slice (some ⟨w.heap.size, 0, none⟩) 2 2, .string { data := #[98] }, .slice (some ⟨w.heap.size + 1, 0, none⟩) 3 3] 42)).alloc (.cells #[.string { data := #[109] }] 9)).alloc (.cells #[.int .i64 0, .int .i64 0] 3)).alloc (.cells #[.slice (some ⟨w.heap.size + 1 + 1 + 1 + 1, 0, none⟩) 2 2] 30)).alloc (.cells #[.slice (some ⟨w.heap.size + 1 + 1, 0, none⟩) 2 2, .slice (some ⟨w.heap.size + 1 + 1 + 1, 0, none⟩) 1 1, .slice (some ⟨w.heap.size + 1 + 1 + 1 + 1 + 1, 0, none⟩) 1 1] 26)) = w1 at *
  refine (base_any _ _ _ _ _ _ _ _ _ _ _ hS (by omega)).mono ?_
  rintro e w2 ⟨Ab, cb, rfl, hownb, hb2⟩
  rw [s0_base] at hownb
  have hb02 := below_then hb1 hb2 (Nat.le_refl _)
  have q20 := (hB.kept hb2).cell 0
  have q21 := (hB.kept hb2).cell 1
  have q22 := (hB.kept hb2).cell 2
  have hbA := (Below.refl w2.heap.size w2).alloc (Nat.le_refl _) (.cells #[.int .i64 2, .int .i64 3] 3)
  go_wp2_with fail
  refine (number_any _ _ _ _ _ _ _ _ _ _ 2 _ S0 [2, 3] _ (hS.below (below_then hb2 hbA (Nat.le_refl _))) s0_sm (ints2 w2 2 3 _ rfl) l2).mono ?_
  rintro e w3 ⟨rfl, hb3⟩
  rw [s0_n1]
  have hb13 := below_then (below_then hb2 hbA (Nat.le_refl _)) hb3 (Nat.le_refl _)
  have hb23 := below_then hbA hb3 (Nat.le_refl _)
  have hbB := (Below.refl w3.heap.size w3).alloc (Nat.le_refl _) (.cells #[.int .i64 0, .int .i64 0] 3)
  have q30 := (hB.kept hb13).cell 0
  have q31 := (hB.kept hb13).cell 1
  have q32 := (hB.kept hb13).cell 2
  clear q20 q21 q22
  go_wp2_with fail
  refine (number_any _ _ _ _ _ _ _ _ _ _ 2 _ S0 [0, 0] _ (hS.below (below_then hb13 hbB (Nat.le_refl _))) s0_sm (ints2 w3 0 0 _ rfl) l2).mono ?_
  rintro e w4 ⟨rfl, hb4⟩
  rw [s0_n2]
  have hb14 := below_then (below_then hb13 hbB (Nat.le_refl _)) hb4 (Nat.le_refl _)
  have hb24 := below_then (below_then hb23 hbB (Nat.le_refl _)) hb4 (Nat.le_refl _)
  have hbC1 := (Below.refl w4.heap.size w4).alloc (Nat.le_refl _) (.cells #[.int .i64 2, .int .i64 0] 3)
  have hbC := hbC1.alloc hbC1.size (.cells #[.int .i64 1, .int .i64 1] 3)
  clear q30 q31 q32
  go_wp2_with fail
  refine (join_any _ _ 2 2 _ _ [2, 0] [1, 1] _ ((ints2 w4 2 0 _ rfl).alloc _) (ints2 (w4.alloc (.cells #[.int .i64 2, .int .i64 0] 3)) 1 1 (w4.heap.size + 1) (by simp)) (by omega) (by omega)).mono ?_
  rintro e w5 ⟨Aj, cj, rfl, hownj, hb5⟩
  rw [s0_join] at hownj ⊢
  have hb15 := below_then (below_then hb14 hbC (Nat.le_refl _)) hb5 (Nat.le_refl _)
  have hb25 := below_then (below_then hb24 hbC (Nat.le_refl _)) hb5 (Nat.le_refl _)
  have q50 := (hB.kept hb15).cell 0
  have q51 := (hB.kept hb15).cell 1
  have q52 := (hB.kept hb15).cell 2
  go_wp2_with fail
  refine (may_any _ _ _ _ _ _ _ _ _ S0 _ (hS.below hb15) (by omega) (by omega) (by omega) s0_sm.l).mono ?_
  rintro e w6 ⟨rfl, hb6⟩
  rw [s0_may]
  have hb16 := below_then hb15 hb6 (Nat.le_refl _)
  have hb26 := below_then hb25 hb6 (Nat.le_refl _)
  obtain ⟨gb, rfl, _, hcb, _⟩ := own_ints_at (own_below hownb hb26) (k := 1) (by omega)
  rw [show ([2, 3] : List Int)[1]?.getD 0 = 3 from rfl] at hcb
  have q60 := (hB.kept hb16).cell 0
  have q61 := (hB.kept hb16).cell 1
  have q62 := (hB.kept hb16).cell 2
  clear q50 q51 q52
  go_wp2_with fail
  refine (corners_any _ _ _ _ _ _ _ _ _ S0 _ (hS.below hb16) (by omega) (by decide)).mono ?_
  rintro e w7 ⟨rfl, hb7⟩
  rw [s0_prod]
  have hb17 := below_then hb16 hb7 (Nat.le_refl _)
  have hb57 := below_then hb6 hb7 (Nat.le_refl _)
  have hownj7 := own_below hownj hb57
  obtain ⟨gj, e1, _, hcj0, _⟩ := own_ints_at hownj7 (k := 0) (by show 0 < 2; omega)
  subst e1
  obtain ⟨gj', e2, _, hcj1, _⟩ := own_ints_at hownj7 (k := 1) (by show 1 < 2; omega)
  obtain rfl : gj = gj' := by injection e2 with e2; injection e2
  rw [show ([2, 1] : List Int)[0]?.getD 0 = 2 from rfl] at hcj0
  rw [show ([2, 1] : List Int)[1]?.getD 0 = 1 from rfl] at hcj1
  have q70 := (hB.kept hb17).cell 0
  have q71 := (hB.kept hb17).cell 1
  have q72 := (hB.kept hb17).cell 2
  clear q60 q61 q62 e2 hcb
  have hbD := (Below.refl w7.heap.size w7).alloc (Nat.le_refl _) (.cells #[.int .i64 0, .int .i64 4] 3)
  go_wp2_with fail
  refine (corner_any _ _ _ _ _ _ _ _ _ _ 2 _ S0 [0, 4] _ (hS.below (below_then hb17 hbD (Nat.le_refl _))) (by omega) (ints2 w7 0 4 _ rfl) l2).mono ?_
  rintro e w8 ⟨rfl, hb8⟩
  rw [s0_corner]
  have hb18 := below_then (below_then hb17 hbD (Nat.le_refl _)) hb8 (Nat.le_refl _)
  have hbE1 := (Below.refl w8.heap.size w8).alloc (Nat.le_refl _) (.cells #[.int .i64 2, .int .i64 1] 3)
  have hbE := hbE1.alloc hbE1.size (.cells #[.int .i64 1, .int .i64 1] 3)
  go_wp2_with fail
  refine (covers_any _ _ 2 2 _ _ [2, 1] [1, 1] _ ((ints2 w8 2 1 _ rfl).alloc _) (ints2 (w8.alloc (.cells #[.int .i64 2, .int .i64 1] 3)) 1 1 (w8.heap.size + 1) (by simp)) l2 l2).mono ?_
  rintro e w9 ⟨rfl, q9, rfl⟩
  rw [s0_c1]
  have hb19 := below_drewN (below_then hb18 hbE (Nat.le_refl _)) q9
  generalize World.drewN _ q9 = w9 at *
  have hbF1 := (Below.refl w9.heap.size w9).alloc (Nat.le_refl _) (.cells #[.int .i64 2, .int .i64 0] 3)
  have hbF := hbF1.alloc hbF1.size (.cells #[.int .i64 1, .int .i64 1] 3)
  go_wp2_with fail
  refine (covers_any _ _ 2 2 _ _ [2, 0] [1, 1] _ ((ints2 w9 2 0 _ rfl).alloc _) (ints2 (w9.alloc (.cells #[.int .i64 2, .int .i64 0] 3)) 1 1 (w9.heap.size + 1) (by simp)) l2 l2).mono ?_
  rintro e w10 ⟨rfl, q10, rfl⟩
  rw [s0_c2]
  go_wp2
  go_ret
  exact ⟨rfl, below_drewN (below_then hb1 (below_then hb19 hbF (Nat.le_refl _)) (Nat.le_refl _)) q10⟩
end Go.Proofs.Ytojmkbhihnnmaaa
