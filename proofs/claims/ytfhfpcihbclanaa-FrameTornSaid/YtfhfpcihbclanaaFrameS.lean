/-
  The laws of the frames: their walks (Scan).
-/
import Derived.Test.YtfhfpcihbclanaaFrameL
namespace Go.Proofs.Ytfhfpcihbclanaa
open Go.RowKit

/-- a slice of one frame -/
theorem RdF.one {w : World} {g : Nat} {T : TypeId} {k : Nat} {B : Option Addr} {body : List UInt8} {c : Nat} (hb : Blk w g T #[.int .i64 (k : Nat), .slice B body.length c]) (hr : Rd w B body.length body) (h1 : body.length ≤ c) (h2 : c ≤ maxLen) :
    RdF w (some ⟨g, 0, none⟩) 1 [⟨k, body⟩] := by
  refine ⟨[⟨⟨k, body⟩, B, c⟩], rfl, ⟨rfl, fun _ => ⟨_, rfl, fun j u hu => ?_⟩⟩, fun y hy => ?_⟩
  · have e1 : (⟨g, 0, none⟩ : Addr).add j = ⟨g, j, none⟩ := by unfold Addr.add; split <;> simp [*]
    rw [e1, hb.cell j, ← hu]
    simp [lies, Lie.cells, Lie.val]
  · rw [List.mem_singleton.1 hy]
    exact ⟨hr, h1, h2⟩

theorem scan_len (l : List UInt8) : (scanF l).frames.length ≤ l.length := by
  suffices h : ∀ k l, (scanR k l).frames.length ≤ k from h _ _
  intro k
  induction k with
  | zero => intro l; simp [scanR]
  | succ k ih =>
    intro l
    unfold scanR
    split
    · simp
    · split
      · have := ih (l.drop (getF l).size)
        simp; omega
      · simp

theorem frameScans_any (A : Option Addr) (n c : Nat) (l : List UInt8) (w : World) (hl : Rd w A n l) (hnc : n ≤ c) (hc : c ≤ maxLen) :
    Calls Try.prog 10 #[.slice A n c] w fun e w' => e = .returned (.bool true) ∧ Below w.heap.size w w' := by
  go_enter Try.func10, Try.ntmps10
  go_wp2_with fail
  refine (few3_any A n c 2000 l _ hl (by omega) hnc (by unfold maxLen; omega)).mono ?_
  rintro e w' ⟨⟨n', rfl, hn1, hn2, hl'⟩, rfl⟩
  generalize l.take 2000 = l' at *
  have hsl := scan_len l'
  rw [hl'.len] at hsl
  obtain ⟨⟨k, body, s, x⟩, hg⟩ : ∃ g, getF l' = g := ⟨_, rfl⟩
  obtain ⟨⟨fs, s2, x2⟩, hsc⟩ : ∃ g, scanF l' = g := ⟨_, rfl⟩
  rw [hsc] at hsl
  have Hg := Lib.hid hg
  have Hsc := Lib.hid hsc
  clear hg hsc hl
  go_wp2_with fail
  refine (get_any _ _ _ _ _ hl' (by omega) (by omega) hc).mono ?_
  intro e w1 hgo
  obtain ⟨B1, c1, rfl, hown1, hb1⟩ := hgo.form Hg.out
  clear hgo
  have hm1 := own_bounds hown1
  have hb12 := (Below.refl w1.heap.size w1).alloc (Nat.le_refl _) (.cells #[.int .i64 (k : Nat), .slice B1 body.length c1] 43)
  have hb02 := below_then hb1 hb12 (Nat.le_refl _)
  have hblk2 := Blk.new w1 43 #[.int .i64 (k : Nat), .slice B1 body.length c1]
  go_wp2_with fail
  refine (refget_any _ _ _ _ _ (hl'.below hb02) (by omega) (by omega) hc).mono ?_
  intro e w3 hgo
  obtain ⟨B3, c3, rfl, hown3, hb3⟩ := hgo.form Hg.out
  clear hgo
  have hm3 := own_bounds hown3
  have hblk3 := hblk2.kept hb3
  have hblk4 := hblk3.alloc (.cells #[.int .i64 (k : Nat), .slice B3 body.length c3] 46)
  have q0 : (w3.alloc (.cells #[.int .i64 (k : Nat), .slice B3 body.length c3] 46)).cell? ⟨w1.heap.size, 0, none⟩ = some (.int .i64 (k : Nat)) := hblk4.cell 0
  have q1 : (w3.alloc (.cells #[.int .i64 (k : Nat), .slice B3 body.length c3] 46)).cell? ⟨w1.heap.size, 1, none⟩ = some (.slice B1 body.length c1) := hblk4.cell 1
  have hblk5 := (Blk.new w3 46 #[.int .i64 (k : Nat), .slice B3 body.length c3]).alloc (.cells #[.int .i64 (k : Nat), .slice B1 body.length c1] 43)
  have q2 : ((w3.alloc (.cells #[.int .i64 (k : Nat), .slice B3 body.length c3] 46)).alloc (.cells #[.int .i64 (k : Nat), .slice B1 body.length c1] 43)).cell? ⟨w3.heap.size, 0, none⟩ = some (.int .i64 (k : Nat)) := hblk5.cell 0
  have q3 : ((w3.alloc (.cells #[.int .i64 (k : Nat), .slice B3 body.length c3] 46)).alloc (.cells #[.int .i64 (k : Nat), .slice B1 body.length c1] 43)).cell? ⟨w3.heap.size, 1, none⟩ = some (.slice B3 body.length c3) := hblk5.cell 1
  go_wp2_with fail
  have hr1 := (((((Rd.of_own hown1).below hb12).below hb3).alloc (.cells #[.int .i64 (k : Nat), .slice B3 body.length c3] 46)).alloc (.cells #[.int .i64 (k : Nat), .slice B1 body.length c1] 43)).alloc (.cells #[.int .i64 (k : Nat), .slice B3 body.length c3] 46)
  have hr3 := (((Rd.of_own hown3).alloc (.cells #[.int .i64 (k : Nat), .slice B3 body.length c3] 46)).alloc (.cells #[.int .i64 (k : Nat), .slice B1 body.length c1] 43)).alloc (.cells #[.int .i64 (k : Nat), .slice B3 body.length c3] 46)
  have hk1 := (Blk.new (w3.alloc (.cells #[.int .i64 (k : Nat), .slice B3 body.length c3] 46)) 43 #[.int .i64 (k : Nat), .slice B1 body.length c1]).alloc (.cells #[.int .i64 (k : Nat), .slice B3 body.length c3] 46)
  have hk3 := Blk.new ((w3.alloc (.cells #[.int .i64 (k : Nat), .slice B3 body.length c3] 46)).alloc (.cells #[.int .i64 (k : Nat), .slice B1 body.length c1] 43)) 46 #[.int .i64 (k : Nat), .slice B3 body.length c3]
  have hf1 := RdF.one hk1 hr1 hm1.1 hm1.2
  have hf3 := RdF.one hk3 hr3 hm3.1 hm3.2
  have hb36 := (((Below.refl w3.heap.size w3).alloc (Nat.le_refl _) (.cells #[.int .i64 (k : Nat), .slice B3 body.length c3] 46)).alloc (by simp) (.cells #[.int .i64 (k : Nat), .slice B1 body.length c1] 43)).alloc (by simp; omega) (.cells #[.int .i64 (k : Nat), .slice B3 body.length c3] 46)
  have hb06 := below_then (below_then hb02 hb3 (Nat.le_refl _)) hb36 (Nat.le_refl _)
  have hs1 : (w3.alloc (.cells #[.int .i64 (k : Nat), .slice B3 body.length c3] 46)).heap.size = w3.heap.size + 1 := by simp
  have hs2 : ((w3.alloc (.cells #[.int .i64 (k : Nat), .slice B3 body.length c3] 46)).alloc (.cells #[.int .i64 (k : Nat), .slice B1 body.length c1] 43)).heap.size = w3.heap.size + 1 + 1 := by simp
  rw [hs1] at hf1; rw [hs2] at hf3
  generalize ((w3.alloc (.cells #[.int .i64 (k : Nat), .slice B3 body.length c3] 46)).alloc (.cells #[.int .i64 (k : Nat), .slice B1 body.length c1] 43)).alloc (.cells #[.int .i64 (k : Nat), .slice B3 body.length c3] 46) = w6 at *
  clear hr1 hr3 hk1 hk3 q0 q1 q2 q3 hblk2 hblk3 hblk4 hblk5 hb36 hown1 hown3 hb12 hb3 hb02 hb1 hs1 hs2
  refine (same_fr _ _ _ _ _ _ _ _ _ hf1 hf3 (by unfold maxLen; omega) (by unfold maxLen; omega)).mono ?_
  rintro e w7 ⟨rfl, q, rfl⟩
  simp only [decide_true]
  have hb07 := below_drewN hb06 q
  generalize w6.drewN q = w7 at *
  clear hf1 hf3 hb06
  go_wp2_with fail
  refine (scan_any _ _ _ _ _ (hl'.below hb07) (by omega) (by omega) hc).mono ?_
  rintro e w8 ⟨A8, c8, rfl, hown8, hb8⟩
  rw [Hsc.out] at hown8 ⊢
  have hb08 := below_then hb07 hb8 (Nat.le_refl _)
  go_wp2_with fail
  refine (refscan_any _ _ _ _ _ (hl'.below hb08) (by omega) (by omega) hc).mono ?_
  rintro e w9 ⟨A9, c9, rfl, hown9, hb9⟩
  rw [Hsc.out] at hown9 ⊢
  have hb09 := below_then hb08 hb9 (Nat.le_refl _)
  go_wp2_with fail
  refine (same_fr _ _ _ _ _ _ _ _ _ (hown8.below hb9).reads hown9.reads (maxLen_big (k := 2000) (by show fs.length ≤ 2000; omega) (by omega)) (maxLen_big (k := 2000) (by show fs.length ≤ 2000; omega) (by omega))).mono ?_
  rintro e w10 ⟨rfl, q2, rfl⟩
  simp only [decide_true]
  have hb010 := below_drewN hb09 q2
  generalize w9.drewN q2 = w10 at *
  clear hown8 hown9 hb8 hb9 hb07 hb08 hb09
  go_wp2_with fail
  refine (lives3_any _).mono ?_; rintro e w' ⟨rfl, hb3⟩
  go_wp2
  go_ret
  exact ⟨rfl, hb010.trans (hb3.mono hb010.size)⟩
end Go.Proofs.Ytfhfpcihbclanaa
