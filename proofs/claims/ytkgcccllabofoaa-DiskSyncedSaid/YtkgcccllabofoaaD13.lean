/-
  The disk: New, Sync, Fuse.
-/
import Derived.Test.YtkgcccllabofoaaD12
namespace Go.Proofs.Ytkgcccllabofoaa
open Go.RowKit Go.Maps

def St.new : St := ⟨fun _ => none, [], none⟩
def St.sync (S : St) : Nat × St := if S.fuse = some 0 then (30, S) else (0, ⟨S.files, [], S.burn.fuse⟩)
def St.setFuse (S : St) (n : Int) : Nat × St := if 0 ≤ n ∧ n ≤ 1099511627776 then (0, { S with fuse := some (match S.fuse with | none => n.toNat | some k => min n.toNat k) }) else (1, S)
theorem same_b {z b k : Nat} {G : FS} {w : World} (hG : MapB z w b k G) : Calls Try.prog 57 #[.map (some b)] w fun e w' => ∃ g, e = .returned (.map (some g)) ∧ w.heap.size ≤ g ∧ MapB z w' g k G ∧ Below w.heap.size w w' := by
  obtain ⟨F, hF, h1, h2⟩ := hG
  refine (same_any b k F w hF).mono ?_
  rintro e w' ⟨g, rfl, hg, hm, hb⟩
  refine ⟨g, rfl, hg, ⟨F, hm, h1, fun s l hs => ?_⟩, hb⟩
  obtain ⟨v, h3, h4, h5⟩ := h2 s l hs
  exact ⟨v, h3, h4.below hb, h5⟩
section
variable {z : Zb} {g c : Nat} {S : St} {w : World}
set_option maxRecDepth 100000 in
theorem new_any (z : Zb) (w : World) (hzb : z.b ≤ w.heap.size) : Calls Try.prog 25 #[] w fun e w' => ∃ g, e = .returned (.pointer (some ⟨g, 0, none⟩)) ∧ w.heap.size ≤ g ∧ DiskAt z w' g 0 St.new ∧ Below w.heap.size w w' := by
  have hm0 := MapB.made z w
  have hb0 := (Below.refl w.heap.size w).alloc (Nat.le_refl _) (.map #[] 0)
  have hs0 : (w.alloc (.map #[] 0)).heap.size = w.heap.size + 1 := by simp
  have hm1 := MapB.made z (w.alloc (.map #[] 0))
  have hb1 := (Below.refl (w.alloc (.map #[] 0)).heap.size (w.alloc (.map #[] 0))).alloc (Nat.le_refl _) (.map #[] 0)
  have hb2 := (Below.refl ((w.alloc (.map #[] 0)).alloc (.map #[] 0)).heap.size ((w.alloc (.map #[] 0)).alloc (.map #[] 0))).alloc (Nat.le_refl _) (.cells #[.map (some w.heap.size), .map (some (w.alloc (.map #[] 0)).heap.size), .slice none 0 0, .bool false, .int .i64 0] 74)
  have hB := Blk.new ((w.alloc (.map #[] 0)).alloc (.map #[] 0)) 74 #[.map (some w.heap.size), .map (some (w.alloc (.map #[] 0)).heap.size), .slice none 0 0, .bool false, .int .i64 0]
  have hs1 : ((w.alloc (.map #[] 0)).alloc (.map #[] 0)).heap.size = w.heap.size + 2 := by simp
  have hf0 := (hm0.below hb1).below hb2
  have hf1 := hm1.below hb2
  have hbb := below_then (below_then hb0 hb1 (Nat.le_refl _)) hb2 (Nat.le_refl _)
  go_enter Try.func25, Try.ntmps25
  go_wp2_with fail
  rw [show (Instr.makeMap 71 none).run Try.prog w = .ok (.map (some w.heap.size)) (w.alloc (.map #[] 0)) from rfl]
  go_wp2_with fail
  rw [show (Instr.makeMap 71 none).run Try.prog (w.alloc (.map #[] 0)) = .ok (.map (some (w.alloc (.map #[] 0)).heap.size)) ((w.alloc (.map #[] 0)).alloc (.map #[] 0)) from rfl]
  rw [hs0] at *
  go_wp2_with fail
  go_ret
  rw [hs1] at hB
  refine ⟨w.heap.size + 2, rfl, by omega, ⟨w.heap.size, w.heap.size + 1, none, 0, 0, 0, [], hB, fun k h => (by cases h), by omega, hf0, hf1, own_nil _ _, rfl, fun p hp => (by cases hp), Nat.le_refl _, trivial, by omega, hzb, by omega⟩, hbb⟩
set_option maxRecDepth 100000 in
theorem sync_any (hD : DiskAt z w g c S) : Calls Try.prog 30 #[.pointer (some ⟨g, 0, none⟩)] w (Told z g c w S.sync) := by
  have hD0 := hD
  obtain ⟨bl, bf, A, n, cp, left, xs, hI⟩ := hD
  go_enter Try.func30, Try.ntmps30
  go_wp2_with fail
  refine (down_any hI.b).mono ?_
  rintro e w1 ⟨rfl, rfl⟩
  rw [hI.down]
  by_cases h0 : S.fuse = some 0
  · have hA := Lib.hid (show S.sync = (30, S) by unfold St.sync; rw [if_pos h0])
    rw [decide_eq_true h0]
    clear h0
    go_wp2_with fail
    go_ret
    exact ⟨by rw [hA.out]; rfl, by rw [hA.out]; exact hD0, Chg.refl _ _ _⟩
  · have hA := Lib.hid (show S.sync = (0, ⟨S.files, [], S.burn.fuse⟩) by unfold St.sync; rw [if_neg h0])
    rw [decide_eq_false h0]
    have hleft := burn_left hI.f h0
    have h0 := Lib.hid h0
    go_wp2_with fail
    refine (burn_any hI.b (fun h => ?_)).mono ?_
    · cases hs : S.fuse with
      | none => rw [hs] at h; cases h
      | some k =>
        have h1 := hI.f k hs
        have h2 : k ≠ 0 := fun e => h0.out (by rw [hs, e])
        omega
    rintro e w2 ⟨rfl, hB2, hg2⟩
    obtain ⟨hml2, hmf2, ho2, hv2⟩ := hI.at_ hg2
    generalize (if S.fuse.isSome = true then left - 1 else left) = left2 at *
    obtain ⟨hlo1, hlo2, hlo3⟩ := hI.lo
    have hc2 := chg_of_grown (base := z.b) hg2 hI.b rfl
    have h1 := hB2.cell 1
    simp only [dkCells, List.getElem?_toArray, List.getElem?_cons_zero, List.getElem?_cons_succ] at h1
    go_wp2_with fail
    refine (same_b hmf2).mono ?_
    rintro e w3 ⟨gn, rfl, hgn, hmn, hb3⟩
    have hB3 := hB2.kept hb3
    have hmf3 := hmf2.below hb3
    have f0 := hB3.free 0
    have c0 := hB3.cell 0
    have hB4 := hB3.set_ 0 (.map (some gn))
    have hB5 := hB4.set_ 2 (.slice none 0 0)
    have f2 := hB4.free 2
    have c2 := hB4.cell 2
    have hne : gn ≠ bf := by have := hmf2.lt; omega
    simp only [dkCells, List.getElem?_toArray, List.getElem?_cons_zero, List.getElem?_cons_succ, List.setIfInBounds_toArray, List.set_cons_zero, List.set_cons_succ] at c0 c2 hB4 hB5
    have hfin : DiskAt z ((w3.setCell ⟨g, 0, none⟩ (.map (some gn))).setCell ⟨g, 2, none⟩ (.slice none 0 0)) g c ⟨S.files, [], S.burn.fuse⟩ := by
      refine ⟨gn, bf, none, 0, 0, left2, [], ?_, hleft, hne, mapB_struct hB4 (grown_cell _ _ _ _) (mapB_struct hB3 (grown_cell _ _ _ _) hmn), mapB_struct hB4 (grown_cell _ _ _ _) (mapB_struct hB3 (grown_cell _ _ _ _) hmf3), own_nil _ _, rfl, fun p hp => (by cases hp), Nat.zero_le _, trivial, hlo1, by have := hI.b.lt; have := hg2.size; omega, hlo3⟩
      rw [show (St.mk S.files [] S.burn.fuse).fuse.isSome = S.fuse.isSome from burn_some S]
      exact hB5
    have hch := (hc2.trans (Chg.of_below hb3)).trans ((chg_set (i := 0) hB3 rfl (.map (some gn))).trans (chg_set (i := 2) hB4 rfl (.slice none 0 0)))
    have hfin := Lib.hid hfin
    go_wp2_with fail
    go_ret
    exact ⟨by rw [hA.out]; rfl, by rw [hA.out]; exact hfin.out, hch⟩
set_option maxRecDepth 100000 in
theorem fuse_any (k : Int) (hD : DiskAt z w g c S) : Calls Try.prog 40 #[.pointer (some ⟨g, 0, none⟩), .int .i64 k] w (Told z g c w (S.setFuse k)) := by
  have hD0 := hD
  obtain ⟨bl, bf, A, n, cp, left, xs, hI⟩ := hD
  have h3 := hI.b.cell 3
  have h4 := hI.b.cell 4
  have f3 := hI.b.free 3
  have hlo := hI.lo.1
  simp only [dkCells, List.getElem?_toArray, List.getElem?_cons_zero, List.getElem?_cons_succ] at h3 h4
  by_cases hk : 0 ≤ k ∧ k ≤ 1099511627776
  · have hset : ∀ u : Int, ∀ q : Nat, S.setFuse k = (0, { S with fuse := some q }) → u = q → q ≤ 1099511627776 →
        Told z g c w (S.setFuse k) (.returned (.int .i64 0)) ((w.setCell ⟨g, 3, none⟩ (.bool true)).setCell ⟨g, 4, none⟩ (.int .i64 u)) := fun u q he hu hq => by
      have hB4 := hI.b.set_ 3 (.bool true)
      have hB5 := hB4.set_ 4 (.int .i64 u)
      refine ⟨by rw [he]; rfl, ?_, (chg_set (i := 3) hI.b rfl (.bool true)).trans (chg_set (i := 4) hB4 rfl (.int .i64 u))⟩
      rw [he]
      obtain ⟨h1, h2, h3, h4⟩ := hI.at_ (grown_cell w g 3 (.bool true))
      exact ⟨bl, bf, A, n, cp, u, xs, hB5, fun k h => by injection h with h; omega, hI.ne, mapB_struct hB4 (grown_cell _ _ _ _) h1, mapB_struct hB4 (grown_cell _ _ _ _) h2, own_struct hB4 (grown_cell _ _ _ _) h3 (by decide), hI.d, fun p hp => bytes_struct hB4 (grown_cell _ _ _ _) (h4 p hp), hI.c, hI.ok, hI.lo⟩
    have hse : S.setFuse k = (0, { S with fuse := some (match S.fuse with | none => k.toNat | some q => min k.toNat q) }) := by unfold St.setFuse; rw [if_pos hk]
    obtain ⟨hk1, hk2⟩ := hk
    have hB4 := hI.b.set_ 3 (.bool true)
    have f4 := hB4.free 4
    have c4 := hB4.cell 4
    simp only [dkCells, List.getElem?_toArray, List.getElem?_cons_zero, List.getElem?_cons_succ, List.setIfInBounds_toArray, List.set_cons_zero, List.set_cons_succ] at c4
    cases hs : S.fuse with
    | none =>
      rw [hs] at h3 hse
      have hR := hset k k.toNat hse (by omega) (by omega)
      have hR := Lib.hid hR
      clear hset hse hs
      go_enter Try.func40, Try.ntmps40
      go_wp2_with fail
      go_ret
      exact hR.out
    | some q =>
      rw [hs] at h3 hse
      obtain ⟨hl, hq⟩ := hI.f q hs
      have Hset := Lib.hid hset
      have Hse := Lib.hid hse
      clear hset hse hs
      go_enter Try.func40, Try.ntmps40
      go_wp2_with fail
      all_goals
        go_ret
        exact Hset.out _ _ Hse.out (by omega) (by omega)
  · have hA := Lib.hid (show S.setFuse k = (1, S) by unfold St.setFuse; rw [if_neg hk])
    have hR : Told z g c w (S.setFuse k) (.returned (.int .i64 1)) w := ⟨by rw [hA.out]; rfl, by rw [hA.out]; exact hD0, Chg.refl _ _ _⟩
    rcases (show k < 0 ∨ (0 ≤ k ∧ 1099511627776 < k) by omega) with hk | ⟨hk, hk'⟩
    all_goals
      go_enter Try.func40, Try.ntmps40
      go_wp2_with fail
      go_ret
      exact hR
end
end Go.Proofs.Ytkgcccllabofoaa
