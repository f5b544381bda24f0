/-
  The law: deeds done to both; DiskPlays; DiskAll.
-/
import Derived.Test.YtkgcccllabofoaaF4
namespace Go.Proofs.Ytkgcccllabofoaa
open Go.RowKit Go.Maps

def R0 : Rt := ⟨[], [], none⟩
theorem ref_new {z : Zb} {w : World} (hzb : z.b ≤ w.heap.size) : RefAt z (w.alloc (.cells #[.slice none 0 0, .slice none 0 0, .bool false, .int .i64 0] 38)) w.heap.size 0 R0 :=
  ⟨none, 0, 0, [], none, 0, 0, 0, [], Blk.new _ _ _, fun k h => (by cases h), FilesV.nil _ _, own_nil _ _, rfl, fun p hp => (by cases hp), Nat.le_refl _, trivial, List.Pairwise.nil, hzb⟩
theorem st_new : St.new = R0.st := rfl
/-- the numbers of a law: what is handed in lies below b -/
structure Law0 (z : Zb) (w : World) : Prop where
  zl : z.z ≤ w.heap.size
  bl : z.b ≤ w.heap.size
theorem pair_new {z : Zb} {w w1 : World} {g : Nat} (h : Law0 z w) (hg : w.heap.size ≤ g) (hD : DiskAt z w1 g 0 St.new) (hb : Below w.heap.size w w1) :
    Pair z (w1.alloc (.cells #[.slice none 0 0, .slice none 0 0, .bool false, .int .i64 0] 38)) g w1.heap.size 0 R0 ∧ Chg z.b TB w (w1.alloc (.cells #[.slice none 0 0, .slice none 0 0, .bool false, .int .i64 0] 38)) := by
  have h1 : Below w1.heap.size w1 (w1.alloc (.cells #[.slice none 0 0, .slice none 0 0, .bool false, .int .i64 0] 38)) := (Below.refl _ _).alloc (Nat.le_refl _) _
  have hlt := hD.lt
  have hs := h1.size
  have hz := h.zl
  have hb' := h.bl
  rw [st_new] at hD
  exact ⟨⟨hD.below h1, ref_new (by omega), List.Pairwise.nil, by omega, by omega⟩, (Chg.of_below hb).trans (Chg.of_below h1)⟩
set_option maxRecDepth 100000 in
theorem both_any {z : Zb} {w : World} {A : Option Addr} {n c : Nat} {ys : List (Value × Ld)} (m : Nat) (hZ : Law0 z w) (hL : LdsV z w A n ys) (hm : m ≤ 1000) :
    Calls Try.prog 29 #[.slice A n c, .int .i64 m] w fun e w' => ∃ gd gr R, e = .returned (.tuple #[.pointer (some ⟨gd, 0, none⟩), .pointer (some ⟨gr, 0, none⟩), .bool true]) ∧ Pair z w' gd gr m R ∧ Chg z.b TB w w' := by
  go_enter Try.func29, Try.ntmps29
  go_wp2_with fail
  refine (new_any z w hZ.bl).mono ?_
  rintro e w1 ⟨g, rfl, hg, hD1, hb1⟩
  obtain ⟨hP2, hc2⟩ := pair_new hZ hg hD1 hb1
  go_wp2_with fail
  generalize w1.alloc (.cells #[.slice none 0 0, .slice none 0 0, .bool false, .int .i64 0] 38) = w2 at *
  generalize w1.heap.size = gr at *
  go_loopw [9] (fun i wr => ∃ k : Nat, k ≤ n ∧ k ≤ m ∧ i = .int .i64 k ∧ (∃ R, Pair z wr g gr k R) ∧ Chg z.b TB w wr) (fun i _ => n - (intOf i).toNat)
  case atStart => exact ⟨0, Nat.zero_le _, Nat.zero_le _, rfl, ⟨_, hP2⟩, hc2⟩
  case round =>
    obtain ⟨k, hk, hkm, rfl, ⟨R, hP⟩, hc⟩ := hrel
    by_cases hlt : k < n ∧ k < m
    · obtain ⟨hlt, hlt2⟩ := hlt
      obtain ⟨ad, X, x, rfl, hy, hX, hx, d0, d1, d2, d3, d4⟩ := (hL.chg hc TB_u8).at_ hlt
      have hcall := lawdoes_any x X hx hP hX (by omega)
      obtain ⟨Bx, mx, dx, rfl, _⟩ := id hX
      unfold ldV at hcall
      go_wp2_with fail
      refine hcall.mono ?_
      rintro e w3 ⟨rfl, hP3, hc3⟩
      go_wp2_with fail
      go_roundw
      case rel => exact ⟨k + 1, hlt, hlt2, by go_num, ⟨_, hP3⟩, hc.trans hc3⟩
      case measure => simp [intOf]; omega
    · have hPm := hP.more (c' := m) hkm
      rcases (show ¬ k < n ∨ (k < n ∧ ¬ k < m) by omega) with h | ⟨h, h'⟩
      all_goals
        go_wp2_with fail
        refine bodyPost_ret (v := .tuple #[.pointer (some ⟨g, 0, none⟩), .pointer (some ⟨gr, 0, none⟩), .bool true]) (by simp [results, Try.results29, go_sem]) rfl ?_
        exact ⟨g, gr, R, rfl, hPm, hc⟩
set_option maxRecDepth 100000 in
theorem plays_any {z : Zb} {w : World} {A : Option Addr} {n c : Nat} {ys : List (Value × Ld)} (hZ : Law0 z w) (hL : LdsV z w A n ys) :
    Calls Try.prog 8 #[.slice A n c] w fun e w' => e = .returned (.bool true) ∧ Chg z.b TB w w' := by
  go_enter Try.func8, Try.ntmps8
  go_wp2_with fail
  refine (new_any z w hZ.bl).mono ?_
  rintro e w1 ⟨g, rfl, hg, hD1, hb1⟩
  obtain ⟨hP2, hc2⟩ := pair_new hZ hg hD1 hb1
  go_wp2_with fail
  generalize w1.alloc (.cells #[.slice none 0 0, .slice none 0 0, .bool false, .int .i64 0] 38) = w2 at *
  generalize w1.heap.size = gr at *
  go_loopw [5] (fun i wr => ∃ k : Nat, k ≤ n ∧ k ≤ 60 ∧ i = .int .i64 k ∧ (∃ R, Pair z wr g gr k R) ∧ Chg z.b TB w wr) (fun i _ => n - (intOf i).toNat)
  case atStart => exact ⟨0, Nat.zero_le _, Nat.zero_le _, rfl, ⟨_, hP2⟩, hc2⟩
  case round =>
    obtain ⟨k, hk, hkm, rfl, ⟨R, hP⟩, hc⟩ := hrel
    by_cases hlt : k < n ∧ k < 60
    · obtain ⟨hlt, hlt2⟩ := hlt
      obtain ⟨ad, X, x, rfl, hy, hX, hx, d0, d1, d2, d3, d4⟩ := (hL.chg hc TB_u8).at_ hlt
      have hcall := lawdoes_any x X hx hP hX (by omega)
      obtain ⟨Bx, mx, dx, rfl, _⟩ := id hX
      unfold ldV at hcall
      go_wp2_with fail
      refine hcall.mono ?_
      rintro e w3 ⟨rfl, hP3, hc3⟩
      go_wp2_with fail
      refine (like_any hP3 (by omega)).mono ?_
      rintro e w4 ⟨rfl, hb4⟩
      have hP4 := hP3.below hb4
      go_wp2_with fail
      go_roundw
      case rel => exact ⟨k + 1, hlt, hlt2, by go_num, ⟨_, hP4⟩, (hc.trans hc3).trans (Chg.of_below hb4)⟩
      case measure => simp [intOf]; omega
    · rcases (show ¬ k < n ∨ (k < n ∧ ¬ k < 60) by omega) with h | ⟨h, h'⟩
      all_goals
        go_wp2_with fail
        refine (lives_any _).mono ?_
        rintro e w5 ⟨rfl, hb5⟩
        go_wp2_with fail
        go_ret
        exact ⟨rfl, hc.trans (Chg.of_below hb5)⟩
theorem crash_all {R : Rt} : R.crash (R.done.length : Nat) 0 = ⟨R.files, [], none⟩ := by
  have hk : restF (R.done.length : Nat) (R.done.length + 1) = R.done.length := by
    unfold restF
    rw [if_neg (by omega), Int.emod_eq_of_lt (by omega) (by omega)]
    omega
  unfold Rt.crash crashL
  rw [hk, List.getElem?_eq_none (Nat.le_refl _), List.take_of_length_le (Nat.le_refl _)]
  rfl
set_option maxRecDepth 100000 in
theorem all_any {z : Zb} {w : World} {A : Option Addr} {n c : Nat} {ys : List (Value × Ld)} (hZ : Law0 z w) (hL : LdsV z w A n ys) :
    Calls Try.prog 10 #[.slice A n c] w fun e w' => e = .returned (.bool true) ∧ Chg z.b TB w w' := by
  go_enter Try.func10, Try.ntmps10
  go_wp2_with fail
  refine (both_any 40 hZ hL (by omega)).mono ?_
  rintro e w1 ⟨g, gr, R, rfl, hP1, hc1⟩
  go_wp2_with fail
  refine (pending_any hP1.d).mono ?_
  rintro e w2 ⟨rfl, rfl⟩
  have hlen : R.done.length ≤ 40 := by
    obtain ⟨An, nn, cp, ys', B, m, cq, left, xs, hI⟩ := hP1.r
    have := hI.c
    omega
  have hcall := crash_any (R.done.length : Nat) 0 (by omega) (by omega) (by omega) (by omega) hP1.d hP1.zl (by omega)
  rw [st_crash hP1.s, crash_all] at hcall
  rw [show R.st.done.length = R.done.length from rfl]
  have hlen := Lib.hid hlen
  go_wp2_with fail
  refine hcall.mono ?_
  rintro e w3 ⟨rfl, hD3, hc3⟩
  have hr3 := hP1.r.chgP hc3
  have hz3 := hc3.size
  have hz1 := hP1.zl
  have hrcall := refcrash_any (R.done.length : Nat) 0 (by have := hlen.out; omega) (by have := hlen.out; omega) (by omega) (by omega) hr3 (by omega) (by omega)
  rw [crash_all] at hrcall
  obtain ⟨An, nn, cp, ys', B, m, cq, left, xs, hI⟩ := id hr3
  have r1 := hI.b.cell 1
  simp only [rfCells, List.getElem?_toArray, List.getElem?_cons_zero, List.getElem?_cons_succ] at r1
  have hmd := Lib.hid hI.len.1
  rw [← hI.len.1] at hrcall
  go_wp2_with fail
  refine hrcall.mono ?_
  rintro e w4 ⟨rfl, hR4, hc4⟩
  have hP4 : Pair z w4 g gr 40 ⟨R.files, [], none⟩ := ⟨hD3.chgR hc4, hR4, hR4.srt, by have := hc4.size; omega, by have := hc4.size; have := hP1.bl; omega⟩
  have hc14 := hc1.trans (hc3.P.trans hc4.R)
  clear hI hr3 hrcall hcall
  go_wp2_with fail
  refine (like_any hP4 (by omega)).mono ?_
  rintro e w5 ⟨rfl, hb5⟩
  have hP5 := hP4.below hb5
  go_wp2_with fail
  refine (files_any hP5.r hP5.zl (by omega)).mono ?_
  rintro e w6 ⟨⟨A6, n6, c6, ys6, rfl, hF6⟩, hb6⟩
  have hP6 := hP5.below hb6
  have hlist := list_u hP6 (by omega)
  rw [show lq ⟨R.files, [], none⟩ = 0 from rfl, show ll ⟨R.files, [], none⟩ = nms R.files from rfl] at hlist
  have hl6 := hF6.len.2
  rw [show (Rt.files ⟨R.files, [], none⟩) = R.files from rfl] at hl6
  go_wp2_with fail
  refine hlist.mono ?_
  rintro e w7 ⟨A7, n7, c7, rfl, hown7, hn7, hb7⟩
  have h76 : n7 = n6 := by
    have := hown7.1
    simp [nms] at this
    omega
  subst h76
  have hP7 := hP6.below hb7
  have hpe := pending_any hP7.d
  rw [show (Rt.st ⟨R.files, [], none⟩).done.length = 0 from rfl] at hpe
  clear hl6 hown7 hF6
  go_wp2_with fail
  refine hpe.mono ?_
  rintro e w8 ⟨rfl, rfl⟩
  go_wp2_with fail
  refine (lives_any _).mono ?_
  rintro e w9 ⟨rfl, hb9⟩
  go_wp2_with fail
  go_ret
  exact ⟨rfl, (((hc14.trans (Chg.of_below hb5)).trans (Chg.of_below hb6)).trans (Chg.of_below hb7)).trans (Chg.of_below hb9)⟩
end Go.Proofs.Ytkgcccllabofoaa
