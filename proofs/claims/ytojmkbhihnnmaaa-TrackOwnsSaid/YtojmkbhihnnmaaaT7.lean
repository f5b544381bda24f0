/-
  The track: commands and entries put behind bytes; which entries are plain.
-/
import Derived.Test.YtojmkbhihnnmaaaT6
namespace Go.Proofs.Ytojmkbhihnnmaaa
open Go.RowKit

def numB (n least : Int) : Bool := decide (least ≤ n) && decide (n ≤ 1099511627776)
theorem snumber_any (n least : Int) (w : World) : Calls Try.prog 94 #[.int .i64 n, .int .i64 least] w fun e w' => e = .returned (.bool (numB n least)) ∧ w = w' := by
  unfold numB
  by_cases h : least ≤ n
  · go_enter Try.func94, Try.ntmps94
    go_wp2_with fail
    go_ret
    exact ⟨by simp [h], rfl⟩
  · go_enter Try.func94, Try.ntmps94
    go_wp2_with fail
    go_ret
    exact ⟨by simp; omega, rfl⟩
def cmdV (e : En) (v : Value) : Value := .agg #[.int .i64 e.op, .int .i64 e.sess, .int .i64 e.seq, v]
def enV (e : En) (v : Value) : Value := .agg #[.int .i64 e.idx, .int .i64 e.term, .int .i64 e.op, .int .i64 e.sess, .int .i64 e.seq, v]
def cmdE (e : En) : Int := if e.op < 0 ∨ 3 < e.op then 24 else if (numB e.sess 0 && numB e.seq 0) = false then 1 else putE e.facts
def entE (e : En) : Int := if (numB e.idx 1 && numB e.term 1) = false then 1 else cmdE e
def plainB (e : En) : Bool := decide (entE e = 0)
/-- an ending with a code -/
def Res (r : Int) (w : World) (e : Ending) (w' : World) : Prop := ∃ v', e = .returned (.tuple #[v', .int .i64 r]) ∧ Below w.heap.size w w'
theorem cmdE_op {e : En} (h : e.op < 0 ∨ 3 < e.op) : cmdE e = 24 := if_pos h
theorem cmdE_num {e : En} (h : ¬ (e.op < 0 ∨ 3 < e.op)) (h' : (numB e.sess 0 && numB e.seq 0) = false) : cmdE e = 1 := by unfold cmdE; rw [if_neg h, if_pos h']
theorem cmdE_put {e : En} (h : ¬ (e.op < 0 ∨ 3 < e.op)) (h1 : numB e.sess 0 = true) (h2 : numB e.seq 0 = true) : cmdE e = putE e.facts := by unfold cmdE; rw [if_neg h, h1, h2]; rfl
set_option maxRecDepth 100000 in
theorem putcmd_any (S : Nat → Prop) (v : Value) (m : Nat) (x : En) (A : Option Addr) (n c : Nat) (w : World) (hv : Bn w v m) (hm : m ≤ 9000) (hf : FactsV S w (.slice A n c) x.facts) (hn : n ≤ maxLen) :
    Calls Try.prog 95 #[v, cmdV x (.slice A n c)] w (Res (cmdE x) w) := by
  unfold cmdV
  have hbA : Below w.heap.size w (w.alloc (.cells #[.int .i64 x.op, .int .i64 x.sess, .int .i64 x.seq, .slice A n c] 52)) := (Below.refl _ _).alloc (Nat.le_refl _) _
  have hblk := Blk.new w 52 #[.int .i64 x.op, .int .i64 x.sess, .int .i64 x.seq, .slice A n c]
  have hc0 := hblk.cell 0
  have hc1 := hblk.cell 1
  have hc2 := hblk.cell 2
  have hc3 := hblk.cell 3
  simp only [List.getElem?_toArray, List.getElem?_cons_zero, List.getElem?_cons_succ] at hc0 hc1 hc2 hc3
  have hv1 := hv.below hbA
  have hf1 := hf.keep (Stay.below (S := S) hbA)
  by_cases h0 : x.op < 0 ∨ 3 < x.op
  · have hE := Lib.hid (cmdE_op h0)
    by_cases hneg : x.op < 0
    · go_enter Try.func95, Try.ntmps95
      go_wp2_with fail
      go_ret2
      exact ⟨_, by rw [hE.out]; rfl, hbA⟩
    · have h3 : 3 < x.op := by omega
      clear h0
      have h0 : (decide (x.op < 0) || decide (3 < x.op)) = true := by simp; omega
      go_enter Try.func95, Try.ntmps95
      go_wp2_with fail
      go_ret2
      exact ⟨_, by rw [hE.out]; rfl, hbA⟩
  · have h00 : (decide (x.op < 0) || decide (3 < x.op)) = false := by simp; omega
    have ha : 0 ≤ x.op := by omega
    have hb : x.op ≤ 3 := by omega
    have hE1 := Lib.hid (fun h => cmdE_num (e := x) h0 h)
    have hE2 := Lib.hid (fun h h' => cmdE_put (e := x) h0 h h')
    clear h0
    cases hs : numB x.sess 0 with
    | false =>
      have hE := Lib.hid (hE1.out (by rw [hs]; rfl))
      go_enter Try.func95, Try.ntmps95
      go_wp2_with fail
      refine (snumber_any _ _ _).mono ?_
      rintro e w1 ⟨rfl, rfl⟩
      rw [hs]
      go_wp2_with fail
      go_ret2
      exact ⟨_, by rw [hE.out]; rfl, hbA⟩
    | true =>
      cases hq : numB x.seq 0 with
      | false =>
        have hE := Lib.hid (hE1.out (by rw [hs, hq]; rfl))
        go_enter Try.func95, Try.ntmps95
        go_wp2_with fail
        refine (snumber_any _ _ _).mono ?_
        rintro e w1 ⟨rfl, rfl⟩
        rw [hs]
        go_wp2_with fail
        refine (snumber_any _ _ _).mono ?_
        rintro e w1 ⟨rfl, rfl⟩
        rw [hq]
        go_wp2_with fail
        go_ret2
        exact ⟨_, by rw [hE.out]; rfl, hbA⟩
      | true =>
        have hE := Lib.hid (hE2.out hs hq)
        go_enter Try.func95, Try.ntmps95
        go_wp2_with fail
        refine (snumber_any _ _ _).mono ?_
        rintro e w1 ⟨rfl, rfl⟩
        rw [hs]
        go_wp2_with fail
        refine (snumber_any _ _ _).mono ?_
        rintro e w1 ⟨rfl, rfl⟩
        rw [hq]
        go_wp2_with fail
        generalize w.alloc (.cells #[.int .i64 x.op, .int .i64 x.sess, .int .i64 x.seq, .slice A n c] 52) = w1 at *
        generalize hgg : w.heap.size = g at *
        have k0 := after_cell (B := w1.heap.size) hc0 hblk.lt
        have k1 := after_cell (B := w1.heap.size) hc1 hblk.lt
        have k2 := after_cell (B := w1.heap.size) hc2 hblk.lt
        have k3 := after_cell (B := w1.heap.size) hc3 hblk.lt
        refine wp_region_mix (C := laterW w1.heap.size w1) [([0, 1, 2, 4, 5, 7, 8, 10, 11], 3), ([], 6), ([], 9), ([], 12)] [13, 14, 15, 16] (by kernel_rfl) (by kernel_rfl) (fun _ _ _ _ e h => ⟨e.symm.trans h.1, h.2⟩) (laterW_of (Below.refl _ _).drew) ?_
        refine wpSegs_step fun K1 hK1 => ?_
        simp only [pickL, List.getElem?_cons_zero, List.getElem?_cons_succ]
        repeat (go_big_quiet_step (fail))
        refine wpQuiet_nil ?_
        go_wp2_with fail
        have hv1d : Bn w1.drew v m := hv1
        refine (putint_any v m _ _ hv1d (by omega)).mono ?_
        rintro e w2 ⟨v2, n2, rfl, hy2, hn2, hb2⟩
        have hb2 : Below w1.heap.size w1 w2 := (below_drewN (Below.refl w1.heap.size w1) 1).trans hb2
        go_wp2_with fail
        refine ⟨laterW_of hb2, hK1 _ _ ?_⟩
        refine wpSegs_step fun K2 hK2 => ?_
        simp only [pickL, List.getElem?_cons_zero, List.getElem?_cons_succ]
        repeat (go_big_quiet_step (fail))
        refine wpQuiet_nil ?_
        go_wp2_with fail
        refine (putint_any v2 n2 _ _ hy2.bn (by omega)).mono ?_
        rintro e w3 ⟨v3, n3, rfl, hy3, hn3, hb3⟩
        have hb3 := below_then hb2 hb3 (Nat.le_refl _)
        go_wp2_with fail
        refine ⟨laterW_of hb3, hK2 _ _ ?_⟩
        refine wpSegs_step fun K3 hK3 => ?_
        simp only [pickL, List.getElem?_cons_zero, List.getElem?_cons_succ]
        repeat (go_big_quiet_step (fail))
        refine wpQuiet_nil ?_
        go_wp2_with fail
        refine (putint_any v3 n3 _ _ hy3.bn (by omega)).mono ?_
        rintro e w4 ⟨v4, n4, rfl, hy4, hn4, hb4⟩
        have hb4 := below_then hb3 hb4 (Nat.le_refl _)
        go_wp2_with fail
        refine ⟨laterW_of hb4, hK3 _ _ ?_⟩
        refine wpSegs_step fun K4 hK4 => ?_
        simp only [pickL, List.getElem?_cons_zero, List.getElem?_cons_succ]
        repeat (go_big_quiet_step (fail))
        refine wpQuiet_nil ?_
        go_wp2_with fail
        refine (bput_any S v4 n4 _ _ _ _ _ hy4.bn (by omega) (hf1.keep (Stay.below hb4)) hn).mono ?_
        rintro e w5 ⟨v5, rfl, hb5⟩
        have hb5 := below_then hb4 hb5 (Nat.le_refl _)
        go_wp2_with fail
        refine ⟨laterW_of hb5, hK4 _ _ ?_⟩
        refine wpSegs_last ?_
        simp only [pickL, List.getElem?_cons_zero, List.getElem?_cons_succ]
        repeat (go_big_quiet_step (fail))
        refine wpQuiet_nil ?_
        go_wp2_with fail
        go_ret2
        exact ⟨_, by rw [hE.out]; rfl, by rw [hgg]; exact hbA.trans (hb5.mono (by have := hbA.size; omega))⟩
theorem entE_num {e : En} (h : (numB e.idx 1 && numB e.term 1) = false) : entE e = 1 := by unfold entE; rw [if_pos h]
theorem entE_cmd {e : En} (h1 : numB e.idx 1 = true) (h2 : numB e.term 1 = true) : entE e = cmdE e := by unfold entE; rw [h1, h2]; rfl
set_option maxRecDepth 100000 in
theorem putentry_any (S : Nat → Prop) (v : Value) (m : Nat) (x : En) (A : Option Addr) (n c : Nat) (w : World) (hv : Bn w v m) (hm : m ≤ 8000) (hf : FactsV S w (.slice A n c) x.facts) (hn : n ≤ maxLen) :
    Calls Try.prog 87 #[v, enV x (.slice A n c)] w (Res (entE x) w) := by
  unfold enV
  have hbA : Below w.heap.size w (w.alloc (.cells #[.int .i64 x.idx, .int .i64 x.term, .int .i64 x.op, .int .i64 x.sess, .int .i64 x.seq, .slice A n c] 65)) := (Below.refl _ _).alloc (Nat.le_refl _) _
  have hblk := Blk.new w 65 #[.int .i64 x.idx, .int .i64 x.term, .int .i64 x.op, .int .i64 x.sess, .int .i64 x.seq, .slice A n c]
  have hc0 := hblk.cell 0
  have hc1 := hblk.cell 1
  have hc2 := hblk.cell 2
  have hc3 := hblk.cell 3
  have hc4 := hblk.cell 4
  have hc5 := hblk.cell 5
  simp only [List.getElem?_toArray, List.getElem?_cons_zero, List.getElem?_cons_succ] at hc0 hc1 hc2 hc3 hc4 hc5
  have hv1 := hv.below hbA
  have hf1 := hf.keep (Stay.below (S := S) hbA)
  cases hs : numB x.idx 1 with
  | false =>
    have hE := Lib.hid (entE_num (e := x) (by rw [hs]; rfl))
    go_enter Try.func87, Try.ntmps87
    go_wp2_with fail
    refine (snumber_any _ _ _).mono ?_
    rintro e w1 ⟨rfl, rfl⟩
    rw [hs]
    go_wp2_with fail
    go_ret2
    exact ⟨_, by rw [hE.out]; rfl, hbA⟩
  | true =>
    cases hq : numB x.term 1 with
    | false =>
      have hE := Lib.hid (entE_num (e := x) (by rw [hs, hq]; rfl))
      go_enter Try.func87, Try.ntmps87
      go_wp2_with fail
      refine (snumber_any _ _ _).mono ?_
      rintro e w1 ⟨rfl, rfl⟩
      rw [hs]
      go_wp2_with fail
      refine (snumber_any _ _ _).mono ?_
      rintro e w1 ⟨rfl, rfl⟩
      rw [hq]
      go_wp2_with fail
      go_ret2
      exact ⟨_, by rw [hE.out]; rfl, hbA⟩
    | true =>
      have hE := Lib.hid (entE_cmd hs hq)
      go_enter Try.func87, Try.ntmps87
      go_wp2_with fail
      refine (snumber_any _ _ _).mono ?_
      rintro e w1 ⟨rfl, rfl⟩
      rw [hs]
      go_wp2_with fail
      refine (snumber_any _ _ _).mono ?_
      rintro e w1 ⟨rfl, rfl⟩
      rw [hq]
      go_wp2_with fail
      generalize w.alloc (.cells #[.int .i64 x.idx, .int .i64 x.term, .int .i64 x.op, .int .i64 x.sess, .int .i64 x.seq, .slice A n c] 65) = w1 at *
      generalize hgg : w.heap.size = g at *
      have k0 := after_cell (B := w1.heap.size) hc0 hblk.lt
      have k1 := after_cell (B := w1.heap.size) hc1 hblk.lt
      have k2 := after_cell (B := w1.heap.size) hc2 hblk.lt
      have k3 := after_cell (B := w1.heap.size) hc3 hblk.lt
      have k4 := after_cell (B := w1.heap.size) hc4 hblk.lt
      have k5 := after_cell (B := w1.heap.size) hc5 hblk.lt
      refine wp_region_mix (C := laterW w1.heap.size w1) [([0, 1, 2, 4, 5, 7, 8], 3), ([], 6), ([], 9)] [10, 11, 12, 13] (by kernel_rfl) (by kernel_rfl) (fun _ _ _ _ e h => ⟨e.symm.trans h.1, h.2⟩) (laterW_of (Below.refl _ _).drew) ?_
      refine wpSegs_step fun K1 hK1 => ?_
      simp only [pickL, List.getElem?_cons_zero, List.getElem?_cons_succ]
      repeat (go_big_quiet_step (fail))
      refine wpQuiet_nil ?_
      go_wp2_with fail
      have hv1d : Bn w1.drew v m := hv1
      refine (putint_any v m _ _ hv1d (by omega)).mono ?_
      rintro e w2 ⟨v2, n2, rfl, hy2, hn2, hb2⟩
      have hb2 : Below w1.heap.size w1 w2 := (below_drewN (Below.refl w1.heap.size w1) 1).trans hb2
      go_wp2_with fail
      refine ⟨laterW_of hb2, hK1 _ _ ?_⟩
      refine wpSegs_step fun K2 hK2 => ?_
      simp only [pickL, List.getElem?_cons_zero, List.getElem?_cons_succ]
      repeat (go_big_quiet_step (fail))
      refine wpQuiet_nil ?_
      go_wp2_with fail
      refine (putint_any v2 n2 _ _ hy2.bn (by omega)).mono ?_
      rintro e w3 ⟨v3, n3, rfl, hy3, hn3, hb3⟩
      have hb3 := below_then hb2 hb3 (Nat.le_refl _)
      go_wp2_with fail
      refine ⟨laterW_of hb3, hK2 _ _ ?_⟩
      refine wpSegs_step fun K3 hK3 => ?_
      simp only [pickL, List.getElem?_cons_zero, List.getElem?_cons_succ]
      repeat (go_big_quiet_step (fail))
      refine wpQuiet_nil ?_
      go_wp2_with fail
      refine (putcmd_any S v3 n3 x _ _ _ _ hy3.bn (by omega) (hf1.keep (Stay.below hb3)) hn).mono ?_
      rintro e w5 ⟨v5, rfl, hb5⟩
      have hb5 := below_then hb3 hb5 (Nat.le_refl _)
      go_wp2_with fail
      refine ⟨laterW_of hb5, hK3 _ _ ?_⟩
      refine wpSegs_last ?_
      simp only [pickL, List.getElem?_cons_zero, List.getElem?_cons_succ]
      repeat (go_big_quiet_step (fail))
      refine wpQuiet_nil ?_
      go_wp2_with fail
      go_ret2
      exact ⟨_, by rw [hE.out]; rfl, by rw [hgg]; exact hbA.trans (hb5.mono (by have := hbA.size; omega))⟩
theorem plainB_eq {x : En} {k : Int} (h : entE x = k) : plainB x = (k == 0) := by
  unfold plainB
  rw [h]
  rw [Bool.eq_iff_iff, decide_eq_true_eq, beq_iff_eq]
theorem tplain_any (S : Nat → Prop) (x : En) (A : Option Addr) (n c : Nat) (w : World) (hf : FactsV S w (.slice A n c) x.facts) (hn : n ≤ maxLen) :
    Calls Try.prog 74 #[enV x (.slice A n c)] w fun e w' => e = .returned (.bool (plainB x)) ∧ Below w.heap.size w w' := by
  have hbA : Below w.heap.size w (w.alloc (.cells #[.int .i64 x.idx, .int .i64 x.term, .int .i64 x.op, .int .i64 x.sess, .int .i64 x.seq, .slice A n c] 65)) := (Below.refl _ _).alloc (Nat.le_refl _) _
  have hcall := putentry_any S (.slice none 0 0) 0 x A n c (w.alloc (.cells #[.int .i64 x.idx, .int .i64 x.term, .int .i64 x.op, .int .i64 x.sess, .int .i64 x.seq, .slice A n c] 65)) (Bn.nil _) (by omega) (hf.keep (Stay.below (S := S) hbA)) hn
  unfold enV at *
  obtain ⟨k, hk⟩ : ∃ k, entE x = k := ⟨_, rfl⟩
  have hP := Lib.hid (plainB_eq hk)
  rw [hk] at hcall
  clear hk
  go_enter Try.func74, Try.ntmps74
  go_wp2_with fail
  refine hcall.mono ?_
  rintro e w1 ⟨v1, rfl, hb1⟩
  have hb1 := below_then hbA hb1 (Nat.le_refl _)
  go_wp2_with fail
  go_ret
  exact ⟨by rw [hP.out]; rfl, hb1⟩
end Go.Proofs.Ytojmkbhihnnmaaa
