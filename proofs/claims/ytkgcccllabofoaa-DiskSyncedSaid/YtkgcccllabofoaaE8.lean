/-
  The disk's answer: Crash.
-/
import Derived.Test.YtkgcccllabofoaaE7
namespace Go.Proofs.Ytkgcccllabofoaa
open Go.RowKit Go.Maps

def crashL (R : Rt) (keep torn : Int) : FL :=
  match R.done[restF keep (R.done.length + 1)]? with
  | none => doAllL R.last (R.done.take (restF keep (R.done.length + 1)))
  | some x => if x.kind = 0 ∧ 0 < restF torn (x.data.length + 1) then doesL (doAllL R.last (R.done.take (restF keep (R.done.length + 1)))) (tornF x torn) else doAllL R.last (R.done.take (restF keep (R.done.length + 1)))
def Rt.crash (R : Rt) (keep torn : Int) : Rt := ⟨crashL R keep torn, [], none⟩
theorem crashL_ok (R : Rt) (keep torn : Int) (h : srt (nms R.last)) : lookL (crashL R keep torn) = crashG R.st keep torn ∧ srt (nms (crashL R keep torn)) ∧ (crashL R keep torn).length ≤ R.last.length + R.done.length := by
  have hk := look_all R.last h (R.done.take (restF keep (R.done.length + 1)))
  have hl := doAllL_len R.last (R.done.take (restF keep (R.done.length + 1)))
  rw [List.length_take] at hl
  unfold crashL crashG
  show lookL (match R.done[restF keep (R.done.length + 1)]? with | none => _ | some x => _) = (match R.done[restF keep (R.done.length + 1)]? with | none => _ | some x => _) ∧ _
  cases hd : R.done[restF keep (R.done.length + 1)]? with
  | none => exact ⟨hk.1, hk.2, by show (doAllL _ _).length ≤ _; omega⟩
  | some x =>
    have hlt := (List.getElem?_eq_some_iff.1 hd).1
    simp only []
    split
    · have h2 := doesL_len (doAllL R.last (R.done.take (restF keep (R.done.length + 1)))) (tornF x torn)
      exact ⟨by rw [look_does _ hk.2, hk.1]; rfl, srt_does _ hk.2 _, by omega⟩
    · exact ⟨hk.1, hk.2, by omega⟩
theorem rcrash_fin {z : Zb} {g c n2 c2 m cq : Nat} {w : World} {A2 A : Option Addr} {ys2 : List FV} {L2 : FL} {vl : Value} {fs : Bool} {left : Int} (hB : Blk w g 38 (rfCells vl A m cq fs left)) (hF : FilesV z w A2 n2 c2 ys2 L2) (hs : srt (nms L2)) (hl : L2.length ≤ c) (hlo : z.b ≤ g) :
    ((w.frozen? ⟨g, 0, none⟩ = false ∧ w.cell? ⟨g, 0, none⟩ = some vl) ∧
     ((w.setCell ⟨g, 0, none⟩ (.slice A2 n2 c2)).frozen? ⟨g, 1, none⟩ = false ∧ (w.setCell ⟨g, 0, none⟩ (.slice A2 n2 c2)).cell? ⟨g, 1, none⟩ = some (.slice A m cq)) ∧
     (((w.setCell ⟨g, 0, none⟩ (.slice A2 n2 c2)).setCell ⟨g, 1, none⟩ (.slice none 0 0)).frozen? ⟨g, 2, none⟩ = false ∧ ((w.setCell ⟨g, 0, none⟩ (.slice A2 n2 c2)).setCell ⟨g, 1, none⟩ (.slice none 0 0)).cell? ⟨g, 2, none⟩ = some (.bool fs)) ∧
     ((((w.setCell ⟨g, 0, none⟩ (.slice A2 n2 c2)).setCell ⟨g, 1, none⟩ (.slice none 0 0)).setCell ⟨g, 2, none⟩ (.bool false)).frozen? ⟨g, 3, none⟩ = false ∧ (((w.setCell ⟨g, 0, none⟩ (.slice A2 n2 c2)).setCell ⟨g, 1, none⟩ (.slice none 0 0)).setCell ⟨g, 2, none⟩ (.bool false)).cell? ⟨g, 3, none⟩ = some (.int .i64 left))) ∧
    RefAt z ((((w.setCell ⟨g, 0, none⟩ (.slice A2 n2 c2)).setCell ⟨g, 1, none⟩ (.slice none 0 0)).setCell ⟨g, 2, none⟩ (.bool false)).setCell ⟨g, 3, none⟩ (.int .i64 0)) g c ⟨L2, [], none⟩ ∧
    Chg z.b TR w ((((w.setCell ⟨g, 0, none⟩ (.slice A2 n2 c2)).setCell ⟨g, 1, none⟩ (.slice none 0 0)).setCell ⟨g, 2, none⟩ (.bool false)).setCell ⟨g, 3, none⟩ (.int .i64 0)) := by
  have hB1 := hB.set_ 0 (.slice A2 n2 c2)
  have hB2 := hB1.set_ 1 (.slice none 0 0)
  have hB3 := hB2.set_ 2 (.bool false)
  have hB4 := hB3.set_ 3 (.int .i64 0)
  exact ⟨⟨⟨hB.free 0, hB.cell 0⟩, ⟨hB1.free 1, hB1.cell 1⟩, ⟨hB2.free 2, hB2.cell 2⟩, hB3.free 3, hB3.cell 3⟩, ⟨A2, n2, c2, ys2, none, 0, 0, 0, [], hB4, fun k h => (by cases h), (((hF.set hB _).set hB1 _).set hB2 _).set hB3 _, own_nil _ _, rfl, fun p hp => (by cases hp), hl, trivial, hs, hlo⟩, ((chg_set hB rfl _).trans (chg_set hB1 rfl _)).trans ((chg_set hB2 rfl _).trans (chg_set hB3 rfl _))⟩
section
variable {z : Zb} {g c : Nat} {R : Rt} {w : World}
set_option maxRecDepth 100000 in
set_option maxHeartbeats 2000000 in
theorem refcrash_any (keep torn : Int) (h1 : -9223372036854775808 ≤ keep) (h2 : keep ≤ 9223372036854775807) (h3 : -9223372036854775808 ≤ torn) (h4 : torn ≤ 9223372036854775807) (hD : RefAt z w g c R) (hz : z.z < w.heap.size) (hc : c ≤ 100000) :
    Calls Try.prog 38 #[.pointer (some ⟨g, 0, none⟩), .int .i64 keep, .int .i64 torn] w fun e w' => e = .returned (.tuple #[]) ∧ RefAt z w' g c (R.crash keep torn) ∧ Chg z.b TR w w' := by
  obtain ⟨A, n, cp, ys, B, m, cq, left, xs, hI⟩ := hD
  have hlen := hI.len
  have hcc := hI.c
  have hcr := crashL_ok R keep torn hI.s
  have hsrt := hcr.2.1
  have hlenC : (crashL R keep torn).length ≤ c := Nat.le_trans hcr.2.2 hcc
  clear hcr
  have hmc : m ≤ 100000 := by omega
  have hnc : n ≤ 100000 := by omega
  have hnl : n ≤ R.last.length := by omega
  have hml : m = R.done.length := by omega
  have hml := Lib.hid hml
  clear hlen
  have c0 := hI.b.cell 0
  have c1 := hI.b.cell 1
  simp only [rfCells, List.getElem?_toArray, List.getElem?_cons_zero, List.getElem?_cons_succ] at c0 c1
  have hkl := restF_lt keep (m := R.done.length + 1) (by omega)
  have hL0 : FilesV z w A n cp ys (doAllL R.last (R.done.take 0)) := hI.l
  have HC := Lib.hid (show R.crash keep torn = ⟨crashL R keep torn, [], none⟩ from rfl)
  have HG : crashL R keep torn = match R.done[restF keep (R.done.length + 1)]? with
  | none => doAllL R.last (R.done.take (restF keep (R.done.length + 1)))
  | some x => if x.kind = 0 ∧ 0 < restF torn (x.data.length + 1) then doesL (doAllL R.last (R.done.take (restF keep (R.done.length + 1)))) (tornF x torn) else doAllL R.last (R.done.take (restF keep (R.done.length + 1))) := rfl
  generalize hk : restF keep (R.done.length + 1) = k at *
  have hk := Lib.hid hk
  have hkm : k ≤ m := by have := hml.out; omega
  have HG := Lib.hid HG
  go_enter Try.func38, Try.ntmps38
  go_wp2_with fail
  refine (refrest_at (m := m + 1) (by omega) h1 h2 (by omega) (by omega)).mono ?_
  rintro e w1 ⟨rfl, rfl⟩
  rw [show restF keep (m + 1) = k by rw [hml.out]; exact hk.out]
  go_wp2_with fail
  go_loopw [6, 7] (fun l i wr => ∃ (q : Nat) (A' : Option Addr) (n' c' : Nat) (ys' : List FV), q ≤ k ∧ i = .int .i64 q ∧ l = .slice A' n' c' ∧ FilesV z wr A' n' c' ys' (doAllL R.last (R.done.take q)) ∧ Below w.heap.size w wr) (fun _ i _ => k - (intOf i).toNat)
  case atStart => exact ⟨0, A, n, cp, ys, Nat.zero_le _, rfl, rfl, hL0, Below.refl _ _⟩
  case round =>
    clear hL0 c0 c1
    obtain ⟨q, A', n', c', ys', hqk, rfl, rfl, hL, hb⟩ := hrel
    have hIw := hI.below hb
    have c1 := hIw.b.cell 1
    have c0 := hIw.b.cell 0
    simp only [rfCells, List.getElem?_toArray, List.getElem?_cons_zero, List.getElem?_cons_succ] at c0 c1
    have hn' : n' ≤ 100000 := by
      have h1 := hL.len.2
      have h2 := doAllL_len R.last (R.done.take q)
      rw [List.length_take] at h2
      have := hml.out
      omega
    have hzw : z.z < wr.heap.size := by have := hb.size; omega
    by_cases hlt : q < k
    · obtain ⟨gr, x, X, rfl, hgr, hx, hX, d0, d1, d2, d3⟩ := hIw.at_ (show q < m by omega)
      obtain ⟨Bx, mx, dx, rfl, _⟩ := id hX
      have hok := okL_at hI.s hI.ok hx
      have hnx := Lib.hid (take_doL (L := R.last) hx)
      have hqm : q < m := by omega
      have hcall := refdoes_any x (.slice Bx mx dx) hL hn' hX hzw hok
      unfold rdV at hcall
      clear hx hok
      go_wp2_with fail
      refine hcall.mono ?_
      rintro e w2 ⟨⟨A2, n2, c2, ys2, rfl, hL2⟩, hb2⟩
      go_wp2_with fail
      go_roundw
      case rel => exact ⟨q + 1, A2, n2, c2, ys2, hlt, by go_num, rfl, by rw [hnx.out]; exact hL2, hb.trans (hb2.mono hb.size)⟩
      case measure => simp [intOf]; omega
    · obtain rfl : q = k := by omega
      clear hlt hqk
      rcases Nat.lt_or_ge q m with hqn | hqn
      · obtain ⟨gr, x, X, rfl, hgr, hx, hX, d0, d1, d2, d3⟩ := hIw.at_ hqn
        obtain ⟨Bx, mx, dx, rfl, _⟩ := id hX
        have hok := okL_at hI.s hI.ok hx
        have hok0 := okAll_at hI.ok hx
        have HG := HG.out
        rw [hx] at HG
        simp only [] at HG
        have hxln := hX.len
        have hxm := hX.get.2
        unfold maxLen at hxm
        have hbA : Below wr.heap.size wr (wr.alloc (.cells #[.int .i64 (x.kind : Nat), .string x.name, .slice Bx mx dx, .int .i64 (x.n : Nat)] 85)) := (Below.refl _ _).alloc (Nat.le_refl _) _
        have hbx := Blk.new wr 85 #[.int .i64 (x.kind : Nat), .string x.name, .slice Bx mx dx, .int .i64 (x.n : Nat)]
        have hxl2 : mx ≤ 1048576 := by have := hok.len; omega
        have htl := restF_lt torn (m := x.data.length + 1) (by omega)
        have hX1 := hX.below hbA
        have hL1 := hL.below hbA
        have hbw1 := hb.trans (hbA.mono hb.size)
        generalize hwA : wr.alloc (.cells #[.int .i64 (x.kind : Nat), .string x.name, .slice Bx mx dx, .int .i64 (x.n : Nat)] 85) = w1 at *
        have hwA := Lib.hid hwA
        have hgx := hbx.lt
        have xc0 := hbx.cell 0
        have xc2 := hbx.cell 2
        have xf2 := hbx.free 2
        simp only [List.getElem?_toArray, List.getElem?_cons_zero, List.getElem?_cons_succ] at xc0 xc2
        clear hx
        go_wp2_with fail
        refine (refrest_at (m := x.data.length + 1) (by omega) h3 h4 (by omega) (by omega)).mono ?_
        rintro e w2 ⟨rfl, rfl⟩
        generalize ht : restF torn (x.data.length + 1) = t at *
        by_cases hkt : x.kind = 0 ∧ 0 < t
        · rw [if_pos hkt] at HG
          have HG := Lib.hid HG
          obtain ⟨hk0, ht0⟩ := hkt
          have e0 : ((x.kind : Int) == 0) = true := by rw [hk0]; rfl
          have htm : t ≤ mx := by omega
          have htd : t ≤ dx := by omega
          have ht := Lib.hid ht
          have hbB : Below wr.heap.size wr (w1.setCell ⟨wr.heap.size, 2, none⟩ (.slice Bx t dx)) := hbA.setCell (Nat.le_refl _) _
          have hbx2 := hbx.set_ 2 (.slice Bx t dx)
          have hX2 := (hX.below hbB).cut htm
          have hL2 := hL.below hbB
          have hbw2 := hb.trans (hbB.mono hb.size)
          have hdata : (tornF x torn).data = x.data.take t := by unfold tornF; rw [ht.out]
          have hokT : OkD (lookL (doAllL R.last (R.done.take q))) (tornF x torn) := ⟨hok.k, fun _ => by
            have h1 := hok.app hk0
            have h2 : (x.data.take (restF torn (x.data.length + 1))).length ≤ x.data.length := by rw [List.length_take]; omega
            show _ + (x.data.take (restF torn (x.data.length + 1))).length ≤ _
            have h3 : (tornF x torn).name = x.name := rfl
            rw [h3]; omega, fun h => absurd (hk0.symm.trans h) (by omega), hok.name, by show (x.data.take _).length ≤ _; rw [List.length_take]; have := hok.len; omega⟩
          have hzw2 : z.z < (w1.setCell ⟨wr.heap.size, 2, none⟩ (.slice Bx t dx)).heap.size := by have := hbw2.size; omega
          have hcall := refdoes_any (tornF x torn) (.slice Bx t dx) hL2 hn' (by rw [hdata]; exact hX2) hzw2 hokT
          unfold rdV at hcall
          rw [show (tornF x torn).name = x.name from rfl, show (tornF x torn).kind = x.kind from rfl, show (tornF x torn).n = x.n from rfl] at hcall
          have b0 := hbx2.cell 0
          have b1 := hbx2.cell 1
          have b2 := hbx2.cell 2
          have b3 := hbx2.cell 3
          simp only [List.getElem?_toArray, List.getElem?_cons_zero, List.getElem?_cons_succ, List.setIfInBounds_toArray, List.set_cons_zero, List.set_cons_succ] at b0 b1 b2 b3
          have HGk := Lib.hid hk0
          clear hk0 hokT hX2 hL2
          go_wp2_with fail
          refine hcall.mono ?_
          rintro e w5 ⟨⟨A5, n5, c5, ys5, rfl, hL5⟩, hb5⟩
          have hbw5 := hbw2.trans (hb5.mono hbw2.size)
          obtain ⟨⟨⟨y1, y2⟩, ⟨y3, y4⟩, ⟨y5, y6⟩, y7, y8⟩, hR⟩ := rcrash_fin (c := c) (hI.b.kept hbw5) hL5 (by rw [← HG.out]; exact hsrt) (by rw [← HG.out]; exact hlenC) hI.lo
          have hR := Lib.hid hR
          have hch : Chg z.b TR w _ := Chg.of_below hbw5
          go_wp2_with fail
          exact bodyPost_end0' rfl rfl ⟨rfl, by rw [HC.out, HG.out]; exact hR.out.1, hch.trans hR.out.2⟩
        · rw [if_neg hkt] at HG
          have HG := Lib.hid HG
          rcases (show x.kind ≠ 0 ∨ (x.kind = 0 ∧ t = 0) by omega) with hk0 | ⟨hk0, ht0⟩
          · have e0 : ((x.kind : Int) == 0) = false := beq_eq_false_iff_ne.2 (by omega)
            clear hkt hk0 ht
            obtain ⟨⟨⟨y1, y2⟩, ⟨y3, y4⟩, ⟨y5, y6⟩, y7, y8⟩, hR⟩ := rcrash_fin (c := c) (hI.b.kept hbw1) hL1 (by rw [← HG.out]; exact hsrt) (by rw [← HG.out]; exact hlenC) hI.lo
            have hR := Lib.hid hR
            have hch : Chg z.b TR w _ := Chg.of_below hbw1
            go_wp2_with fail
            exact bodyPost_end0' rfl rfl ⟨rfl, by rw [HC.out, HG.out]; exact hR.out.1, hch.trans hR.out.2⟩
          · have e0 : ((x.kind : Int) == 0) = true := by rw [hk0]; rfl
            rw [ht0]
            clear hkt hk0 ht ht0 htl
            obtain ⟨⟨⟨y1, y2⟩, ⟨y3, y4⟩, ⟨y5, y6⟩, y7, y8⟩, hR⟩ := rcrash_fin (c := c) (hI.b.kept hbw1) hL1 (by rw [← HG.out]; exact hsrt) (by rw [← HG.out]; exact hlenC) hI.lo
            have hR := Lib.hid hR
            have hch : Chg z.b TR w _ := Chg.of_below hbw1
            go_wp2_with fail
            exact bodyPost_end0' rfl rfl ⟨rfl, by rw [HC.out, HG.out]; exact hR.out.1, hch.trans hR.out.2⟩
      · have hG : crashL R keep torn = doAllL R.last (R.done.take q) := by
          rw [HG.out]
          rw [List.getElem?_eq_none (by have := hml.out; omega)]
        have hG := Lib.hid hG
        obtain rfl : q = m := by omega
        obtain ⟨⟨⟨y1, y2⟩, ⟨y3, y4⟩, ⟨y5, y6⟩, y7, y8⟩, hR⟩ := rcrash_fin (c := c) (hI.b.kept hb) hL (by rw [← hG.out]; exact hsrt) (by rw [← hG.out]; exact hlenC) hI.lo
        have hR := Lib.hid hR
        have hch : Chg z.b TR w _ := Chg.of_below hb
        go_wp2_with fail
        exact bodyPost_end0' rfl rfl ⟨rfl, by rw [HC.out, hG.out]; exact hR.out.1, hch.trans hR.out.2⟩
end
end Go.Proofs.Ytkgcccllabofoaa
