/-
  The disk's answer: Sync, SetFuse, List.
-/
import Derived.Test.YtkgcccllabofoaaE6
namespace Go.Proofs.Ytkgcccllabofoaa
open Go.RowKit Go.Maps

def Rt.sync (R : Rt) : Nat × Rt := if R.fuse = some 0 then (30, R) else (0, ⟨R.files, [], R.burn.fuse⟩)
def Rt.setFuse (R : Rt) (n : Int) : Nat × Rt := if 0 ≤ n ∧ n ≤ 1099511627776 then (0, { R with fuse := some (match R.fuse with | none => n.toNat | some k => min n.toNat k) }) else (1, R)
theorem FilesV.set {z n c g i : Nat} {w : World} {A : Option Addr} {ys : List FV} {L : FL} {cs : Array Value} (h : FilesV z w A n c ys L) (hB : Blk w g 38 cs) (v : Value) : FilesV z (w.setCell ⟨g, i, none⟩ v) A n c ys L :=
  h.kept fun j o hj ho => ref_struct hB (grown_cell w g i v) hj (fun cs e => by
    rcases ho with ⟨cs', rfl⟩ | ⟨_, cs', fz, rfl⟩
    · injection e with _ e; cases e
    · injection e with _ e; cases e)
theorem sync_fin {z : Zb} {g c n2 c2 : Nat} {w : World} {A2 : Option Addr} {ys2 : List FV} {L2 : FL} {vl B : Value} {A : Option Addr} {m cq : Nat} {fs : Bool} {left : Int} {fu : Option Nat} (hB : Blk w g 38 (rfCells vl A m cq fs left)) (hF : FilesV z w A2 n2 c2 ys2 L2) (hs : srt (nms L2)) (hl : L2.length ≤ c) (hfu : fu.isSome = fs) (hf : ∀ k, fu = some k → left = k ∧ k ≤ 1099511627776) (_ : B = .slice A m cq) (hlo : z.b ≤ g) :
    ((w.frozen? ⟨g, 0, none⟩ = false ∧ w.cell? ⟨g, 0, none⟩ = some vl) ∧
     ((w.setCell ⟨g, 0, none⟩ (.slice A2 n2 c2)).frozen? ⟨g, 1, none⟩ = false ∧ (w.setCell ⟨g, 0, none⟩ (.slice A2 n2 c2)).cell? ⟨g, 1, none⟩ = some (.slice A m cq))) ∧
    RefAt z ((w.setCell ⟨g, 0, none⟩ (.slice A2 n2 c2)).setCell ⟨g, 1, none⟩ (.slice none 0 0)) g c ⟨L2, [], fu⟩ ∧ Chg z.b TR w ((w.setCell ⟨g, 0, none⟩ (.slice A2 n2 c2)).setCell ⟨g, 1, none⟩ (.slice none 0 0)) := by
  have hB1 := hB.set_ 0 (.slice A2 n2 c2)
  have hB2 := hB1.set_ 1 (.slice none 0 0)
  refine ⟨⟨⟨hB.free 0, hB.cell 0⟩, hB1.free 1, hB1.cell 1⟩, ⟨A2, n2, c2, ys2, none, 0, 0, left, [], ?_, hf, (hF.set hB _).set hB1 _, own_nil _ _, rfl, fun p hp => (by cases hp), hl, trivial, hs, hlo⟩, (chg_set hB rfl _).trans (chg_set hB1 rfl _)⟩
  rw [hfu]
  exact hB2
section
variable {z : Zb} {g c : Nat} {R : Rt} {w : World}
set_option maxRecDepth 100000 in
theorem refsync_any (hD : RefAt z w g c R) (hz : z.z < w.heap.size) (hc : c ≤ 100000) : Calls Try.prog 50 #[.pointer (some ⟨g, 0, none⟩)] w (RTold z g c w R.sync) := by
  have hD0 := hD
  obtain ⟨A, n, cp, ys, B, m, cq, left, xs, hI⟩ := hD
  go_enter Try.func50, Try.ntmps50
  go_wp2_with fail
  refine (refdown_any hI.b).mono ?_
  rintro e w1 ⟨rfl, rfl⟩
  rw [hI.down]
  by_cases h0 : R.fuse = some 0
  · have hA := Lib.hid (show R.sync = (30, R) by unfold Rt.sync; rw [if_pos h0])
    rw [decide_eq_true h0]
    clear h0
    go_wp2_with fail
    go_ret
    exact ⟨by rw [hA.out]; rfl, by rw [hA.out]; exact hD0, Chg.refl _ _ _⟩
  · have hA := Lib.hid (show R.sync = (0, ⟨R.files, [], R.burn.fuse⟩) by unfold Rt.sync; rw [if_neg h0])
    rw [decide_eq_false h0]
    have hleft := rburn_left hI.f h0
    have c2 := hI.b.cell 2
    have c3 := hI.b.cell 3
    have f3 := hI.b.free 3
    simp only [rfCells, List.getElem?_toArray, List.getElem?_cons_zero, List.getElem?_cons_succ] at c2 c3
    have hfin : R.fuse.isSome = true → 0 < left ∧ left ≤ 9223372036854775807 := fun h => by
      cases hs : R.fuse with
      | none => rw [hs] at h; cases h
      | some k =>
        have h1 := hI.f k hs
        have h2 : k ≠ 0 := fun e => h0 (by rw [hs, e])
        omega
    clear h0
    have hfl : R.burn.files = R.files := rfl
    have hlen : R.files.length ≤ c := by
      have h1 := doAllL_len R.last R.done
      have h2 := hI.c
      have : R.files.length ≤ _ := h1
      omega
    have hsrt : srt (nms R.files) := (look_all R.last hI.s R.done).2
    cases hf : R.fuse.isSome with
    | false =>
      rw [hf] at c2 hleft
      have hI2 : RfIn z w g c R.burn A n cp ys B m cq left xs := ⟨by rw [rburn_some]; exact hI.b, hleft, hI.l, hI.o, hI.d, hI.v, hI.c, hI.ok, hI.s, hI.lo⟩
      have hfs : R.burn.fuse.isSome = false := by rw [rburn_some]; exact hf
      have hf := Lib.hid hf
      go_wp2_with fail
      refine (files_any hI2.get hz hc).mono ?_
      rintro e w2 ⟨⟨A2, n2, c2, ys2, rfl, hF⟩, hb2⟩
      rw [hfl] at hF
      have hB2 := hI2.b.kept hb2
      rw [hfs] at hB2
      obtain ⟨⟨⟨y1, y2⟩, y3, y4⟩, hR⟩ := sync_fin (c := c) (B := .slice B m cq) hB2 hF hsrt hlen hfs hleft rfl hI.lo
      have hR := Lib.hid hR
      have hch : Chg z.b TR w w2 := Chg.of_below hb2
      go_wp2_with fail
      go_ret
      exact ⟨by rw [hA.out]; rfl, by rw [hA.out]; exact hR.out.1, hch.trans hR.out.2⟩
    | true =>
      rw [hf] at c2 hleft
      obtain ⟨hl1, hl2⟩ := hfin hf
      have hgs := grown_cell w g 3 (.int .i64 (left - 1))
      obtain ⟨h1, h2, h3⟩ := hI.at_set hgs
      have hI2 : RfIn z (w.setCell ⟨g, 3, none⟩ (.int .i64 (left - 1))) g c R.burn A n cp ys B m cq (left - 1) xs := ⟨by rw [rburn_some]; exact hI.b.set_ 3 _, hleft, h1, h2, hI.d, h3, hI.c, hI.ok, hI.s, hI.lo⟩
      have hfs : R.burn.fuse.isSome = true := by rw [rburn_some]; exact hf
      have hf := Lib.hid hf
      have hch1 := chg_set (base := z.b) (i := 3) hI.b (T := TR) rfl (.int .i64 (left - 1)) hI.lo
      go_wp2_with fail
      refine (files_any hI2.get (by simpa using hz) hc).mono ?_
      rintro e w2 ⟨⟨A2, n2, c2, ys2, rfl, hF⟩, hb2⟩
      rw [hfl] at hF
      have hB2 := hI2.b.kept hb2
      rw [hfs] at hB2
      obtain ⟨⟨⟨y1, y2⟩, y3, y4⟩, hR⟩ := sync_fin (c := c) (B := .slice B m cq) hB2 hF hsrt hlen hfs hleft rfl hI.lo
      have hR := Lib.hid hR
      have hch := hch1.trans (Chg.of_below hb2)
      go_wp2_with fail
      go_ret
      exact ⟨by rw [hA.out]; rfl, by rw [hA.out]; exact hR.out.1, hch.trans hR.out.2⟩
set_option maxRecDepth 100000 in
theorem reffuse_any (k : Int) (hD : RefAt z w g c R) : Calls Try.prog 52 #[.pointer (some ⟨g, 0, none⟩), .int .i64 k] w (RTold z g c w (R.setFuse k)) := by
  have hD0 := hD
  obtain ⟨A, n, cp, ys, B, m, cq, left, xs, hI⟩ := hD
  have h2 := hI.b.cell 2
  have h3 := hI.b.cell 3
  have f2 := hI.b.free 2
  have hlo := hI.lo
  simp only [rfCells, List.getElem?_toArray, List.getElem?_cons_zero, List.getElem?_cons_succ] at h2 h3
  by_cases hk : 0 ≤ k ∧ k ≤ 1099511627776
  · have hset : ∀ u : Int, ∀ q : Nat, R.setFuse k = (0, { R with fuse := some q }) → u = q → q ≤ 1099511627776 →
        RTold z g c w (R.setFuse k) (.returned (.int .i64 0)) ((w.setCell ⟨g, 2, none⟩ (.bool true)).setCell ⟨g, 3, none⟩ (.int .i64 u)) := fun u q he hu hq => by
      have hB4 := hI.b.set_ 2 (.bool true)
      have hB5 := hB4.set_ 3 (.int .i64 u)
      refine ⟨by rw [he]; rfl, ?_, (chg_set (i := 2) hI.b rfl (.bool true)).trans (chg_set (i := 3) hB4 rfl (.int .i64 u))⟩
      rw [he]
      obtain ⟨h1, h2, h3⟩ := hI.at_set (grown_cell w g 2 (.bool true))
      exact ⟨A, n, cp, ys, B, m, cq, u, xs, hB5, fun k h => (by injection h with h; omega), h1.set hB4 _, own_same h2 fun j cs hj => ref_struct hB4 (grown_cell _ _ _ _) hj (fun cs e => by injection e with _ e; cases e), hI.d, fun p hp => (h3 p hp).kept fun j cs fz _ hj => ref_struct hB4 (grown_cell _ _ _ _) hj (fun cs e => by injection e with _ e; cases e), hI.c, hI.ok, hI.s, hI.lo⟩
    have hse : R.setFuse k = (0, { R with fuse := some (match R.fuse with | none => k.toNat | some q => min k.toNat q) }) := by unfold Rt.setFuse; rw [if_pos hk]
    obtain ⟨hk1, hk2⟩ := hk
    have hB4 := hI.b.set_ 2 (.bool true)
    have f3 := hB4.free 3
    have c3 := hB4.cell 3
    simp only [rfCells, List.getElem?_toArray, List.getElem?_cons_zero, List.getElem?_cons_succ, List.setIfInBounds_toArray, List.set_cons_zero, List.set_cons_succ] at c3
    cases hs : R.fuse with
    | none =>
      rw [hs] at h2 hse
      have hR := hset k k.toNat hse (by omega) (by omega)
      have hR := Lib.hid hR
      clear hset hse hs
      go_enter Try.func52, Try.ntmps52
      go_wp2_with fail
      go_ret
      exact hR.out
    | some q =>
      rw [hs] at h2 hse
      obtain ⟨hl, hq⟩ := hI.f q hs
      have Hset := Lib.hid hset
      have Hse := Lib.hid hse
      clear hset hse hs
      rcases (show left < k ∨ ¬ left < k by omega) with hlk | hlk
      all_goals
        go_enter Try.func52, Try.ntmps52
        go_wp2_with fail
        go_ret
        exact Hset.out _ _ Hse.out (by omega) (by omega)
  · have hA := Lib.hid (show R.setFuse k = (1, R) by unfold Rt.setFuse; rw [if_neg hk])
    have hR : RTold z g c w (R.setFuse k) (.returned (.int .i64 1)) w := ⟨by rw [hA.out]; rfl, by rw [hA.out]; exact hD0, Chg.refl _ _ _⟩
    rcases (show k < 0 ∨ (0 ≤ k ∧ 1099511627776 < k) by omega) with hk | ⟨hk, hk'⟩
    all_goals
      go_enter Try.func52, Try.ntmps52
      go_wp2_with fail
      go_ret
      exact hR
set_option maxRecDepth 100000 in
theorem reflist_any (hD : RefAt z w g c R) (hz : z.z < w.heap.size) (hc : c ≤ 100000) :
    Calls Try.prog 53 #[.pointer (some ⟨g, 0, none⟩)] w fun e w' =>
      ((R.fuse = some 0 ∧ e = .returned (.tuple #[.slice none 0 0, .int .i64 30])) ∨ (R.fuse ≠ some 0 ∧ ∃ A n cc, e = .returned (.tuple #[.slice A n cc, .int .i64 0]) ∧ n ≤ c ∧ w'.ownsRow w.heap.size 9 1 (.slice A n cc) n ((nms R.files).map vst))) ∧ Below w.heap.size w w' := by
  have hD0 := hD
  obtain ⟨A, n, cp, ys, B, m, cq, left, xs, hI⟩ := hD
  go_enter Try.func53, Try.ntmps53
  go_wp2_with fail
  refine (refdown_any hI.b).mono ?_
  rintro e w1 ⟨rfl, rfl⟩
  rw [hI.down]
  by_cases h0 : R.fuse = some 0
  · rw [decide_eq_true h0]
    have H0 := Lib.hid h0
    clear h0
    go_wp2_with fail
    refine bodyPost_ret (v := .tuple #[.slice none 0 0, .int .i64 30]) (by simp [results, Try.results53, go_sem]) rfl ?_
    exact ⟨.inl ⟨H0.out, rfl⟩, Below.refl _ _⟩
  · rw [decide_eq_false h0]
    have H0 := Lib.hid h0
    clear h0
    go_wp2_with fail
    refine (files_any hD0 hz hc).mono ?_
    rintro e w2 ⟨⟨A2, n2, c2, ys2, rfl, hF⟩, hb2⟩
    have hn2 := filesV_n hF hI.c
    have hfl := hF.len.2
    have hfl := Lib.hid hfl
    go_wp2_with fail
    go_loopw [5, 7] (fun v i wr => ∃ (k : Nat) (A' : Option Addr) (c' : Nat), k ≤ n2 ∧ i = .int .i64 k ∧ v = .slice A' k c' ∧ wr.ownsRow w2.heap.size 9 1 (.slice A' k c') k (((nms R.files).take k).map vst) ∧ Below w2.heap.size w2 wr) (fun _ i _ => n2 - (intOf i).toNat)
    case atStart => exact ⟨0, none, 0, Nat.zero_le _, rfl, rfl, own_nil _ _, Below.refl _ _⟩
    case round =>
      obtain ⟨k, A', c', hk, rfl, rfl, hown, hb⟩ := hrel
      have hFw := hF.below hb
      by_cases hlt : k < n2
      · obtain ⟨gf, ⟨pv, pn, pd⟩, rfl, hgf, hy, hL, e0, e1, hpv, hpl⟩ := hFw.at_ hlt
        simp only [] at e0
        have hnx : ((nms R.files).take (k + 1)).map vst = (((nms R.files).take k) ++ [pn]).map vst := by
          rw [List.take_add_one]
          have : (nms R.files)[k]? = some pn := by unfold nms; rw [List.getElem?_map, hL]; rfl
          rw [this]; rfl
        have hnx := Lib.hid hnx
        have hb4 : Below wr.heap.size wr (wr.alloc (.cells #[.string pn] 9)) := (Below.refl _ _).alloc (Nat.le_refl _) _
        have hbS := Blk.new wr 9 #[.string pn]
        have hown4 := own_below hown hb4
        have hbase : w2.heap.size ≤ (wr.alloc (.cells #[.string pn] 9)).heap.size := by have := hb4.size; have := hb.size; omega
        have hb14 := below_then hb hb4 (by have := hb.size; omega)
        clear hL hy
        go_wp2_with (at_builtin; refine wpList_append_st rfl (.tmp 19) (.tmp 25) rfl w2.heap.size rfl hown4 wr.heap.size 1 pn rfl hbS (by omega) hbase ?_; intro A5 c5 w5 hown5 hg5 hb5)
        go_roundw
        case rel => exact ⟨k + 1, A5, c5, hlt, by go_num, rfl, by rw [hnx.out]; exact hown5, hb14.trans hb5⟩
        case measure => simp [intOf]; omega
      · obtain rfl : k = n2 := by omega
        have hfin := Lib.hid (show wr.ownsRow w.heap.size 9 1 (.slice A' k c') k ((nms R.files).map vst) by
          rw [List.take_of_length_le (by unfold nms; rw [List.length_map]; have := hfl.out; omega)] at hown
          exact own_mono hown hb2.size)
        go_wp2_with fail
        refine bodyPost_ret (v := .tuple #[.slice A' k c', .int .i64 0]) (by simp [results, Try.results53, go_sem]) rfl ?_
        exact ⟨.inr ⟨H0.out, A', k, c', rfl, hn2, hfin.out⟩, hb2.trans (hb.mono hb2.size)⟩
end
end Go.Proofs.Ytkgcccllabofoaa
