/-
  The walks of the frames: the document's Scan.
-/
import Derived.Test.YtfhfpcihbclanaaFrame7
namespace Go.Proofs.Ytfhfpcihbclanaa
open Go.RowKit

theorem refscan_any (A : Option Addr) (n c : Nat) (l : List UInt8) (w : World) (hr : Rd w A n l) (hn : n ≤ 1000000) (hnc : n ≤ c) (hc : c ≤ maxLen) :
    Calls Try.prog 33 #[.slice A n c] w (ScanOk 46 w l) := by
  have hc' := hc
  unfold maxLen at hc'
  have Hl := Lib.hid hr.len
  go_enter Try.func33, Try.ntmps33
  go_wp2
  go_loopw [5, 6] (fun v i wr => ∃ (p m : Nat) (out : List Fr), p ≤ n ∧ m ≤ p ∧ i = .int .i64 p ∧ told out p (scanF (l.drop p)) = scanF l ∧ ∃ A c, v = .slice A m c ∧ OwnF wr w.heap.size 46 A m c out ∧ Below w.heap.size w wr) (fun _ i _ => n - (intOf i).toNat)
  case atStart => exact ⟨0, 0, [], Nat.zero_le _, Nat.le_refl _, rfl, by simp [told], _, _, rfl, OwnF.nil _ _ _, Below.refl _ _⟩
  case round =>
    obtain ⟨p, m, out, hp, hm, rfl, ht, B, d, rfl, hown, hb⟩ := hrel
    have Ht := Lib.hid ht; clear ht
    by_cases hlt : p < n
    · have hrw := (hr.below hb).cut (k := p) (cap := c) (by omega) hnc
      have hcp : ¬ c = p := by omega
      rw [if_neg hcp] at hrw
      have Hdl := Lib.hid hrw.len
      have hne : l.drop p ≠ [] := fun e => by have := Hdl.out; rw [e] at this; simp at this; omega
      rcases getF_cases (l.drop p) with ⟨k, body, hg, hk, hsz, hbl, hmax⟩ | ⟨x, hg, hx0, hx4⟩
      · have hst := told_step l out p k _ body hne hg (by omega)
        rw [Hdl.out] at hsz
        generalize numL (l.drop p) = s0 at *
        have Hst := Lib.hid hst
        have Hg := Lib.hid hg
        clear hst hg hne
        obtain ⟨ys, hys, hrow, hbods⟩ := hown
        go_wp2_with fail
        refine (refget_any _ _ _ _ _ hrw (by omega) (by omega) (by omega)).mono ?_
        intro e w1 hgo
        obtain ⟨B1, c1, rfl, hown1, hb1⟩ := hgo.form Hg.out
        clear hgo
        clear hbl
        have hbA := hb1.alloc hb1.size (.cells #[.int .i64 (k : Nat), .slice B1 body.length c1] 46)
        have hbB := hbA.alloc hbA.size (.cells #[.int .i64 (k : Nat), .slice B1 body.length c1] 46)
        have hb1B := ((Below.refl w1.heap.size w1).alloc (Nat.le_refl _) (.cells #[.int .i64 (k : Nat), .slice B1 body.length c1] 46)).alloc (by simp) (.cells #[.int .i64 (k : Nat), .slice B1 body.length c1] 46)
        have hrow3 := own_below hrow hbB
        have hown3 := own_below hown1 hb1B
        have hblk3 : Blk ((w1.alloc (.cells #[.int .i64 (k : Nat), .slice B1 body.length c1] 46)).alloc (.cells #[.int .i64 (k : Nat), .slice B1 body.length c1] 46)) (w1.heap.size + 1) 46 #[.int .i64 (k : Nat), .slice B1 body.length c1] := by
          have h := Blk.new (w1.alloc (.cells #[.int .i64 (k : Nat), .slice B1 body.length c1] 46)) 46 #[.int .i64 (k : Nat), .slice B1 body.length c1]
          simpa using h
        have hbase3 := Nat.le_trans hb.size hbB.size
        have hbods3 := fun y hy => own_below (hbods y hy) hbB
        have hbC := hb.trans (hbB.mono hb.size)
        have hbs := hb.size
        clear hbA hbB hb1B hbods hrow hown1
        go_wp2_with (first
          | (at_builtin; refine wpList_append_f rfl (.tmp 27) (.tmp 29) 51 rfl w.heap.size 46 Try.underlying51 rfr_info B m d ys rfl hrow3 _ 1 ⟨⟨k, body⟩, B1, c1⟩ B1 body.length c1 k ⟨rfl, rfl, rfl, rfl⟩ rfl hblk3 (by omega) hbase3 ?_; intro A4 c4 w4 hrow4 hg4 hb4)
          | fail)
        go_roundw
        case rel =>
          refine ⟨p + (s0 + 9), m + 1, out ++ [⟨k, body⟩], by omega, by omega, by go_num, Hst.out.symm.trans Ht.out, A4, c4, rfl, ⟨ys ++ [⟨⟨k, body⟩, B1, c1⟩], by simp [hys], hrow4, ?_⟩, hbC.trans hb4⟩
          intro y hy
          rcases List.mem_append.1 hy with hy | hy
          · exact own_grown (by decide) hrow3 (hbods3 y hy) hg4
          · rw [List.mem_singleton.1 hy]
            exact own_mono (own_grown (by decide) hrow3 hown3 hg4) hbs
        case measure => simp [intOf]; omega
      · have hfr := scanF_err (l.drop p) hne x hg hx0
        have Hfr := Lib.hid hfr
        have Hg := Lib.hid hg
        have hx : (((x : Nat) : Int) != 0) = true := by rw [bne_iff_ne]; omega
        clear hfr hg hne
        go_wp2_with fail
        refine (refget_any _ _ _ _ _ hrw (by omega) (by omega) (by omega)).mono ?_
        intro e w1 hgo
        obtain ⟨B1, c1, rfl, hown1, hb1⟩ := hgo.form Hg.out
        clear hgo
        go_wp2
        refine bodyPost_ret (v := .tuple #[.slice B m d, .int .i64 p, .int .i64 x]) (by simp [results, Try.results33, go_sem]) rfl ?_
        have hb1B := (Below.refl w1.heap.size w1).alloc (Nat.le_refl _) (.cells #[.int .i64 0, .slice B1 0 c1] 46)
        exact scanOk_of (by rw [← Ht.out, Hfr.out, told_end]) ((hown.below hb1).below hb1B) ((hb.trans (hb1.mono hb.size)).alloc (Nat.le_trans hb.size hb1.size) _)
    · obtain rfl : p = n := by omega
      have hfr : l.drop p = [] := List.drop_eq_nil_of_le (by rw [Hl.out]; omega)
      have Hfr := Lib.hid hfr
      clear hfr
      go_wp2
      refine bodyPost_ret (v := .tuple #[.slice B m d, .int .i64 p, .int .i64 0]) (by simp [results, Try.results33, go_sem]) rfl ?_
      exact scanOk_of (x := 0) (by rw [← Ht.out, Hfr.out, scanF_nil, told_end]) hown hb
end Go.Proofs.Ytfhfpcihbclanaa
