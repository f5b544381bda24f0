/-
  The walks of the schema: numbers of views, corners.
-/
import Derived.Test.YtojmkbhihnnmaaaSch12
namespace Go.Proofs.Ytojmkbhihnnmaaa
open Go.RowKit Go.Maps

structure Sm (S : Sch) : Prop where
  d : S.dims.length ≤ 1000000
  l : ∀ d ∈ S.dims, d.levels.length ≤ 1000000
  m : S.measures.length ≤ 1000000
  v : S.views.length ≤ 1000000
  x : ∀ v ∈ S.views, v.length ≤ 1000000

def numberF (S : Sch) (v : List Int) : Int × Int := if mayB S = true then (if idxF (fun x => decide (v = x)) (viewsF S) < 0 then (0, 17) else (idxF (fun x => decide (v = x)) (viewsF S), 0)) else (0, 11)
theorem numberF_no {S : Sch} {v : List Int} (h : mayB S = false) : numberF S v = (0, 11) := by unfold numberF; rw [h]; rfl
theorem numberF_none {S : Sch} {v : List Int} (h : mayB S = true) (h' : idxF (fun x => decide (v = x)) (viewsF S) < 0) : numberF S v = (0, 17) := by unfold numberF; rw [h, if_pos rfl, if_pos h']
theorem numberF_some {S : Sch} {v : List Int} (h : mayB S = true) (h' : ¬ idxF (fun x => decide (v = x)) (viewsF S) < 0) : numberF S v = (idxF (fun x => decide (v = x)) (viewsF S), 0) := by unfold numberF; rw [h, if_pos rfl, if_neg h']

theorem number_any (A1 A2 A3 B : Option Addr) (n1 n2 n3 c1 c2 c3 m c : Nat) (S : Sch) (v : List Int) (w : World) (hr : RdSch w A1 A2 A3 n1 n2 n3 c1 c2 c3 S) (hs : Sm S) (hv : RdI w B m v) (hm : m ≤ maxLen) :
    Calls Try.prog 27 #[.agg #[.slice A1 n1 c1, .slice A2 n2 c2, .slice A3 n3 c3], .slice B m c] w fun e w' => e = .returned (.tuple #[.int .i64 (numberF S v).1, .int .i64 (numberF S v).2]) ∧ Below w.heap.size w w' := by
  have hn1 : n1 ≤ 1000000 := by rw [← hr.d.1]; exact hs.d
  have hn2 : n2 ≤ 1000000 := by rw [← hr.m.len]; exact hs.m
  have hn3 : n3 ≤ 1000000 := by rw [← hr.v.1]; exact hs.v
  have hb1 : Below w.heap.size w (w.alloc (.cells #[.slice A1 n1 c1, .slice A2 n2 c2, .slice A3 n3 c3] 26)) := (Below.refl _ _).alloc (Nat.le_refl _) _
  have hb2 := hb1.alloc hb1.size (.cells #[.slice B m c] 30)
  have hblS := (Blk.new w 26 #[.slice A1 n1 c1, .slice A2 n2 c2, .slice A3 n3 c3]).alloc (.cells #[.slice B m c] 30)
  have hblv := Blk.new (w.alloc (.cells #[.slice A1 n1 c1, .slice A2 n2 c2, .slice A3 n3 c3] 26)) 30 #[.slice B m c]
  have hsz : (w.alloc (.cells #[.slice A1 n1 c1, .slice A2 n2 c2, .slice A3 n3 c3] 26)).heap.size = w.heap.size + 1 := by simp
  rw [hsz] at hblv
  have Hs := Lib.hid hs
  clear hs
  go_enter Try.func27, Try.ntmps27
  go_wp2_with fail
  generalize (w.alloc (.cells #[.slice A1 n1 c1, .slice A2 n2 c2, .slice A3 n3 c3] 26)).alloc (.cells #[.slice B m c] 30) = w2 at *
  refine (may_any _ _ _ _ _ _ _ _ _ S _ (hr.below hb2) hn1 hn2 hn3 Hs.out.l).mono ?_
  rintro e w3 ⟨rfl, hb3⟩
  have hb03 := below_then hb2 hb3 (Nat.le_refl _)
  have hq0 : w3.cell? ⟨w.heap.size, 0, none⟩ = some (.slice A1 n1 c1) := (hblS.kept hb3).cell 0
  have hq1 : w3.cell? ⟨w.heap.size, 1, none⟩ = some (.slice A2 n2 c2) := (hblS.kept hb3).cell 1
  have hq2 : w3.cell? ⟨w.heap.size, 2, none⟩ = some (.slice A3 n3 c3) := (hblS.kept hb3).cell 2
  cases hmay : mayB S with
  | false =>
    have Hno := Lib.hid (numberF_no (v := v) hmay)
    clear hmay
    go_wp2
    go_ret2
    exact ⟨by rw [Hno.out]; rfl, hb03⟩
  | true =>
    have Hmay := Lib.hid hmay
    clear hmay
    go_wp2_with fail
    refine (views_any _ _ _ _ _ _ _ _ _ S _ (hr.below hb03) hn1 hn3 Hs.out.x).mono ?_
    rintro e w4 ⟨A', c', rfl, hov, hb4⟩
    have hb04 := below_then hb03 hb4 (Nat.le_refl _)
    have hb24 := below_then hb3 hb4 (Nat.le_refl _)
    go_wp2_with fail
    refine (idxnumeq_any _ _ _ _ _ _ _ (viewsF S) v _ hov.reads (maxLen_big (k := 1000001) (by omega) (by omega)) ((hblv.kept hb24).cell 0) (hv.below hb04) hm).mono ?_
    rintro e w5 ⟨rfl, q, rfl⟩
    have Hn1 := Lib.hid (numberF_none (S := S) (v := v) Hmay.out)
    have Hn2 := Lib.hid (numberF_some (S := S) (v := v) Hmay.out)
    generalize idxF (fun x => decide (v = x)) (viewsF S) = ix at *
    by_cases h0 : ix < 0
    · go_wp2
      go_ret2
      exact ⟨by rw [Hn1.out h0]; rfl, below_drewN hb04 q⟩
    · go_wp2
      go_ret2
      exact ⟨by rw [Hn2.out h0]; rfl, below_drewN hb04 q⟩

theorem refnumber_any (A1 A2 A3 B : Option Addr) (n1 n2 n3 c1 c2 c3 m c : Nat) (S : Sch) (v : List Int) (w : World) (hr : RdSch w A1 A2 A3 n1 n2 n3 c1 c2 c3 S) (hs : Sm S) (hv : RdI w B m v) (hm : m ≤ maxLen) :
    Calls Try.prog 28 #[.agg #[.slice A1 n1 c1, .slice A2 n2 c2, .slice A3 n3 c3], .slice B m c] w fun e w' => e = .returned (.tuple #[.int .i64 (numberF S v).1, .int .i64 (numberF S v).2]) ∧ Below w.heap.size w w' := by
  have hn1 : n1 ≤ 1000000 := by rw [← hr.d.1]; exact hs.d
  have hn2 : n2 ≤ 1000000 := by rw [← hr.m.len]; exact hs.m
  have hn3 : n3 ≤ 1000000 := by rw [← hr.v.1]; exact hs.v
  have Hvl := Lib.hid (show (viewsF S).length = n3 + 1 by simp [viewsF, hr.v.1])
  have hb1 : Below w.heap.size w (w.alloc (.cells #[.slice A1 n1 c1, .slice A2 n2 c2, .slice A3 n3 c3] 26)) := (Below.refl _ _).alloc (Nat.le_refl _) _
  have hblS := (Blk.new w 26 #[.slice A1 n1 c1, .slice A2 n2 c2, .slice A3 n3 c3])
  have Hs := Lib.hid hs
  clear hs
  go_enter Try.func28, Try.ntmps28
  go_wp2_with fail
  generalize (w.alloc (.cells #[.slice A1 n1 c1, .slice A2 n2 c2, .slice A3 n3 c3] 26)) = w2 at *
  refine (refmay_any _ _ _ _ _ _ _ _ _ S _ (hr.below hb1) hn1 hn2 hn3).mono ?_
  rintro e w3 ⟨rfl, hb3⟩
  have hb03 := below_then hb1 hb3 (Nat.le_refl _)
  have hq0 : w3.cell? ⟨w.heap.size, 0, none⟩ = some (.slice A1 n1 c1) := (hblS.kept hb3).cell 0
  have hq1 : w3.cell? ⟨w.heap.size, 1, none⟩ = some (.slice A2 n2 c2) := (hblS.kept hb3).cell 1
  have hq2 : w3.cell? ⟨w.heap.size, 2, none⟩ = some (.slice A3 n3 c3) := (hblS.kept hb3).cell 2
  cases hmay : mayB S with
  | false =>
    have Hno := Lib.hid (numberF_no (v := v) hmay)
    clear hmay
    go_wp2
    go_ret2
    exact ⟨by rw [Hno.out]; rfl, hb03⟩
  | true =>
    have Hmay := Lib.hid hmay
    clear hmay
    go_wp2_with fail
    refine (refviews_any _ _ _ _ _ _ _ _ _ S _ (hr.below hb03) hn1 hn3).mono ?_
    rintro e w4 ⟨A', c', rfl, hov, hoc1, hoc2, hb4⟩
    have hb04 := below_then hb03 hb4 (Nat.le_refl _)
    have Hn1 := Lib.hid (numberF_none (S := S) (v := v) Hmay.out)
    have Hn2 := Lib.hid (numberF_some (S := S) (v := v) Hmay.out)
    generalize viewsF S = L at *
    have hv4 := hv.below hb04
    unfold maxLen at hoc2
    go_wp2_with fail
    go_loopw [8] (fun i wr => ∃ k : Nat, k ≤ n3 + 1 ∧ i = .int .i64 k ∧ (∀ j y, j < k → L[j]? = some y → (fun x => decide (v = x)) y = false) ∧ ∃ q, wr = w4.drewN q) (fun i _ => n3 + 1 - (intOf i).toNat)
    case atStart => exact ⟨0, Nat.zero_le _, rfl, fun j y hj => by omega, 0, rfl⟩
    case round =>
      obtain ⟨k, hk, rfl, hno, hq⟩ := hrel
      have Hno := Lib.hid hno
      clear hno
      have hrw : RdV wr A' (n3 + 1) L := by obtain ⟨q, rfl⟩ := hq; exact hov
      have hvw : RdI wr B m v := by obtain ⟨q, rfl⟩ := hq; exact hv4
      have hq1 : ∀ q1, ∃ q, wr.drewN q1 = w4.drewN q := fun q1 => by obtain ⟨q, rfl⟩ := hq; exact ⟨_, World.drewN_drewN _ _ _⟩
      by_cases hlt : k < n3 + 1
      · obtain ⟨y, ad, D, my, cy, hyk, rfl, hc, hy, hmc, hcm⟩ := hrw.at_ hlt
        cases hnb : decide (y = v) with
        | true =>
          have Hix := Lib.hid (idxF_at (fun x => decide (v = x)) L k y hyk (decide_eq_true (of_decide_eq_true hnb).symm) Hno.out)
          have Hnn := Lib.hid (Hn2.out (by rw [Hix.out]; omega))
          clear hyk
          go_wp2_with fail
          refine (sameI_any _ _ _ _ _ _ _ _ _ hy hvw (Nat.le_trans hmc hcm) hm).mono ?_
          rintro e w' ⟨rfl, q1, rfl⟩
          rw [hnb]
          clear hnb
          go_wp2
          go_ret2
          refine ⟨by rw [Hnn.out, Hix.out]; rfl, ?_⟩
          obtain ⟨q2, hq2⟩ := hq1 q1
          rw [hq2]; exact below_drewN hb04 _
        | false =>
          have Hst := Lib.hid (show ∀ j y, j < k + 1 → L[j]? = some y → (fun x => decide (v = x)) y = false from fun j z hj hz => by
            rcases Nat.lt_or_ge j k with h | h
            · exact Hno.out j z h hz
            · obtain rfl : j = k := by omega
              obtain rfl : y = z := Option.some.inj (hyk.symm.trans hz)
              exact decide_eq_false (fun h => of_decide_eq_false hnb h.symm))
          clear hyk
          go_wp2_with fail
          refine (sameI_any _ _ _ _ _ _ _ _ _ hy hvw (Nat.le_trans hmc hcm) hm).mono ?_
          rintro e w' ⟨rfl, q1, rfl⟩
          rw [hnb]
          clear hnb
          go_wp2
          go_roundw
          case rel => exact ⟨k + 1, by omega, by go_num, Hst.out, hq1 _⟩
          case measure => simp [intOf]; omega
      · obtain rfl : k = n3 + 1 := by omega
        have Hix := Lib.hid (idxF_none (fun x => decide (v = x)) L (fun j y hy => Hno.out j y (by rw [← Hvl.out]; exact (List.getElem?_eq_some_iff.1 hy).1) hy))
        have Hnn := Lib.hid (Hn1.out (by rw [Hix.out]; omega))
        go_wp2
        go_ret2
        refine ⟨by rw [Hnn.out]; rfl, ?_⟩
        obtain ⟨q2, rfl⟩ := hq
        exact below_drewN hb04 _

def cornersF : List Dm → Int
  | [] => 1
  | d :: ds => (d.levels.length + 1) * cornersF ds
end Go.Proofs.Ytojmkbhihnnmaaa
