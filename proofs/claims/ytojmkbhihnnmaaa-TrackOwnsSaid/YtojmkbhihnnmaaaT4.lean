/-
  The track: facts that are plain.
-/
import Derived.Test.YtojmkbhihnnmaaaT3
namespace Go.Proofs.Ytojmkbhihnnmaaa
open Go.RowKit

theorem notpath_any (A : Option Addr) (n c : Nat) (l : List ByteArray) (w : World) (hr : RdT w A n l) (hn : n ≤ maxLen) :
    Calls Try.prog 107 #[.slice A n c] w fun e w' => e = .returned (.bool (!mayP l)) ∧ Below w.heap.size w w' := by
  go_enter Try.func107, Try.ntmps107
  go_wp2_with fail
  refine (may_any _ _ _ _ _ hr hn).mono ?_
  rintro e w' ⟨rfl, hb⟩
  obtain ⟨b, hb'⟩ : ∃ b, mayP l = b := ⟨_, rfl⟩
  rw [hb']
  have Hb := Lib.hid hb'
  clear hb'
  go_wp2
  go_ret
  exact ⟨by rw [Hb.out]; rfl, hb⟩
theorem idxpath_any (A : Option Addr) (n c : Nat) (S : Nat → Prop) (l : List (List ByteArray)) (w : World) (hr : PathsV S w (.slice A n c) l) (hn : n ≤ maxLen)  :
    Calls Try.prog 112 #[.slice A n c, .func (.func 107) #[] #[]] w fun e w' => e = .returned (.int .i64 (idxF (fun s => !mayP s) l)) ∧ Below w.heap.size w w' := by
  unfold maxLen at hn
  have H1 := Lib.hid (show l.length = n by obtain ⟨_, _, _, e, _, _, h⟩ := hr.form; injection e with _ e; rw [h, ← e])
  go_enter Try.func112, Try.ntmps112
  go_wp2_with fail
  go_loopw [8] (fun i wr => ∃ k : Nat, k ≤ n ∧ i = .int .i64 k ∧ (∀ j y, j < k → l[j]? = some y → (fun s => !mayP s) y = false) ∧ Below w.heap.size w wr) (fun i _ => n - (intOf i).toNat)
  case atStart => exact ⟨0, Nat.zero_le _, rfl, fun j y hj => by omega, Below.refl _ _⟩
  case round =>
    obtain ⟨k, hk, rfl, hno, hb⟩ := hrel
    have Hno := Lib.hid hno
    clear hno
    by_cases hlt : k < n
    · obtain ⟨ad, s, B, m, d, rfl, hsk, hc, hp, hmd, hdm, _⟩ := (hr.keep (Stay.below (hb))).at_ hlt
      cases hnb : mayP s with
      | false =>
        have Hix := Lib.hid (idxF_at (fun s => !mayP s) l k s hsk (by rw [hnb]; rfl) Hno.out)
        clear hsk
        go_wp2_with fail
        refine (notpath_any _ _ _ _ _ hp.rd (Nat.le_trans hmd hdm)).mono ?_
        rintro e w' ⟨rfl, hb1⟩
        rw [hnb]
        go_wp2
        go_ret
        exact ⟨by rw [Hix.out]; rfl, below_then hb hb1 (Nat.le_refl _)⟩
      | true =>
        have Hst := Lib.hid (show ∀ j y, j < k + 1 → l[j]? = some y → (fun s => !mayP s) y = false from fun j y hj hy => by
          rcases Nat.lt_or_ge j k with h | h
          · exact Hno.out j y h hy
          · obtain rfl : j = k := by omega
            obtain rfl : s = y := Option.some.inj (hsk.symm.trans hy)
            show (!mayP s) = false
            rw [hnb]; rfl)
        clear hsk
        go_wp2_with fail
        refine (notpath_any _ _ _ _ _ hp.rd (Nat.le_trans hmd hdm)).mono ?_
        rintro e w' ⟨rfl, hb1⟩
        rw [hnb]
        go_wp2
        go_roundw
        case rel => exact ⟨k + 1, by omega, by go_num, Hst.out, below_then hb hb1 (Nat.le_refl _)⟩
        case measure => simp [intOf]; omega
    · obtain rfl : k = n := by omega
      have Hix := Lib.hid (idxF_none (fun s => !mayP s) l (fun j y hy => Hno.out j y (by rw [← H1.out]; exact (List.getElem?_eq_some_iff.1 hy).1) hy))
      go_wp2
      go_ret
      exact ⟨by rw [Hix.out]; rfl, hb⟩

theorem conpath_any (A : Option Addr) (n c : Nat) (S : Nat → Prop) (l : List (List ByteArray)) (w : World) (hr : PathsV S w (.slice A n c) l) (hn : n ≤ maxLen)  :
    Calls Try.prog 106 #[.slice A n c, .func (.func 107) #[] #[]] w fun e w' => e = .returned (.bool (l.any fun s => !mayP s)) ∧ Below w.heap.size w w' := by
  have Hix := Lib.hid (idxF_any (fun s => !mayP s) l)
  go_enter Try.func106, Try.ntmps106
  go_wp2_with fail
  refine (idxpath_any _ _ _ _ _ _ hr hn).mono ?_
  rintro e w' ⟨rfl, hb⟩
  generalize idxF (fun s => !mayP s) l = ix at *
  go_wp2
  go_ret
  exact ⟨by rw [← Hix.out]; rfl, hb⟩


/-- is a fact plain? -/
def plainF (f : Fa) : Bool := !(f.paths.any fun p => !mayP p) && (!(f.vals.any fun z : Int => !valB z) && (decide (f.paths.length ≤ 3) && decide (f.vals.length ≤ 2)))
theorem bplain_any (S : Nat → Prop) (A B : Option Addr) (n c m d : Nat) (f : Fa) (w : World) (hp : PathsV S w (.slice A n c) f.paths) (hv : IntsV S w (.slice B m d) f.vals) (hn : n ≤ maxLen) (hm : m ≤ maxLen) :
    Calls Try.prog 103 #[.agg #[.slice A n c, .slice B m d]] w fun e w' => e = .returned (.bool (plainF f)) ∧ Below w.heap.size w w' := by
  have hb0 : Below w.heap.size w (w.alloc (.cells #[.slice A n c, .slice B m d] 84)) := (Below.refl _ _).alloc (Nat.le_refl _) _
  have hblk := Blk.new w 84 #[.slice A n c, .slice B m d]
  have hp0 := hp.keep (Stay.below (S := S) hb0)
  have hv0 := hv.keep (Stay.below (S := S) hb0)
  have H1 := Lib.hid (show f.paths.length = n by obtain ⟨_, _, _, e, _, _, h⟩ := hp.form; injection e with _ e; rw [h, ← e])
  have H2 := Lib.hid (show f.vals.length = m by obtain ⟨_, _, _, e, _, _, h⟩ := hv.form; injection e with _ e; rw [h, ← e])
  go_enter Try.func103, Try.ntmps103
  go_wp2_with fail
  generalize w.alloc (.cells #[.slice A n c, .slice B m d] 84) = w0 at *
  refine (conpath_any _ _ _ _ _ _ hp0 hn).mono ?_
  rintro e w1 ⟨rfl, hb1⟩
  have hc1 := (hblk.kept hb1).cell 1
  have hv1 := hv0.keep (Stay.below (S := S) hb1)
  have hb01 := hb0.trans (hb1.mono hb0.size)
  simp only [List.getElem?_toArray, List.getElem?_cons_zero, List.getElem?_cons_succ] at hc1
  have hc0 := (hblk.kept hb1).cell 0
  simp only [List.getElem?_toArray, List.getElem?_cons_zero] at hc0
  obtain ⟨b1, hB1⟩ : ∃ b, (f.paths.any fun p => !mayP p) = b := ⟨_, rfl⟩
  rw [hB1]
  have HB1 := Lib.hid hB1
  clear hB1
  go_wp2_with fail
  refine (conval_any _ _ _ _ _ hv1.rd hm).mono ?_
  rintro e w2 ⟨rfl, rfl⟩
  obtain ⟨b2, hB2⟩ : ∃ b, (f.vals.any fun z : Int => !valB z) = b := ⟨_, rfl⟩
  rw [hB2]
  have HB2 := Lib.hid hB2
  clear hB2
  have HF := Lib.hid (show plainF f = (!b1 && (!b2 && (decide (n ≤ 3) && decide (m ≤ 2)))) by unfold plainF; rw [HB1.out, HB2.out, H1.out, H2.out])
  have H5 := Lib.hid (show decide ((m : Int) ≤ 2) = decide (m ≤ 2) from decide_eq_decide.2 (by omega))
  cases b1 with
  | true =>
    go_wp2_with fail
    go_ret
    exact ⟨by rw [HF.out]; rfl, hb01⟩
  | false =>
    cases b2 with
    | true =>
      go_wp2_with fail
      go_ret
      exact ⟨by rw [HF.out]; rfl, hb01⟩
    | false =>
      by_cases h3 : n ≤ 3
      · go_wp2_with fail
        go_ret
        exact ⟨by rw [HF.out, decide_eq_true h3]; exact ret_bool H5.out, hb01⟩
      · have h4 : decide ((n : Int) ≤ 3) = false := by simp; omega
        go_wp2_with fail
        go_ret
        exact ⟨by rw [HF.out, decide_eq_false h3]; rfl, hb01⟩
theorem refplain_any (S : Nat → Prop) (A B : Option Addr) (n c m d : Nat) (f : Fa) (w : World) (hp : PathsV S w (.slice A n c) f.paths) (hv : IntsV S w (.slice B m d) f.vals) (hn : n ≤ maxLen) (hm : m ≤ maxLen) :
    Calls Try.prog 91 #[.agg #[.slice A n c, .slice B m d]] w fun e w' => e = .returned (.bool (plainF f)) ∧ Below w.heap.size w w' := by
  have hb0 : Below w.heap.size w (w.alloc (.cells #[.slice A n c, .slice B m d] 84)) := (Below.refl _ _).alloc (Nat.le_refl _) _
  have hblk := Blk.new w 84 #[.slice A n c, .slice B m d]
  have hp0 := hp.keep (Stay.below (S := S) hb0)
  have hv0 := hv.keep (Stay.below (S := S) hb0)
  have H1 := Lib.hid (show f.paths.length = n by obtain ⟨_, _, _, e, _, _, h⟩ := hp.form; injection e with _ e; rw [h, ← e])
  have H2 := Lib.hid (show f.vals.length = m by obtain ⟨_, _, _, e, _, _, h⟩ := hv.form; injection e with _ e; rw [h, ← e])
  have hc0 := hblk.cell 0
  have hc1 := hblk.cell 1
  simp only [List.getElem?_toArray, List.getElem?_cons_zero, List.getElem?_cons_succ] at hc0 hc1
  unfold maxLen at hn hm
  go_enter Try.func91, Try.ntmps91
  go_wp2_with fail
  generalize w.alloc (.cells #[.slice A n c, .slice B m d] 84) = w0 at *
  refine (refvalues_any _ _ _ _ _ hv0.rd (by unfold maxLen; exact hm)).mono ?_
  rintro e w1 ⟨rfl, rfl⟩
  obtain ⟨b2, hB2⟩ : ∃ b, (f.vals.any fun z : Int => !valB z) = b := ⟨_, rfl⟩
  rw [hB2]
  have HB2 := Lib.hid hB2
  clear hB2
  have HF := Lib.hid (show plainF f = (!(f.paths.any fun p => !mayP p) && (!b2 && (decide (n ≤ 3) && decide (m ≤ 2)))) by unfold plainF; rw [HB2.out, H1.out, H2.out])
  cases b2 with
  | true =>
    have HF := Lib.hid (HF.out.trans (show _ = false by simp))
    go_wp2_with fail
    go_ret
    exact ⟨by rw [HF.out]; rfl, hb0⟩
  | false =>
    by_cases h2 : 2 < m
    · have HF := Lib.hid (HF.out.trans (show _ = false by rw [decide_eq_false (show ¬ m ≤ 2 by omega)]; simp))
      go_wp2_with fail
      go_ret
      exact ⟨by rw [HF.out]; rfl, hb0⟩
    · by_cases h3 : 3 < n
      · have HF := Lib.hid (HF.out.trans (show _ = false by rw [decide_eq_false (show ¬ n ≤ 3 by omega)]; simp))
        go_wp2_with fail
        go_ret
        exact ⟨by rw [HF.out]; rfl, hb0⟩
      · have HG := Lib.hid (HF.out.trans (show _ = !(f.paths.any fun p => !mayP p) by rw [decide_eq_true (show n ≤ 3 by omega), decide_eq_true (show m ≤ 2 by omega)]; simp))
        go_wp2_with fail
        go_loop [4] (fun i => ∃ k : Nat, k ≤ n ∧ i = .int .i64 k ∧ (∀ j y, j < k → f.paths[j]? = some y → (fun p => !mayP p) y = false)) (fun i => n - (intOf i).toNat)
        case atStart => exact ⟨0, Nat.zero_le _, rfl, fun j y hj => by omega⟩
        case round =>
          obtain ⟨k, hk, rfl, hno⟩ := hrel
          have Hno := Lib.hid hno
          clear hno
          by_cases hlt : k < n
          · obtain ⟨ad, p, B', m', d', rfl, hsk, hc, hp', hmd, hdm, _⟩ := hp0.at_ hlt
            cases hnb : mayP p with
            | false =>
              have Hix := Lib.hid (show (!(f.paths.any fun p => !mayP p)) = false by rw [List.any_eq_true.2 ⟨p, List.mem_of_getElem? hsk, by rw [hnb]; rfl⟩]; rfl)
              clear hsk
              go_wp2_with fail
              refine (refmayp_any _ _ _ _ _ hp'.rd (Nat.le_trans hmd hdm)).mono ?_
              rintro e w' ⟨rfl, rfl⟩
              rw [hnb]
              go_wp2_with fail
              go_ret
              exact ⟨by rw [HG.out, Hix.out]; rfl, hb0⟩
            | true =>
              have Hst := Lib.hid (show ∀ j y, j < k + 1 → f.paths[j]? = some y → (fun p => !mayP p) y = false from fun j y hj hy => by
                rcases Nat.lt_or_ge j k with h | h
                · exact Hno.out j y h hy
                · obtain rfl : j = k := by omega
                  obtain rfl : p = y := Option.some.inj (hsk.symm.trans hy)
                  show (!mayP p) = false
                  rw [hnb]; rfl)
              clear hsk
              go_wp2_with fail
              refine (refmayp_any _ _ _ _ _ hp'.rd (Nat.le_trans hmd hdm)).mono ?_
              rintro e w' ⟨rfl, rfl⟩
              rw [hnb]
              go_wp2_with fail
              go_round
              case rel => exact ⟨k + 1, by omega, by go_num, Hst.out⟩
              case measure => simp [intOf]; omega
          · obtain rfl : k = n := by omega
            have Hix := Lib.hid (show (!(f.paths.any fun p => !mayP p)) = true by
              rw [Bool.not_eq_true', List.any_eq_false]
              intro s hs
              obtain ⟨i, hi, e⟩ := List.getElem_of_mem hs
              have h1 : (!mayP s) = false := Hno.out i s (by rw [← H1.out]; exact hi) (by rw [List.getElem?_eq_getElem hi, e])
              rw [h1]; simp)
            go_wp2_with fail
            go_ret
            exact ⟨by rw [HG.out, Hix.out]; rfl, hb0⟩
end Go.Proofs.Ytojmkbhihnnmaaa
