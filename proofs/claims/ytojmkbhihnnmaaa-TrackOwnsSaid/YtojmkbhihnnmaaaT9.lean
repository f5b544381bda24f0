/-
  The track's answer: facts, commands and entries put behind bytes.
-/
import Derived.Test.YtojmkbhihnnmaaaT8
namespace Go.Proofs.Ytojmkbhihnnmaaa
open Go.RowKit

set_option maxRecDepth 100000 in
set_option maxHeartbeats 2000000 in
theorem refbput_any (S : Nat → Prop) (v : Value) (m : Nat) (A : Option Addr) (n c : Nat) (fs : List Fa) (w : World) (hv : Bn w v m) (hm : m ≤ 10000) (hf : FactsV S w (.slice A n c) fs) (hn : n ≤ maxLen) :
    Calls Try.prog 86 #[v, .slice A n c] w fun e w' => ∃ v', e = .returned (.tuple #[v', .int .i64 (putE fs)]) ∧ Below w.heap.size w w' := by
  have H1 := Lib.hid (facts_len hf)
  unfold maxLen at hn
  by_cases h8 : 8 < n
  · have hE := Lib.hid (putE_long (fs := fs) (by rw [H1.out]; exact h8))
    go_enter Try.func86, Try.ntmps86
    go_wp2_with fail
    go_ret2
    exact ⟨_, by rw [hE.out]; rfl, Below.refl _ _⟩
  · go_enter Try.func86, Try.ntmps86
    go_wp2_with fail
    refine (refputint_any v m _ w hv (by omega)).mono ?_
    rintro e w1 ⟨v1, n1, rfl, hy1, hn1, hb1⟩
    go_wp2_with fail
    go_loopw [6, 7] (fun b i wr => ∃ (k q : Nat), k ≤ n ∧ i = .int .i64 k ∧ Bn wr b q ∧ q ≤ 10010 + 200 * k ∧ (∀ j f, j < k → fs[j]? = some f → plainF f = true) ∧ Below w.heap.size w wr) (fun _ i _ => n - (intOf i).toNat)
    case atStart => exact ⟨0, n1, Nat.zero_le _, rfl, hy1.bn, by omega, fun j f h => by omega, hb1⟩
    case round =>
      obtain ⟨k, q, hk, rfl, hbn, hq, hno, hb⟩ := hrel
      have Hno := Lib.hid hno
      clear hno
      by_cases hlt : k < n
      · obtain ⟨ad, f, B, mp, d, C, mv, r, rfl, hfk, c0, c1, hp, hvl, hmd, hdm, hpl, hmr, hrm, hvll⟩ := (hf.keep (Stay.below (S := S) hb)).at_ hlt
        have hmeas := Lib.hid (show n - (k + 1) < n - k by omega)
        have l0 := lt_of_cell c0
        have l1 := lt_of_cell c1
        have Hpl := Lib.hid hpl
        have Hvl := Lib.hid hvll
        clear hpl hvll
        go_wp2_with fail
        refine (refplain_any _ _ _ _ _ _ _ f _ hp hvl (Nat.le_trans hmd hdm) (Nat.le_trans hmr hrm)).mono ?_
        rintro e w3 ⟨rfl, hb3⟩
        have c0' := (hb3.cell l0).trans c0
        have c1' := (hb3.cell (p := ⟨(ad.add (k * 2)).block, (ad.add (k * 2)).off + 1, none⟩) l1).trans c1
        cases hpf : plainF f with
        | false =>
          have hE := Lib.hid (putE_bad (fs := fs) (by rw [H1.out]; exact h8) (List.mem_of_getElem? hfk) hpf)
          clear hfk
          go_wp2_with fail
          go_ret2
          exact ⟨_, by rw [hE.out]; rfl, below_then hb hb3 (Nat.le_refl _)⟩
        | true =>
          have Hst := Lib.hid (show ∀ j y, j < k + 1 → fs[j]? = some y → plainF y = true from fun j y hj hy => by
            rcases Nat.lt_or_ge j k with h | h
            · exact Hno.out j y h hy
            · obtain rfl : j = k := by omega
              obtain rfl : f = y := Option.some.inj (hfk.symm.trans hy)
              exact hpf)
          obtain ⟨hps, hp3, hv2⟩ := plainF_parts hpf
          rw [Hpl.out] at hp3
          rw [Hvl.out] at hv2
          have Hps := Lib.hid hps
          clear hfk hpf hps
          go_wp2_with fail
          refine (refputint_any _ q _ w3 (hbn.below hb3) (by omega)).mono ?_
          rintro e w4 ⟨v4, n4, rfl, hy4, hn4, hb4⟩
          have hb24 := below_then hb3 hb4 (Nat.le_refl _)
          have hp4 := hp.keep (Stay.below (S := S) hb24)
          have hb04 := below_then hb hb24 (Nat.le_refl _)
          have d0 := (hb24.cell l0).trans c0
          have d1 := (hb24.cell (p := ⟨(ad.add (k * 2)).block, (ad.add (k * 2)).off + 1, none⟩) l1).trans c1
          have e0 : (ad.add (k * 2)).block < w4.heap.size := Nat.lt_of_lt_of_le l0 hb24.size
          clear c0' c1'
          unfold maxLen at hdm hrm
          go_wp2_with fail
          go_loopw [6, 9] (fun b i wr' => ∃ (k' q' : Nat), k' ≤ mp ∧ i = .int .i64 k' ∧ Bn wr' b q' ∧ q' ≤ n4 + 49 * k' ∧ Below w4.heap.size w4 wr') (fun _ i _ => mp - (intOf i).toNat)
          case atStart => exact ⟨0, n4, Nat.zero_le _, rfl, hy4.bn, by omega, Below.refl _ _⟩
          case round =>
            obtain ⟨k', q', hk', rfl, hbn', hq', hb'⟩ := hrel
            have f0 := (hb'.cell (p := ad.add (k * 2)) e0).trans d0
            by_cases hlt' : k' < mp
            · obtain ⟨ad', p, B', m', d', rfl, hpk, hc', hpp, hmd', hdm', hpl'⟩ := (hp4.keep (Stay.below (S := S) hb')).at_ hlt'
              have hmay := Hps.out p (List.mem_of_getElem? hpk)
              have hmeas' := Lib.hid (show mp - (k' + 1) < mp - k' by omega)
              clear hpk hpl'
              go_wp2_with fail
              refine (reftext_any _ _ _ p _ hpp.rd hmay).mono ?_
              rintro e w5 ⟨s, rfl, hs, hb5⟩
              go_wp2_with fail
              refine (refputtext_any _ q' s _ (hbn'.below hb5) (by omega) (by omega)).mono ?_
              rintro e w6 ⟨v6, n6, rfl, hy6, hn6, hb6⟩
              go_wp2_with fail
              go_roundw
              case rel => exact ⟨k' + 1, n6, hlt', by go_num, hy6.bn, by omega, below_then (below_then hb' hb5 (Nat.le_refl _)) hb6 (Nat.le_refl _)⟩
              case measure => simp [intOf]; exact hmeas'.out
            · obtain rfl : k' = mp := by omega
              obtain ⟨w7, rfl⟩ : ∃ wo : World, wo = wr := ⟨_, rfl⟩
              have f1 := (hb'.cell (p := ⟨(ad.add (k * 2)).block, (ad.add (k * 2)).off + 1, none⟩) e0).trans d1
              have hb27 := below_then hb24 hb' (Nat.le_refl _)
              have hb07 := below_then hb04 hb' (Nat.le_refl _)
              go_wp2_with fail
              refine (refputint_any _ q' _ w7 hbn' (by omega)).mono ?_
              rintro e w8 ⟨v8, n8, rfl, hy8, hn8, hb8⟩
              have e7 : (ad.add (k * 2)).block < w7.heap.size := Nat.lt_of_lt_of_le e0 hb'.size
              have g1 := (hb8.cell (p := ⟨(ad.add (k * 2)).block, (ad.add (k * 2)).off + 1, none⟩) e7).trans f1
              have e8 : (ad.add (k * 2)).block < w8.heap.size := Nat.lt_of_lt_of_le e7 hb8.size
              have hv8 := hvl.keep (Stay.below (S := S) (below_then hb27 hb8 (Nat.le_refl _)))
              have hb08 := below_then hb07 hb8 (Nat.le_refl _)
              clear f0 f1 d0 d1 c0 c1
              go_wp2_with fail
              go_loopw [6, 12] (fun b i wr' => ∃ (j' p' : Nat), j' ≤ mv ∧ i = .int .i64 j' ∧ Bn wr' b p' ∧ p' ≤ n8 + 10 * j' ∧ Below w8.heap.size w8 wr') (fun _ i _ => mv - (intOf i).toNat)
              case atStart => exact ⟨0, n8, Nat.zero_le _, rfl, hy8.bn, by omega, Below.refl _ _⟩
              case round =>
                obtain ⟨j', p', hj', rfl, hbn'', hp', hb''⟩ := hrel
                have h1 := (hb''.cell (p := ⟨(ad.add (k * 2)).block, (ad.add (k * 2)).off + 1, none⟩) e8).trans g1
                by_cases hlt'' : j' < mv
                · obtain ⟨ad', rfl, hc'⟩ := (hv8.keep (Stay.below (S := S) hb'')).rd.at_ hlt''
                  have hmeas' := Lib.hid (show mv - (j' + 1) < mv - j' by omega)
                  generalize f.vals[j']?.getD 0 = z at *
                  go_wp2_with fail
                  refine (refputint_any _ p' _ _ hbn'' (by omega)).mono ?_
                  rintro e w9 ⟨v9, n9, rfl, hy9, hn9, hb9⟩
                  go_wp2_with fail
                  go_roundw
                  case rel => exact ⟨j' + 1, n9, hlt'', by go_num, hy9.bn, by omega, below_then hb'' hb9 (Nat.le_refl _)⟩
                  case measure => simp [intOf]; exact hmeas'.out
                · obtain rfl : j' = mv := by omega
                  go_wp2_with fail
                  go_roundw
                  case rel => exact ⟨k + 1, p', hlt, by go_num, hbn'', by omega, Hst.out, below_then hb08 hb'' (Nat.le_refl _)⟩
                  case measure => simp [intOf]; exact hmeas.out
      · obtain rfl : k = n := by omega
        have hE := Lib.hid (putE_ok (fs := fs) (by rw [H1.out]; exact h8) (fun f hf => by
          obtain ⟨i, hi, e⟩ := List.getElem_of_mem hf
          exact Hno.out i f (by rw [← H1.out]; exact hi) (by rw [List.getElem?_eq_getElem hi, e])))
        go_wp2_with fail
        go_ret2
        exact ⟨_, by rw [hE.out]; rfl, hb⟩
theorem numB_lo {z k : Int} (h : z < k) : numB z k = false := by unfold numB; rw [decide_eq_false (by omega)]; rfl
theorem numB_hi {z k : Int} (h : 1099511627776 < z) : numB z k = false := by unfold numB; rw [decide_eq_false (show ¬ z ≤ 1099511627776 by omega)]; simp
theorem numB_in {z k : Int} (h : k ≤ z) (h' : z ≤ 1099511627776) : numB z k = true := by unfold numB; rw [decide_eq_true h, decide_eq_true h']; rfl
set_option maxRecDepth 100000 in
theorem refputcmd_any (S : Nat → Prop) (v : Value) (m : Nat) (x : En) (A : Option Addr) (n c : Nat) (w : World) (hv : Bn w v m) (hm : m ≤ 9000) (hf : FactsV S w (.slice A n c) x.facts) (hn : n ≤ maxLen) :
    Calls Try.prog 73 #[v, cmdV x (.slice A n c)] w (Res (cmdE x) w) := by
  unfold cmdV
  have hbA : Below w.heap.size w (w.alloc (.cells #[.int .i64 x.op, .int .i64 x.sess, .int .i64 x.seq, .slice A n c] 52)) := (Below.refl _ _).alloc (Nat.le_refl _) _
  have hblk := Blk.new w 52 #[.int .i64 x.op, .int .i64 x.sess, .int .i64 x.seq, .slice A n c]
  have hc0 := hblk.cell 0
  have hc1 := hblk.cell 1
  have hc2 := hblk.cell 2
  have hc3 := hblk.cell 3
  simp only [List.getElem?_toArray, List.getElem?_cons_zero, List.getElem?_cons_succ] at hc0 hc1 hc2 hc3
  have hv1 := hv.below hbA
  have hf1 := hf.keep (Stay.below (S := S) hbA)
  have hcs : (x.op < 0 ∧ cmdE x = 24) ∨ (0 ≤ x.op ∧ 3 < x.op ∧ cmdE x = 24) ∨ (0 ≤ x.op ∧ x.op ≤ 3 ∧ x.sess < 0 ∧ cmdE x = 1) ∨ (0 ≤ x.op ∧ x.op ≤ 3 ∧ 0 ≤ x.sess ∧ 1099511627776 < x.sess ∧ cmdE x = 1) ∨
      (0 ≤ x.op ∧ x.op ≤ 3 ∧ 0 ≤ x.sess ∧ x.sess ≤ 1099511627776 ∧ x.seq < 0 ∧ cmdE x = 1) ∨ (0 ≤ x.op ∧ x.op ≤ 3 ∧ 0 ≤ x.sess ∧ x.sess ≤ 1099511627776 ∧ 0 ≤ x.seq ∧ 1099511627776 < x.seq ∧ cmdE x = 1) ∨
      (0 ≤ x.op ∧ x.op ≤ 3 ∧ 0 ≤ x.sess ∧ x.sess ≤ 1099511627776 ∧ 0 ≤ x.seq ∧ x.seq ≤ 1099511627776 ∧ cmdE x = putE x.facts) := by
    by_cases h1 : x.op < 0
    · exact .inl ⟨h1, cmdE_op (.inl h1)⟩
    by_cases h2 : 3 < x.op
    · exact .inr (.inl ⟨by omega, h2, cmdE_op (.inr h2)⟩)
    have h12 : ¬ (x.op < 0 ∨ 3 < x.op) := by omega
    by_cases h3 : x.sess < 0
    · exact .inr (.inr (.inl ⟨by omega, by omega, h3, cmdE_num h12 (by rw [numB_lo h3]; rfl)⟩))
    by_cases h4 : 1099511627776 < x.sess
    · exact .inr (.inr (.inr (.inl ⟨by omega, by omega, by omega, h4, cmdE_num h12 (by rw [numB_hi h4]; rfl)⟩)))
    by_cases h5 : x.seq < 0
    · exact .inr (.inr (.inr (.inr (.inl ⟨by omega, by omega, by omega, by omega, h5, cmdE_num h12 (by rw [numB_lo h5]; simp)⟩))))
    by_cases h6 : 1099511627776 < x.seq
    · exact .inr (.inr (.inr (.inr (.inr (.inl ⟨by omega, by omega, by omega, by omega, by omega, h6, cmdE_num h12 (by rw [numB_hi h6]; simp)⟩)))))
    · exact .inr (.inr (.inr (.inr (.inr (.inr ⟨by omega, by omega, by omega, by omega, by omega, by omega, cmdE_put h12 (numB_in (by omega) (by omega)) (numB_in (by omega) (by omega))⟩)))))
  rcases hcs with ⟨a1, hE⟩ | ⟨a1, a2, hE⟩ | ⟨a1, a2, a3, hE⟩ | ⟨a1, a2, a3, a4, hE⟩ | ⟨a1, a2, a3, a4, a5, hE⟩ | ⟨a1, a2, a3, a4, a5, a6, hE⟩ | ⟨a1, a2, a3, a4, a5, a6, hE⟩
  all_goals
    have HE := Lib.hid hE
    clear hE
    go_enter Try.func73, Try.ntmps73
    go_wp2_with fail
  all_goals try (go_ret2; exact ⟨_, by rw [HE.out]; rfl, hbA⟩)
  all_goals try (exfalso; omega)
  generalize w.alloc (.cells #[.int .i64 x.op, .int .i64 x.sess, .int .i64 x.seq, .slice A n c] 52) = w1 at *
  have hgl := hblk.lt
  refine (refputint_any v m _ _ hv1 (by omega)).mono ?_
  rintro e w2 ⟨v2, n2, rfl, hy2, hn2, hb2⟩
  have q1 := (hb2.cell (p := ⟨w.heap.size, 1, none⟩) hgl).trans hc1
  go_wp2_with fail
  refine (refputint_any v2 n2 _ _ hy2.bn (by omega)).mono ?_
  rintro e w3 ⟨v3, n3, rfl, hy3, hn3, hb3⟩
  have hb13 := below_then hb2 hb3 (Nat.le_refl _)
  have q2 := (hb13.cell (p := ⟨w.heap.size, 2, none⟩) hgl).trans hc2
  go_wp2_with fail
  refine (refputint_any v3 n3 _ _ hy3.bn (by omega)).mono ?_
  rintro e w4 ⟨v4, n4, rfl, hy4, hn4, hb4⟩
  have hb14 := below_then hb13 hb4 (Nat.le_refl _)
  have q3 := (hb14.cell (p := ⟨w.heap.size, 3, none⟩) hgl).trans hc3
  go_wp2_with fail
  refine (refbput_any S v4 n4 _ _ _ _ _ hy4.bn (by omega) (hf1.keep (Stay.below hb14)) hn).mono ?_
  rintro e w5 ⟨v5, rfl, hb5⟩
  have hb15 := below_then hb14 hb5 (Nat.le_refl _)
  go_wp2_with fail
  go_ret2
  exact ⟨_, by rw [HE.out]; rfl, below_then hbA hb15 (Nat.le_refl _)⟩
set_option maxRecDepth 100000 in
theorem refputentry_any (S : Nat → Prop) (v : Value) (m : Nat) (x : En) (A : Option Addr) (n c : Nat) (w : World) (hv : Bn w v m) (hm : m ≤ 8000) (hf : FactsV S w (.slice A n c) x.facts) (hn : n ≤ maxLen) :
    Calls Try.prog 42 #[v, enV x (.slice A n c)] w (Res (entE x) w) := by
  unfold enV
  have hbA : Below w.heap.size w (w.alloc (.cells #[.int .i64 x.idx, .int .i64 x.term, .int .i64 x.op, .int .i64 x.sess, .int .i64 x.seq, .slice A n c] 65)) := (Below.refl _ _).alloc (Nat.le_refl _) _
  have hblk := Blk.new w 65 #[.int .i64 x.idx, .int .i64 x.term, .int .i64 x.op, .int .i64 x.sess, .int .i64 x.seq, .slice A n c]
  have hc0 := hblk.cell 0
  have hc1 := hblk.cell 1
  have hc2 := hblk.cell 2
  have hc3 := hblk.cell 3
  have hc4 := hblk.cell 4
  have hc5 := hblk.cell 5
  simp only [List.getElem?_toArray, List.getElem?_cons_zero, List.getElem?_cons_succ] at hc0 hc1 hc2 hc3 hc4 hc5
  have hv1 := hv.below hbA
  have hf1 := hf.keep (Stay.below (S := S) hbA)
  have hcs : (x.idx < 1 ∧ entE x = 1) ∨ (1 ≤ x.idx ∧ 1099511627776 < x.idx ∧ entE x = 1) ∨
      (1 ≤ x.idx ∧ x.idx ≤ 1099511627776 ∧ x.term < 1 ∧ entE x = 1) ∨ (1 ≤ x.idx ∧ x.idx ≤ 1099511627776 ∧ 1 ≤ x.term ∧ 1099511627776 < x.term ∧ entE x = 1) ∨
      (1 ≤ x.idx ∧ x.idx ≤ 1099511627776 ∧ 1 ≤ x.term ∧ x.term ≤ 1099511627776 ∧ entE x = cmdE x) := by
    by_cases h3 : x.idx < 1
    · exact .inl ⟨h3, entE_num (by rw [numB_lo h3]; rfl)⟩
    by_cases h4 : 1099511627776 < x.idx
    · exact .inr (.inl ⟨by omega, h4, entE_num (by rw [numB_hi h4]; rfl)⟩)
    by_cases h5 : x.term < 1
    · exact .inr (.inr (.inl ⟨by omega, by omega, h5, entE_num (by rw [numB_lo h5]; simp)⟩))
    by_cases h6 : 1099511627776 < x.term
    · exact .inr (.inr (.inr (.inl ⟨by omega, by omega, by omega, h6, entE_num (by rw [numB_hi h6]; simp)⟩)))
    · exact .inr (.inr (.inr (.inr ⟨by omega, by omega, by omega, by omega, entE_cmd (numB_in (by omega) (by omega)) (numB_in (by omega) (by omega))⟩)))
  rcases hcs with ⟨a1, hE⟩ | ⟨a1, a2, hE⟩ | ⟨a1, a2, a3, hE⟩ | ⟨a1, a2, a3, a4, hE⟩ | ⟨a1, a2, a3, a4, hE⟩
  all_goals
    have HE := Lib.hid hE
    clear hE
    go_enter Try.func42, Try.ntmps42
    go_wp2_with fail
  all_goals try (go_ret2; exact ⟨_, by rw [HE.out]; rfl, hbA⟩)
  all_goals try (exfalso; omega)
  generalize w.alloc (.cells #[.int .i64 x.idx, .int .i64 x.term, .int .i64 x.op, .int .i64 x.sess, .int .i64 x.seq, .slice A n c] 65) = w1 at *
  have hgl := hblk.lt
  refine (refputint_any v m _ _ hv1 (by omega)).mono ?_
  rintro e w2 ⟨v2, n2, rfl, hy2, hn2, hb2⟩
  have q1 := (hb2.cell (p := ⟨w.heap.size, 1, none⟩) hgl).trans hc1
  go_wp2_with fail
  refine (refputint_any v2 n2 _ _ hy2.bn (by omega)).mono ?_
  rintro e w3 ⟨v3, n3, rfl, hy3, hn3, hb3⟩
  have hb13 := below_then hb2 hb3 (Nat.le_refl _)
  have q2 := (hb13.cell (p := ⟨w.heap.size, 2, none⟩) hgl).trans hc2
  have q3 := (hb13.cell (p := ⟨w.heap.size, 3, none⟩) hgl).trans hc3
  have q4 := (hb13.cell (p := ⟨w.heap.size, 4, none⟩) hgl).trans hc4
  have q5 := (hb13.cell (p := ⟨w.heap.size, 5, none⟩) hgl).trans hc5
  go_wp2_with fail
  refine (refputcmd_any S v3 n3 x _ _ _ _ hy3.bn (by omega) (hf1.keep (Stay.below hb13)) hn).mono ?_
  rintro e w5 ⟨v5, rfl, hb5⟩
  have hb15 := below_then hb13 hb5 (Nat.le_refl _)
  go_wp2_with fail
  go_ret2
  exact ⟨_, by rw [HE.out]; rfl, below_then hbA hb15 (Nat.le_refl _)⟩
theorem reftplain_any (S : Nat → Prop) (x : En) (A : Option Addr) (n c : Nat) (w : World) (hf : FactsV S w (.slice A n c) x.facts) (hn : n ≤ maxLen) :
    Calls Try.prog 76 #[enV x (.slice A n c)] w fun e w' => e = .returned (.bool (plainB x)) ∧ Below w.heap.size w w' := by
  have hbA : Below w.heap.size w (w.alloc (.cells #[.int .i64 x.idx, .int .i64 x.term, .int .i64 x.op, .int .i64 x.sess, .int .i64 x.seq, .slice A n c] 65)) := (Below.refl _ _).alloc (Nat.le_refl _) _
  have hcall := refputentry_any S (.slice none 0 0) 0 x A n c (w.alloc (.cells #[.int .i64 x.idx, .int .i64 x.term, .int .i64 x.op, .int .i64 x.sess, .int .i64 x.seq, .slice A n c] 65)) (Bn.nil _) (by omega) (hf.keep (Stay.below (S := S) hbA)) hn
  unfold enV at *
  obtain ⟨k, hk⟩ : ∃ k, entE x = k := ⟨_, rfl⟩
  have hP := Lib.hid (plainB_eq hk)
  rw [hk] at hcall
  clear hk
  go_enter Try.func76, Try.ntmps76
  go_wp2_with fail
  refine hcall.mono ?_
  rintro e w1 ⟨v1, rfl, hb1⟩
  have hb1 := below_then hbA hb1 (Nat.le_refl _)
  go_wp2_with fail
  go_ret
  exact ⟨by rw [hP.out]; rfl, hb1⟩
end Go.Proofs.Ytojmkbhihnnmaaa
