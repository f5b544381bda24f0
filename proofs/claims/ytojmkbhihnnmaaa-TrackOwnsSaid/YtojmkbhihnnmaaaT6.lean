/-
  The track: texts of paths; facts put behind bytes.
-/
import Derived.Test.YtojmkbhihnnmaaaT5
import Derived.Test.YtojmkbhihnnmaaaJoin
import Derived.Lib.AppendStr
import Derived.Lib.Join
namespace Go.Proofs.Ytojmkbhihnnmaaa
open Go.RowKit

theorem Bn.below {n : Nat} {w w' : World} {v : Value} (h : Bn w v n) (hb : Below w.heap.size w w') : Bn w' v n := by
  obtain ⟨A, c, xs, e, h1, h2, h3, h4⟩ := h
  exact ⟨A, c, xs, e, h1, h2, h3, Rds.below h4 hb⟩
theorem join_small (x : ByteArray) (r : List ByteArray) (h : ∀ s ∈ x :: r, s.size ≤ 12) (hl : (x :: r).length ≤ 3) : (Lib.join ((x :: r).map (·.data.toList)) (ByteArray.mk #[47]).data.toList).length ≤ 38 := by
  rw [List.map_cons, Lib.join_length]
  have hs : ∀ (l : List ByteArray), (∀ s ∈ l, s.size ≤ 12) → Lib.lens (l.map (·.data.toList)) ≤ 12 * l.length := by
    intro l
    induction l with
    | nil => intro _; simp [Lib.lens]
    | cons a l ih =>
      intro h
      have h1 := ih fun s hs => h s (List.mem_cons_of_mem _ hs)
      have h2 := h a List.mem_cons_self
      have h3 : a.data.toList.length = a.size := by rw [Array.length_toList]; rfl
      simp only [Lib.lens, List.map_cons, List.sum_cons, List.length_cons] at *
      omega
  have h1 := hs (x :: r) h
  simp only [List.map_cons, List.length_cons, List.length_map] at *
  simp only [List.length_nil, Nat.zero_add, Nat.one_mul]
  omega
theorem text_any (A : Option Addr) (n c : Nat) (p : List ByteArray) (w : World) (hr : RdT w A n p) (hn : n ≤ c) (hp : mayP p = true) :
    Calls Try.prog 104 #[.slice A n c] w fun e w' => ∃ s : ByteArray, e = .returned (.tuple #[.string s, .int .i64 0]) ∧ s.size ≤ 38 ∧ Below w.heap.size w w' := by
  have hl := hr.len
  have h3 := mayP_len hp
  have hnm := mayP_name hp
  have hn3 : n ≤ 3 := by omega
  have hn4 : n ≤ maxLen := maxLen_big hn3 (by omega)
  cases p with
  | nil =>
    obtain rfl : n = 0 := by simpa using hl.symm
    go_enter Try.func104, Try.ntmps104
    go_wp2_with fail
    refine (may_any _ _ _ _ _ hr hn4).mono ?_
    rintro e w1 ⟨rfl, hb⟩
    rw [hp]
    go_wp2_with fail
    go_ret2
    exact ⟨_, rfl, by decide, hb⟩
  | cons x r =>
    have hn0 : 0 < n := by simp at hl; omega
    obtain ⟨ad, s0, rfl, hs0, hc0⟩ := hr.at_ hn0
    have hj := join_small x r (fun s hs => nameB_size (hnm s hs)) h3
    have hl := Lib.hid hl
    have hsp : ad.spot = none := by
      rw [add_nought] at hc0
      unfold World.cell? at hc0
      split at hc0
      · split at hc0
        · cases hc0
        · rename_i h; simpa using h
      · cases hc0
    obtain ⟨bk, o, sp⟩ := ad
    obtain rfl : sp = none := hsp
    have hbk := lt_of_cell hc0
    rw [block_of_add] at hbk
    have h0' : decide (n = 0) = false := decide_eq_false (by omega)
    have hcall := fun w1 (hb : Below w.heap.size w w1) => strings_join bk o c (x :: r) ⟨#[47]⟩ w1 (fun j y hy => by
      have hj : j < n := by rw [← hl.out]; exact (List.getElem?_eq_some_iff.1 hy).1
      obtain ⟨ad', s', e', hs', hc'⟩ := (hr.below hb).at_ hj
      obtain rfl := Option.some.inj e'
      rw [hy] at hs'
      obtain rfl := Option.some.inj hs'
      have ea : (⟨bk, o, none⟩ : Addr).add j = ⟨bk, o + j, none⟩ := by unfold Addr.add; split <;> simp [*]
      rwa [ea] at hc') (Nat.lt_of_lt_of_le hbk hb.size) (by rw [hl.out]; omega) (by rw [hl.out]; exact hn) (Nat.le_trans hj (by omega))
    have hsz := Lib.hid (show (ByteArray.mk (Lib.join ((x :: r).map (·.data.toList)) (ByteArray.mk #[47]).data.toList).toArray).size ≤ 38 by show (Lib.join _ _).toArray.size ≤ 38; rw [List.size_toArray]; exact hj)
    generalize ByteArray.mk (Lib.join ((x :: r).map (·.data.toList)) (ByteArray.mk #[47]).data.toList).toArray = s at *
    rw [hl.out] at hcall
    have hcall := Lib.hid hcall
    clear hj hc0 hs0
    go_enter Try.func104, Try.ntmps104
    go_wp2_with fail
    refine (may_any _ _ _ _ _ hr hn4).mono ?_
    rintro e w1 ⟨rfl, hb⟩
    rw [hp]
    have h00 : ((n : Int) == 0) = false := beq_eq_false_iff_ne.2 (by omega)
    go_wp2_with fail
    refine (hcall.out w1 hb).mono ?_
    rintro e w2 ⟨rfl, hb2⟩
    go_wp2_with fail
    go_ret2
    exact ⟨_, rfl, hsz.out, below_then hb hb2 (Nat.le_refl _)⟩
theorem strCells_one (s : ByteArray) (u : Value) (h : u ∈ Lib.strCells s) : u.oneCell' = true := by
  unfold Lib.strCells at h
  obtain ⟨b, _, rfl⟩ := List.mem_map.1 h
  rfl
theorem puttext_any (v : Value) (n : Nat) (s : ByteArray) (w : World) (hv : Bn w v n) (hn : n ≤ 900000) (hs : s.size ≤ 1000) :
    Calls Try.prog 105 #[v, .string s] w fun e w' => ∃ v' n', e = .returned v' ∧ By w.heap.size w' v' n' ∧ n' ≤ n + 10 + s.size ∧ Below w.heap.size w w' := by
  obtain ⟨i0, hi0, hz0, hz1, hz2⟩ := info_parts u8_info
  go_enter Try.func105, Try.ntmps105
  go_wp2_with fail
  refine (putint_any v n _ w hv (by omega)).mono ?_
  rintro e w1 ⟨v1, n1, rfl, ⟨xs, hx, hown⟩, hn1, hb1⟩
  go_wp2_with (at_builtin; refine Lib.wpList_append_own_string _ rfl (.tmp 8) (.tmp 9) 61 9 rfl w.heap.size 5 i0 Try.underlying61 Try.underlying9 hi0 hz0 hz1 hz2 v1 n1 xs rfl hown s rfl (by unfold maxLen; omega) (by omega) hb1.size ?_; intro v2 w2 hown2 hg2 _)
  go_ret
  exact ⟨v2, _, rfl, ⟨_, fun u hu => (List.mem_append.1 hu).elim (hx u) (strCells_one s u), hown2⟩, by omega, hb1.trans (below_own hown hg2 hb1.size)⟩
/-- what comes of putting facts -/
def putE (fs : List Fa) : Int := if 8 < fs.length then 13 else if fs.any (fun f => !plainF f) then 12 else 0
theorem plainF_parts {f : Fa} (h : plainF f = true) : (∀ p ∈ f.paths, mayP p = true) ∧ f.paths.length ≤ 3 ∧ f.vals.length ≤ 2 := by
  unfold plainF at h
  simp only [Bool.and_eq_true, Bool.not_eq_true', decide_eq_true_eq, List.any_eq_false] at h
  refine ⟨fun p hp => ?_, h.2.2.1, h.2.2.2⟩
  have := h.1 p hp
  simpa using this
theorem putE_long {fs : List Fa} (h : 8 < fs.length) : putE fs = 13 := if_pos h
theorem putE_bad {fs : List Fa} {f : Fa} (h : ¬ 8 < fs.length) (hm : f ∈ fs) (hp : plainF f = false) : putE fs = 12 := by
  unfold putE
  rw [if_neg h, if_pos (List.any_eq_true.2 ⟨f, hm, by rw [hp]; rfl⟩)]
theorem putE_ok {fs : List Fa} (h : ¬ 8 < fs.length) (hp : ∀ f ∈ fs, plainF f = true) : putE fs = 0 := by
  unfold putE
  rw [if_neg h, if_neg]
  rw [List.any_eq_true]
  rintro ⟨f, hf, h1⟩
  rw [hp f hf] at h1
  cases h1
theorem facts_len {S : Nat → Prop} {w : World} {A : Option Addr} {n c : Nat} {fs : List Fa} (h : FactsV S w (.slice A n c) fs) : fs.length = n := by
  obtain ⟨_, _, _, e, _, _, h⟩ := h.form
  injection e with _ e
  rw [h, ← e]
set_option maxRecDepth 100000 in
set_option maxHeartbeats 2000000 in
theorem bput_any (S : Nat → Prop) (v : Value) (m : Nat) (A : Option Addr) (n c : Nat) (fs : List Fa) (w : World) (hv : Bn w v m) (hm : m ≤ 10000) (hf : FactsV S w (.slice A n c) fs) (hn : n ≤ maxLen) :
    Calls Try.prog 100 #[v, .slice A n c] w fun e w' => ∃ v', e = .returned (.tuple #[v', .int .i64 (putE fs)]) ∧ Below w.heap.size w w' := by
  have H1 := Lib.hid (facts_len hf)
  unfold maxLen at hn
  by_cases h8 : 8 < n
  · have hE := Lib.hid (putE_long (fs := fs) (by rw [H1.out]; exact h8))
    go_enter Try.func100, Try.ntmps100
    go_wp2_with fail
    go_ret2
    exact ⟨_, by rw [hE.out]; rfl, Below.refl _ _⟩
  · go_enter Try.func100, Try.ntmps100
    go_wp2_with fail
    refine (putint_any v m _ w hv (by omega)).mono ?_
    rintro e w1 ⟨v1, n1, rfl, hy1, hn1, hb1⟩
    go_wp2_with fail
    go_loopw [0, 23] (fun b i wr => ∃ (k q : Nat), k ≤ n ∧ i = .int .i64 k ∧ Bn wr b q ∧ q ≤ 10010 + 200 * k ∧ (∀ j f, j < k → fs[j]? = some f → plainF f = true) ∧ Below w.heap.size w wr) (fun _ i _ => n - (intOf i).toNat)
    case atStart => exact ⟨0, n1, Nat.zero_le _, rfl, hy1.bn, by omega, fun j f h => by omega, hb1⟩
    case round =>
      obtain ⟨k, q, hk, rfl, hbn, hq, hno, hb⟩ := hrel
      have Hno := Lib.hid hno
      clear hno
      by_cases hlt : k < n
      · obtain ⟨ad, f, B, mp, d, C, mv, r, rfl, hfk, c0, c1, hp, hvl, hmd, hdm, hpl, hmr, hrm, hvll⟩ := (hf.keep (Stay.below (S := S) hb)).at_ hlt
        have hbA : Below wr.heap.size wr (wr.alloc (.cells #[.slice B mp d, .slice C mv r] 84)) := (Below.refl _ _).alloc (Nat.le_refl _) _
        have hblk := Blk.new wr 84 #[.slice B mp d, .slice C mv r]
        have hp1 := hp.keep (Stay.below (S := S) hbA)
        have hv1 := hvl.keep (Stay.below (S := S) hbA)
        have hbn1 := hbn.below hbA
        have hb01 := below_then hb hbA (Nat.le_refl _)
        have hmeas := Lib.hid (show n - (k + 1) < n - k by omega)
        have Hpl := Lib.hid hpl
        have Hvl := Lib.hid hvll
        clear hpl hvll
        go_wp2_with fail
        generalize wr.alloc (.cells #[.slice B mp d, .slice C mv r] 84) = w2 at *
        generalize wr.heap.size = g at *
        refine (bplain_any _ _ _ _ _ _ _ f _ hp1 hv1 (Nat.le_trans hmd hdm) (Nat.le_trans hmr hrm)).mono ?_
        rintro e w3 ⟨rfl, hb3⟩
        have hc0 := (hblk.kept hb3).cell 0
        have hc1 := (hblk.kept hb3).cell 1
        simp only [List.getElem?_toArray, List.getElem?_cons_zero, List.getElem?_cons_succ] at hc0 hc1
        cases hpf : plainF f with
        | false =>
          have hE := Lib.hid (putE_bad (fs := fs) (by rw [H1.out]; exact h8) (List.mem_of_getElem? hfk) hpf)
          clear hfk
          go_wp2_with fail
          go_ret2
          exact ⟨_, by rw [hE.out]; rfl, below_then hb01 hb3 (Nat.le_refl _)⟩
        | true =>
          have Hst := Lib.hid (show ∀ j y, j < k + 1 → fs[j]? = some y → plainF y = true from fun j y hj hy => by
            rcases Nat.lt_or_ge j k with h | h
            · exact Hno.out j y h hy
            · obtain rfl : j = k := by omega
              obtain rfl : f = y := Option.some.inj (hfk.symm.trans hy)
              exact hpf)
          obtain ⟨hps, hp3, hv2⟩ := plainF_parts hpf
          rw [Hpl.out] at hp3
          rw [Hvl.out] at hv2
          have Hps := Lib.hid hps
          clear hfk hpf hps
          go_wp2_with fail
          refine (putint_any _ q _ w3 (hbn1.below hb3) (by omega)).mono ?_
          rintro e w4 ⟨v4, n4, rfl, hy4, hn4, hb4⟩
          have hg2 := hblk.lt
          have hb24 := below_then hb3 hb4 (Nat.le_refl _)
          have hc0' : w4.cell? ⟨g, 0, none⟩ = some (.slice B mp d) := (hb24.cell (p := ⟨g, 0, none⟩) hg2).trans (by rw [← hc0]; exact (hb3.cell (p := ⟨g, 0, none⟩) hg2).symm)
          clear hc0
          have hc0 := hc0'
          have hp4 := hp1.keep (Stay.below (S := S) hb24)
          have hb04 := below_then hb01 hb24 (Nat.le_refl _)
          unfold maxLen at hdm
          go_wp2_with fail
          go_loopw [0, 38] (fun b i wr' => ∃ (k' q' : Nat), k' ≤ mp ∧ i = .int .i64 k' ∧ Bn wr' b q' ∧ q' ≤ n4 + 48 * k' ∧ Below w4.heap.size w4 wr') (fun _ i _ => mp - (intOf i).toNat)
          case atStart => exact ⟨0, n4, Nat.zero_le _, rfl, hy4.bn, by omega, Below.refl _ _⟩
          case round =>
            obtain ⟨k', q', hk', rfl, hbn', hq', hb'⟩ := hrel
            by_cases hlt' : k' < mp
            · obtain ⟨ad', p, B', m', d', rfl, hpk, hc', hpp, hmd', hdm', hpl'⟩ := (hp4.keep (Stay.below (S := S) hb')).at_ hlt'
              have hmay := Hps.out p (List.mem_of_getElem? hpk)
              have hmeas' := Lib.hid (show mp - (k' + 1) < mp - k' by omega)
              clear hpk hpl'
              go_wp2_with fail
              refine (text_any _ _ _ p _ hpp.rd hmd' hmay).mono ?_
              rintro e w5 ⟨s, rfl, hs, hb5⟩
              go_wp2_with fail
              refine (puttext_any _ q' s _ (hbn'.below hb5) (by omega) (by omega)).mono ?_
              rintro e w6 ⟨v6, n6, rfl, hy6, hn6, hb6⟩
              go_wp2_with fail
              go_roundw
              case rel => exact ⟨k' + 1, n6, hlt', by go_num, hy6.bn, by omega, below_then (below_then hb' hb5 (Nat.le_refl _)) hb6 (Nat.le_refl _)⟩
              case measure => simp [intOf]; exact hmeas'.out
            · obtain rfl : k' = mp := by omega
              obtain ⟨w7, rfl⟩ : ∃ wo : World, wo = wr := ⟨_, rfl⟩
              have hb27 := below_then hb24 hb' (Nat.le_refl _)
              have hc1' : w7.cell? ⟨g, 1, none⟩ = some (.slice C mv r) := (hb27.cell (p := ⟨g, 1, none⟩) hg2).trans (by rw [← hc1]; exact (hb3.cell (p := ⟨g, 1, none⟩) hg2).symm)
              have hb07 := below_then hb04 hb' (Nat.le_refl _)
              clear hc1 hc0' hc0 c0 c1
              unfold maxLen at hrm
              go_wp2_with fail
              refine (putint_any _ q' _ w7 hbn' (by omega)).mono ?_
              rintro e w8 ⟨v8, n8, rfl, hy8, hn8, hb8⟩
              have hc1 : w8.cell? ⟨g, 1, none⟩ = some (.slice C mv r) := ((below_then hb27 hb8 (Nat.le_refl _)).cell (p := ⟨g, 1, none⟩) hg2).trans ((hb27.cell (p := ⟨g, 1, none⟩) hg2).symm.trans hc1')
              clear hc1'
              have hv8 := hv1.keep (Stay.below (S := S) (below_then hb27 hb8 (Nat.le_refl _)))
              have hb08 := below_then hb07 hb8 (Nat.le_refl _)
              go_wp2_with fail
              go_loopw [0, 59] (fun b i wr' => ∃ (j' p' : Nat), j' ≤ mv ∧ i = .int .i64 j' ∧ Bn wr' b p' ∧ p' ≤ n8 + 10 * j' ∧ Below w8.heap.size w8 wr') (fun _ i _ => mv - (intOf i).toNat)
              case atStart => exact ⟨0, n8, Nat.zero_le _, rfl, hy8.bn, by omega, Below.refl _ _⟩
              case round =>
                obtain ⟨j', p', hj', rfl, hbn'', hp', hb''⟩ := hrel
                by_cases hlt'' : j' < mv
                · obtain ⟨ad', rfl, hc'⟩ := (hv8.keep (Stay.below (S := S) hb'')).rd.at_ hlt''
                  have hmeas' := Lib.hid (show mv - (j' + 1) < mv - j' by omega)
                  generalize f.vals[j']?.getD 0 = z at *
                  go_wp2_with fail
                  refine (putint_any _ p' _ _ hbn'' (by omega)).mono ?_
                  rintro e w9 ⟨v9, n9, rfl, hy9, hn9, hb9⟩
                  go_wp2_with fail
                  go_roundw
                  case rel => exact ⟨j' + 1, n9, hlt'', by go_num, hy9.bn, by omega, below_then hb'' hb9 (Nat.le_refl _)⟩
                  case measure => simp [intOf]; exact hmeas'.out
                · obtain rfl : j' = mv := by omega
                  go_wp2_with fail
                  go_roundw
                  case rel => exact ⟨k + 1, p', hlt, by go_num, hbn'', by omega, Hst.out, below_then hb08 hb'' (Nat.le_refl _)⟩
                  case measure => simp [intOf]; exact hmeas.out
      · obtain rfl : k = n := by omega
        have hE := Lib.hid (putE_ok (fs := fs) (by rw [H1.out]; exact h8) (fun f hf => by
          obtain ⟨i, hi, e⟩ := List.getElem_of_mem hf
          exact Hno.out i f (by rw [← H1.out]; exact hi) (by rw [List.getElem?_eq_getElem hi, e])))
        go_wp2_with fail
        go_ret2
        exact ⟨_, by rw [hE.out]; rfl, hb⟩
end Go.Proofs.Ytojmkbhihnnmaaa
