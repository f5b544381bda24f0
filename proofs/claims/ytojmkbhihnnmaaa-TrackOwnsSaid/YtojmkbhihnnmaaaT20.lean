/-
  The answer's track: in memory; New, End, Term, Hint.
-/
import Derived.Test.YtojmkbhihnnmaaaT19
namespace Go.Proofs.Ytojmkbhihnnmaaa
open Go.RowKit

/-- the answer's track -/
structure RefIn (S : Nat → Prop) (w : World) (g : Nat) (t : Trk) (A : Option Addr) (n c : Nat) (zs : List (Value × En)) : Prop where
  b : Blk w g 78 #[.int .i64 t.index, .int .i64 t.term, .slice A n c]
  o : w.ownsRow 0 65 6 (.slice A n c) n (zs.flatMap enC)
  d : DeepE S w zs
  l : zs.map (·.2) = t.L
  i : t.Inv
section
variable {S : Nat → Prop} {w w' : World} {g n c : Nat} {t : Trk} {A : Option Addr} {zs : List (Value × En)}
theorem RefIn.r (h : RefIn S w g t A n c zs) : RdE w A n zs := Rds.of_own h.o
theorem RefIn.nc (h : RefIn S w g t A n c zs) : n ≤ c ∧ c ≤ maxLen := own_bounds h.o
theorem RefIn.len (h : RefIn S w g t A n c zs) : n = t.L.length ∧ zs.length = n := by
  have h2 := congrArg List.length h.l
  rw [List.length_map] at h2
  have := h.r.len
  omega
theorem RefIn.keep (h : RefIn S w g t A n c zs) (hk : ∀ j, (j = g ∨ rowOf A j ∨ S j) → j < w.heap.size → w'.heap[j]? = w.heap[j]?) : RefIn S w' g t A n c zs where
  b := (hk g (.inl rfl) h.b.lt).trans h.b
  o := own_keep h.o fun j hj hl => hk j (.inr (.inl hj)) hl
  d := h.d.keep fun j hj hl => hk j (.inr (.inr hj)) hl
  l := h.l
  i := h.i
theorem RefIn.below (h : RefIn S w g t A n c zs) (hb : Below w.heap.size w w') : RefIn S w' g t A n c zs := h.keep fun _ _ hl => hb.block _ hl
theorem RefIn.mono {S' : Nat → Prop} (h : RefIn S w g t A n c zs) (hS : ∀ j, j < w.heap.size → S j → S' j) : RefIn S' w g t A n c zs := ⟨h.b, h.o, h.d.mono hS, h.l, h.i⟩
theorem RefIn.at_ (h : RefIn S w g t A n c zs) {k : Nat} (hk : k < n) :
    ∃ ad B m d x, A = some ad ∧ zs[k]? = some (.slice B m d, x) ∧ t.L[k]? = some x ∧ w.cell? (ad.add (k * 6)) = some (.int .i64 x.idx) ∧ w.cell? ⟨(ad.add (k * 6)).block, (ad.add (k * 6)).off + 1, none⟩ = some (.int .i64 x.term) ∧
      w.cell? ⟨(ad.add (k * 6)).block, (ad.add (k * 6)).off + 2, none⟩ = some (.int .i64 x.op) ∧ w.cell? ⟨(ad.add (k * 6)).block, (ad.add (k * 6)).off + 3, none⟩ = some (.int .i64 x.sess) ∧
      w.cell? ⟨(ad.add (k * 6)).block, (ad.add (k * 6)).off + 4, none⟩ = some (.int .i64 x.seq) ∧ w.cell? ⟨(ad.add (k * 6)).block, (ad.add (k * 6)).off + 5, none⟩ = some (.slice B m d) := by
  obtain ⟨ad, v, x, e, hz, c0, c1, c2, c3, c4, c5⟩ := h.r.at_ hk
  obtain ⟨B, m, d, hv, _⟩ := (h.d _ (List.mem_of_getElem? hz)).form
  obtain rfl : v = _ := hv
  refine ⟨ad, B, m, d, x, e, hz, ?_, c0, c1, c2, c3, c4, c5⟩
  rw [← h.l, List.getElem?_map, hz]
  rfl
theorem RefIn.cells (h : RefIn S w g t A n c zs) : w.cell? ⟨g, 0, none⟩ = some (.int .i64 t.index) ∧ w.cell? ⟨g, 1, none⟩ = some (.int .i64 t.term) ∧ w.cell? ⟨g, 2, none⟩ = some (.slice A n c) := ⟨h.b.cell 0, h.b.cell 1, h.b.cell 2⟩
end
theorem rnew_ok {i tm : Int} (hb : baseB i tm = true) (w : World) : Calls Try.prog 36 #[.int .i64 i, .int .i64 tm] w fun e w' => e = .returned (.pointer (some ⟨w.heap.size, 0, none⟩)) ∧ Blk w' w.heap.size 78 #[.int .i64 i, .int .i64 tm, .slice none 0 0] ∧ Below w.heap.size w w' := by
  have hA : Below w.heap.size w (w.alloc (.cells #[.int .i64 i, .int .i64 tm, .slice none 0 0] 78)) := (Below.refl _ _).alloc (Nat.le_refl _) _
  have hk := Blk.new w 78 #[.int .i64 i, .int .i64 tm, .slice none 0 0]
  by_cases h0 : i = 0 ∧ tm = 0
  · obtain ⟨rfl, rfl⟩ := h0
    go_enter Try.func36, Try.ntmps36
    go_wp2_with fail
    go_ret
    exact ⟨rfl, hk, hA⟩
  · have h1 : numB i 1 = true ∧ numB tm 1 = true := by
      unfold baseB at hb
      rw [Bool.or_eq_true, Bool.and_eq_true, Bool.and_eq_true, decide_eq_true_eq, decide_eq_true_eq] at hb
      exact hb.resolve_left h0
    have h2 : 1 ≤ i ∧ i ≤ 1099511627776 ∧ 1 ≤ tm ∧ tm ≤ 1099511627776 := by
      have := h1.1
      have := h1.2
      simp only [numB, Bool.and_eq_true, decide_eq_true_eq] at *
      omega
    obtain ⟨a1, a2, a3, a4⟩ := h2
    have a5 : (i == 0) = false := beq_eq_false_iff_ne.2 (by omega)
    clear h0 hb h1
    go_enter Try.func36, Try.ntmps36
    go_wp2_with fail
    go_ret
    exact ⟨rfl, hk, hA⟩
theorem rnew_nil {i tm : Int} (hb : baseB i tm = false) (w : World) : Calls Try.prog 36 #[.int .i64 i, .int .i64 tm] w fun e w' => e = .returned (.pointer none) ∧ w = w' := by
  unfold baseB numB at hb
  by_cases h0 : i = 0
  · subst h0
    have h1 : (tm == 0) = false := by
      rw [beq_eq_false_iff_ne]
      rintro rfl
      exact absurd hb (by decide)
    clear hb
    go_enter Try.func36, Try.ntmps36
    go_wp2_with fail
    go_ret
    exact ⟨rfl, rfl⟩
  · have h1 : (i == 0) = false := beq_eq_false_iff_ne.2 h0
    rw [decide_eq_false h0, Bool.false_and, Bool.false_or] at hb
    by_cases a1 : 1 ≤ i
    · by_cases a2 : i ≤ 1099511627776
      · by_cases a3 : 1 ≤ tm
        · have a4 : ¬ tm ≤ 1099511627776 := by
            rw [decide_eq_true a1, decide_eq_true a2, decide_eq_true a3] at hb
            simpa using hb
          clear hb
          go_enter Try.func36, Try.ntmps36
          go_wp2_with fail
          go_ret
          exact ⟨rfl, rfl⟩
        · clear hb
          go_enter Try.func36, Try.ntmps36
          go_wp2_with fail
          go_ret
          exact ⟨rfl, rfl⟩
      · clear hb
        go_enter Try.func36, Try.ntmps36
        go_wp2_with fail
        go_ret
        exact ⟨rfl, rfl⟩
    · clear hb
      go_enter Try.func36, Try.ntmps36
      go_wp2_with fail
      go_ret
      exact ⟨rfl, rfl⟩
theorem rplain_any (S : Nat → Prop) (x : En) (A : Option Addr) (n c : Nat) (w : World) (hf : FactsV S w (.slice A n c) x.facts) (hn : n ≤ maxLen) :
    Calls Try.prog 76 #[enV x (.slice A n c)] w fun e w' => e = .returned (.bool (plainB x)) ∧ Below w.heap.size w w' := by
  have hbA : Below w.heap.size w (w.alloc (.cells #[.int .i64 x.idx, .int .i64 x.term, .int .i64 x.op, .int .i64 x.sess, .int .i64 x.seq, .slice A n c] 65)) := (Below.refl _ _).alloc (Nat.le_refl _) _
  have hcall := refputentry_any S (.slice none 0 0) 0 x A n c (w.alloc (.cells #[.int .i64 x.idx, .int .i64 x.term, .int .i64 x.op, .int .i64 x.sess, .int .i64 x.seq, .slice A n c] 65)) (Bn.nil _) (by omega) (hf.keep (Stay.below (S := S) hbA)) hn
  unfold enV at *
  obtain ⟨k, hk⟩ : ∃ k, entE x = k := ⟨_, rfl⟩
  have hP := Lib.hid (plainB_eq hk)
  rw [hk] at hcall
  clear hk
  go_enter Try.func76, Try.ntmps76
  go_wp2_with fail
  refine hcall.mono ?_
  rintro e w1 ⟨v1, rfl, hb1⟩
  have hb1 := below_then hbA hb1 (Nat.le_refl _)
  go_wp2_with fail
  go_ret
  exact ⟨by rw [hP.out]; rfl, hb1⟩
section
variable {S : Nat → Prop} {w w' : World} {g n c : Nat} {t : Trk} {A : Option Addr} {zs : List (Value × En)}
set_option maxRecDepth 100000 in
theorem rend_any (h : RefIn S w g t A n c zs) (hn : n ≤ 1000000) : Calls Try.prog 70 #[.pointer (some ⟨g, 0, none⟩)] w fun e w' => e = .returned (.tuple #[.int .i64 t.lastF.1, .int .i64 t.lastF.2]) ∧ Below w.heap.size w w' := by
  obtain ⟨h0, h1, h2⟩ := h.cells
  obtain ⟨hl, _⟩ := h.len
  rcases Nat.eq_zero_or_pos n with hn0 | hn0
  · have e := Lib.hid (t.lastF_nil (List.eq_nil_of_length_eq_zero (by omega)))
    subst hn0
    clear hl
    go_enter Try.func70, Try.ntmps70
    go_wp2_with fail
    go_quiet (fail)
    go_wp2_with fail
    go_ret2
    exact ⟨by rw [e.out]; rfl, below_drewN (Below.refl _ _) _⟩
  · obtain ⟨k, rfl⟩ : ∃ k, n = k + 1 := ⟨n - 1, by omega⟩
    obtain ⟨ad, B1, m1, d1, x, rfl, hz, hx, c0, c1, c2, c3, c4, c5⟩ := h.at_ (k := k) (by omega)
    have e := Lib.hid (show t.lastF = (x.idx, x.term) by
      obtain ⟨y, hy, e⟩ := t.lastF_pos (by omega)
      rw [← hl, show k + 1 - 1 = k by omega, hx] at hy
      obtain rfl := Option.some.inj hy
      exact e)
    have la := lt_of_cell c0
    have kg := keep_cell (gs := [g, (ad.add (k * 6)).block]) h2 (by simp)
    have k0 := keep_cell (gs := [g, (ad.add (k * 6)).block]) c0 (by simp)
    have k1 := keep_cell (gs := [g, (ad.add (k * 6)).block]) c1 (by simp)
    have k2 := keep_cell (gs := [g, (ad.add (k * 6)).block]) c2 (by simp)
    have k3 := keep_cell (gs := [g, (ad.add (k * 6)).block]) c3 (by simp)
    have k4 := keep_cell (gs := [g, (ad.add (k * 6)).block]) c4 (by simp)
    have k5 := keep_cell (gs := [g, (ad.add (k * 6)).block]) c5 (by simp)
    have hgl := h.b.lt
    have hgs : ∀ q ∈ [g, (ad.add (k * 6)).block], q < w.heap.size := by simp; exact ⟨hgl, la⟩
    have hbd : Below w.heap.size w (w.alloc (.cells #[.int .i64 0, .int .i64 0, .int .i64 0, .int .i64 0, .int .i64 0, .slice none 0 0] 65)).drew := below_drewN ((Below.refl _ _).alloc (Nat.le_refl _) _) 1
    have hbF : Below w.heap.size w (w.alloc (.cells #[.int .i64 x.idx, .int .i64 x.term, .int .i64 x.op, .int .i64 x.sess, .int .i64 x.seq, .slice B1 m1 d1] 65)) := (Below.refl _ _).alloc (Nat.le_refl _) _
    clear hl hz hx c0 c1 c2 c3 c4 c5
    have e1 : IntKind.i64.wrap (((k + 1 : Nat) : Int) - 1) = (k : Int) := by rw [show ((k + 1 : Nat) : Int) - 1 = (k : Int) by omega]; exact IntWalk.i64_in _ (by omega)
    go_enter Try.func70, Try.ntmps70
    go_wp2_with fail
    refine wp_region_mixE (C := keepW [g, (ad.add (k * 6)).block] w) [([0, 1, 2, 3, 4, 5, 6, 7, 8, 9, 10, 11], 12)] ([], 13) (by kernel_rfl) (by kernel_rfl) (fun _ _ _ _ e h => ⟨e.symm.trans h.1, h.2⟩) keepW_refl ?_
    refine wpSegsE_step fun K1 hK1 => ?_
    simp only [pickL, List.getElem?_cons_zero, List.getElem?_cons_succ]
    repeat (go_big_quiet_step (fail))
    refine wpQuiet_nil ?_
    go_wp2_with fail
    refine ⟨keepW_below hgs hbd, hK1 _ _ ?_⟩
    refine wpSegsE_last ?_
    simp only [pickL, List.getElem?_cons_zero, List.getElem?_cons_succ]
    repeat (go_big_quiet_step (fail))
    refine wpQuiet_nil ?_
    go_wp2_with fail
    go_quiet (fail)
    go_wp2_with fail
    go_ret2
    exact ⟨by rw [e.out]; rfl, below_drewN (below_drewN hbF 1) _⟩
set_option maxRecDepth 100000 in
theorem rterm_any (i : Int) (h : RefIn S w g t A n c zs) (hn : n ≤ 1000000) : Calls Try.prog 67 #[.pointer (some ⟨g, 0, none⟩), .int .i64 i] w fun e w' => e = .returned (.tuple #[.int .i64 (t.termF i).1, .int .i64 (t.termF i).2]) ∧ w = w' := by
  obtain ⟨h0, h1, h2⟩ := h.cells
  have hl := Lib.hid h.len.1
  by_cases i1 : i < t.index
  · have he := Lib.hid (show t.termF i = (0, 34) from if_pos i1)
    go_enter Try.func67, Try.ntmps67
    go_wp2_with fail
    go_ret2
    exact ⟨by rw [he.out]; rfl, rfl⟩
  · by_cases i3 : i = t.index
    · have he := Lib.hid (show t.termF i = (t.term, 0) by
        unfold Trk.termF
        rw [if_neg i1, if_pos i3])
      subst i3
      go_enter Try.func67, Try.ntmps67
      go_wp2_with fail
      go_ret2
      exact ⟨by rw [he.out]; rfl, rfl⟩
    · have i4 : (i == t.index) = false := beq_eq_false_iff_ne.2 i3
      go_enter Try.func67, Try.ntmps67
      go_wp2_with fail
      go_loop [6] (fun i' => ∃ k : Nat, k ≤ n ∧ i' = .int .i64 k ∧ ¬ (i ≤ t.index + k)) (fun i' => n - (intOf i').toNat)
      case atStart => exact ⟨0, Nat.zero_le _, rfl, by omega⟩
      case round =>
        obtain ⟨k, hk, rfl, hno⟩ := hrel
        by_cases hlt : k < n
        · obtain ⟨ad, B1, m1, d1, x, rfl, hz, hx, c0, c1, _⟩ := h.at_ hlt
          have hxi := h.i.idx _ _ hx
          have hmeas := Lib.hid (show n - (k + 1) < n - k by omega)
          by_cases hm : x.idx = i
          · have he := Lib.hid (show t.termF i = (x.term, 0) by
              unfold Trk.termF
              rw [if_neg (show ¬ i < t.index by omega), if_neg i3, show (i - t.index - 1).toNat = k by omega, hx])
            have hm2 : (x.idx == i) = true := beq_iff_eq.2 hm
            clear hz hx hxi hm
            generalize x.idx = xi at *
            generalize x.term = xt at *
            go_wp2_with fail
            go_ret2
            exact ⟨by rw [he.out]; rfl, rfl⟩
          · have hm2 : (x.idx == i) = false := beq_eq_false_iff_ne.2 hm
            have hno2 := Lib.hid (show ¬ (i ≤ t.index + ((k + 1 : Nat) : Int)) by omega)
            clear hz hx hxi hm hno
            generalize x.idx = xi at *
            generalize x.term = xt at *
            go_wp2_with fail
            exact ⟨⟨k + 1, hlt, by go_num, hno2.out⟩, by simp [intOf]; exact hmeas.out⟩
        · obtain rfl : k = n := by omega
          have he := Lib.hid (show t.termF i = (0, 33) by
            unfold Trk.termF
            rw [if_neg (show ¬ i < t.index by omega), if_neg i3, List.getElem?_eq_none (by rw [← hl.out]; omega)])
          clear hno
          go_wp2_with fail
          go_ret2
          exact ⟨by rw [he.out]; rfl, rfl⟩
theorem hintF_step {i term : Int} {k : Nat} {x : En} (hx : t.L[k]? = some x) : Trk.hintF { t with L := t.L.take (k + 1) } i term = if hits i term x = true then x.idx else Trk.hintF { t with L := t.L.take k } i term := by
  unfold Trk.hintF
  dsimp only
  rw [take_next hx, List.filter_append]
  cases hh : hits i term x with
  | true =>
    rw [List.filter_cons, if_pos hh, List.getLast?_append]
    rfl
  | false =>
    rw [List.filter_cons, hh]
    simp
set_option maxRecDepth 100000 in
theorem rhint_any (i term : Int) (h : RefIn S w g t A n c zs) (hn : n ≤ 1000000) : Calls Try.prog 69 #[.pointer (some ⟨g, 0, none⟩), .int .i64 i, .int .i64 term] w fun e w' => e = .returned (.int .i64 (t.hintF i term)) ∧ w = w' := by
  obtain ⟨h0, h1, h2⟩ := h.cells
  have hl := Lib.hid h.len.1
  go_enter Try.func69, Try.ntmps69
  go_wp2_with fail
  go_loop [7, 8] (fun b i' => ∃ (k : Nat) (v : Int), k ≤ n ∧ i' = .int .i64 k ∧ b = .int .i64 v ∧ Trk.hintF { t with L := t.L.take k } i term = v) (fun _ i' => n - (intOf i').toNat)
  case atStart => exact ⟨0, t.index, Nat.zero_le _, rfl, rfl, rfl⟩
  case round =>
    obtain ⟨k, v, hk, rfl, rfl, hv⟩ := hrel
    by_cases hlt : k < n
    · obtain ⟨ad, B1, m1, d1, x, rfl, hz, hx, c0, c1, _⟩ := h.at_ hlt
      have hs := hintF_step (t := t) (i := i) (term := term) hx
      rw [hv] at hs
      have hmeas := Lib.hid (show n - (k + 1) < n - k by omega)
      by_cases m1' : x.idx < i
      · by_cases m2' : x.term ≤ term
        · have hh : hits i term x = true := by unfold hits; rw [decide_eq_true m1', decide_eq_true m2']; rfl
          rw [if_pos hh] at hs
          have hs := Lib.hid hs
          clear hz hx hv hh
          go_wp2_with fail
          exact ⟨⟨k + 1, x.idx, hlt, by go_num, rfl, hs.out⟩, by simp [intOf]; exact hmeas.out⟩
        · have hh : hits i term x = false := by unfold hits; rw [decide_eq_true m1', decide_eq_false m2']; rfl
          rw [hh] at hs
          have hs := Lib.hid hs
          clear hz hx hv hh
          go_wp2_with fail
          exact ⟨⟨k + 1, v, hlt, by go_num, rfl, hs.out⟩, by simp [intOf]; exact hmeas.out⟩
      · have hh : hits i term x = false := by unfold hits; rw [decide_eq_false m1']; rfl
        rw [hh] at hs
        have hs := Lib.hid hs
        clear hz hx hv hh
        go_wp2_with fail
        exact ⟨⟨k + 1, v, hlt, by go_num, rfl, hs.out⟩, by simp [intOf]; exact hmeas.out⟩
    · obtain rfl : k = n := by omega
      have he := Lib.hid (show t.hintF i term = v by rw [← hv, List.take_of_length_le (by rw [← hl.out]; exact Nat.le_refl _)])
      clear hv
      go_wp2_with fail
      go_ret
      exact ⟨by rw [he.out]; rfl, rfl⟩
end
end Go.Proofs.Ytojmkbhihnnmaaa
