/-
  The laws of the frames: their walks (Owns).
-/
import Derived.Test.YtfhfpcihbclanaaFrameS
namespace Go.Proofs.Ytfhfpcihbclanaa
open Go.RowKit

theorem row_put {w : World} {base n c : Nat} {e : TypeId} {A : Option Addr} {l : List UInt8} (h : w.ownsRow base e 1 (.slice A n c) n (l.map vb)) (g k : Nat) (b : UInt8) :
    ∃ l' : List UInt8, (w.setCell ⟨g, k, none⟩ (vb b)).ownsRow base e 1 (.slice A n c) n (l'.map vb) := by
  rcases h.2 with ⟨h0, hn⟩ | ⟨g', cap, cur, h0, h1, h2, h3⟩
  · refine ⟨l, h.1, .inl ⟨h0, hn⟩⟩
  · by_cases hg : g' = g
    · subst hg
      injection h0 with hA _ hc
      subst hA
      exact ⟨_, own_set h k b⟩
    · exact ⟨l, h.1, .inr ⟨g', cap, cur, h0, h1, (Below.heap_setCell w ⟨g, k, none⟩ _ g' hg).trans h2, h3⟩⟩
theorem row_other {w : World} {base n size : Nat} {T e : TypeId} {v : Value} {xs : List Value} (h : w.ownsRow base T size v n xs) {g : Nat} {cs : Array Value} {fz : Nat × Nat} (hg : w.heap[g]? = some (.cells cs e fz)) (hT : T ≠ e) (k : Nat) (u : Value) :
    (w.setCell ⟨g, k, none⟩ u).ownsRow base T size v n xs := by
  rcases h.2 with h0 | ⟨g', cap, cur, h0, h1, h2, h3⟩
  · exact ⟨h.1, .inl h0⟩
  · have hgg : g' ≠ g := fun e1 => by
      subst e1
      rw [hg] at h2
      injection h2 with h2
      injection h2 with _ h2 _
      exact hT h2.symm
    exact ⟨h.1, .inr ⟨g', cap, cur, h0, h1, (Below.heap_setCell w ⟨g, k, none⟩ _ g' hgg).trans h2, h3⟩⟩

/-- a list of frames of the call's own, whatever their bodies read -/
def LJ (w : World) (B : Nat) (T : TypeId) (A : Option Addr) (m c : Nat) (ys : List Lie) : Prop :=
  w.ownsRow B T 2 (.slice A m c) m (lies ys) ∧ ∀ y ∈ ys, ∃ l' : List UInt8, w.ownsRow B 5 1 y.val y.fr.body.length (l'.map vb)
theorem LJ.ex {w : World} {B : Nat} {T : TypeId} {A : Option Addr} {m c : Nat} {ys : List Lie} (h : LJ w B T A m c ys) {i : Nat} (hi : i < m) : ∃ g x C d, A = some ⟨g, 0, none⟩ ∧ ys[i]? = some ⟨x, C, d⟩ := by
  obtain ⟨h1, _⟩ := h
  have hl := h1.1
  rw [lies_len] at hl
  obtain ⟨g, cap, hv, _, _⟩ := h1.form (by omega)
  injection hv with hA _ hc
  have hy : ys[i]? = some (ys[i]'(by omega)) := List.getElem?_eq_getElem (by omega)
  exact ⟨g, _, _, _, hA, hy⟩
theorem LJ.at_ {w : World} {B : Nat} {T : TypeId} {g m c : Nat} {ys : List Lie} (h : LJ w B T (some ⟨g, 0, none⟩) m c ys) {i : Nat} {y : Lie} (hy : ys[i]? = some y) :
    w.cell? ⟨g, i * 2 + 1, none⟩ = some y.val ∧ ∃ l : List UInt8, w.ownsRow B 5 1 y.val y.fr.body.length (l.map vb) := by
  obtain ⟨h1, h2⟩ := h
  have hl := h1.1
  rw [lies_len] at hl
  have hi : i < ys.length := by
    rcases Nat.lt_or_ge i ys.length with h | h
    · exact h
    · rw [List.getElem?_eq_none h] at hy; cases hy
  exact ⟨by rw [h1.cellAt (i * 2 + 1) (by omega)]; exact (lies_at ys i y hy).2, h2 y (List.mem_of_getElem? hy)⟩
theorem LJ.put {w : World} {B : Nat} {T : TypeId} {A : Option Addr} {m c : Nat} {ys : List Lie} (h : LJ w B T A m c ys) (hT : T ≠ 5) {g : Nat} {cs : Array Value} {fz : Nat × Nat} (hg : w.heap[g]? = some (.cells cs 5 fz)) (k : Nat) (b : UInt8) :
    LJ (w.setCell ⟨g, k, none⟩ (vb b)) B T A m c ys := by
  obtain ⟨h1, h2⟩ := h
  refine ⟨row_other h1 hg hT k _, fun y hy => ?_⟩
  obtain ⟨l', hl'⟩ := h2 y hy
  exact row_put hl' g k b
theorem row_heap {w : World} {base n c g : Nat} {e : TypeId} {xs : List Value} {size : Nat} (h : w.ownsRow base e size (.slice (some ⟨g, 0, none⟩) n c) n xs) : ∃ cs, w.heap[g]? = some (.cells cs e (0, 0)) := by
  rcases h.2 with ⟨h0, _⟩ | ⟨g', cap, cur, h0, h1, h2, h3⟩
  · cases h0
  · injection h0 with hA
    injection hA with hA
    injection hA with hA
    subst hA
    exact ⟨_, h2⟩

theorem frameOwns_any (k : Int) (A : Option Addr) (n c : Nat) (l : List UInt8) (w : World) (hl : Rd w A n l) (hnc : n ≤ c) (hc : c ≤ maxLen) :
    Calls Try.prog 14 #[.slice A n c, .int .i64 k] w fun e w' => e = .returned (.bool true) ∧ Below w.heap.size w w' := by
  go_enter Try.func14, Try.ntmps14
  go_wp2_with fail
  refine (few3_any A n c 500 l _ hl (by omega) hnc (by unfold maxLen; omega)).mono ?_
  rintro e w' ⟨⟨n', rfl, hn1, hn2, hl'⟩, rfl⟩
  generalize l.take 500 = l' at *
  go_wp2_with (first
    | (at_builtin; refine wpList_append_b0 rfl (.tmp 17) (.tmp 18) rfl rfl rfl hl' (by omega) ?_; intro A1 c1 w1 hown1 hb1)
    | fail)
  have hl1 := hl'.below hb1
  have hr1 := Rd.of_own hown1
  clear hown1
  refine (scan_any _ _ _ _ _ hl1 (by omega) (by omega) hc).mono ?_
  rintro e w2 ⟨A2, c2, rfl, hown2, hb2⟩
  have hsl := scan_len l'
  rw [hl'.len] at hsl
  generalize (scanF l').frames = fs at *
  generalize (scanF l').size = sz at *
  generalize (scanF l').err = er at *
  obtain ⟨ys, hys, hrow, hbods⟩ := hown2
  have hLJ2 : LJ w2 w1.heap.size 43 A2 fs.length c2 ys := ⟨hrow, fun y hy => ⟨_, hbods y hy⟩⟩
  generalize fs.length = m at *
  clear hys hrow hbods
  go_wp2_with fail
  go_loopw [9, 10] (fun i _ wr => ∃ j : Nat, j ≤ m ∧ i = .int .i64 j ∧ LJ wr w1.heap.size 43 A2 m c2 ys ∧ Below w1.heap.size w1 wr) (fun i _ _ => m - (intOf i).toNat)
  case atStart => exact ⟨0, Nat.zero_le _, rfl, hLJ2, hb2⟩
  case round =>
    obtain ⟨j, hj, rfl, hLJ, hbl⟩ := hrel
    by_cases hlt : j < m
    · obtain ⟨g, x, C, d, rfl, hy⟩ := hLJ.ex hlt
      obtain ⟨s, hs⟩ : ∃ s, x.body.length = s := ⟨_, rfl⟩
      have hat : ∀ wr2, LJ wr2 w1.heap.size 43 (some ⟨g, 0, none⟩) m c2 ys → wr2.cell? ⟨g, j * 2 + 1, none⟩ = some (.slice C s d) ∧ ∃ l : List UInt8, wr2.ownsRow w1.heap.size 5 1 (.slice C s d) s (l.map vb) := fun wr2 h2 => by
        have h := h2.at_ hy
        rw [show (⟨x, C, d⟩ : Lie).val = .slice C s d by unfold Lie.val; rw [hs]] at h
        rw [show (⟨x, C, d⟩ : Lie).fr.body.length = s from hs] at h
        exact h
      clear hs hy
      have Hat := Lib.hid hat
      obtain ⟨hc0, bd, hob⟩ := hat wr hLJ
      have hsd := own_bounds hob
      have hsd1 := hsd.1
      have hsd2 := hsd.2
      unfold maxLen at hsd2
      clear hsd hat hob hc0
      go_wp2
      go_loopw [10, 32, 33, 34, 35, 36, 37, 38, 39, 40, 41, 42, 43, 44, 45, 46, 47, 48] (fun i _ _ _ _ _ _ _ _ _ _ _ _ _ _ _ _ _ wr2 => ∃ q : Nat, q ≤ s ∧ i = .int .i64 q ∧ LJ wr2 w1.heap.size 43 (some ⟨g, 0, none⟩) m c2 ys ∧ Below w1.heap.size w1 wr2) (fun i _ _ _ _ _ _ _ _ _ _ _ _ _ _ _ _ _ _ => s - (intOf i).toNat)
      case atStart => exact ⟨0, Nat.zero_le _, rfl, hLJ, hbl⟩
      case round =>
        obtain ⟨q, hq, rfl, hLJi, hbi⟩ := hrel
        obtain ⟨hc1, bd, hob⟩ := Hat.out _ hLJi
        have Hc1 := Lib.hid hc1
        by_cases hlq : q < s
        · obtain ⟨gb, rfl, hgb, hcb, hfb⟩ := own_at hob hlq
          obtain ⟨cs, hhp⟩ := row_heap hob
          have hLJn := hLJi.put (by decide) hhp q 9
          clear hob hhp
          go_wp2
          go_roundw
          case rel => exact ⟨q + 1, by omega, by go_num, hLJn, hbi.setCell hgb _⟩
          case measure => simp [intOf]; omega
        · obtain rfl : q = s := by omega
          clear hob
          go_wp2
          go_roundw
          case rel => exact ⟨j + 1, by omega, by go_num, hLJi, hbi⟩
          case measure => simp [intOf]; omega
    · obtain rfl : j = m := by omega
      have hl2 := hl1.below hbl
      have hr2 := hr1.below hbl
      clear hLJ hLJ2
      have hb0 := below_then hb1 hbl (Nat.le_refl _)
      clear hb1 hbl hb2 hl1 hr1
      by_cases hbad : k < 0 ∨ 255 < k ∨ 65536 < n'
      · go_wp2_with fail
        refine (put_bad _ _ _ _ _ _ _ _ hbad).mono ?_; rintro e w' ⟨rfl, rfl⟩
        clear hbad
        go_wp2
        go_loopw [13] (fun i wr3 => i = .int .i64 0 ∧ wr3 = wr) (fun _ _ => 0)
        case atStart => exact ⟨rfl, rfl⟩
        case round =>
          obtain ⟨rfl, rfl⟩ := hrel
          go_wp2_with fail
          refine (same_any _ _ _ _ _ _ _ _ _ hr2 hl2 (maxLen_big (k := 1000) (by omega) (by omega)) (maxLen_big (k := 1000) (by omega) (by omega))).mono ?_
          rintro e w4 ⟨rfl, q, rfl⟩
          simp only [decide_true]
          have hb04 := below_drewN hb0 q
          generalize World.drewN _ q = w4 at *
          go_wp2_with fail
          refine (lives3_any _).mono ?_; rintro e w5 ⟨rfl, hb5⟩
          go_wp2
          go_ret
          exact ⟨rfl, hb04.trans (hb5.mono hb04.size)⟩
      · obtain ⟨K, rfl⟩ : ∃ j : Nat, k = j := ⟨k.toNat, by omega⟩
        have hK : K ≤ 255 := by omega
        clear hbad
        go_wp2_with fail
        refine (put_ok _ _ _ _ _ _ _ _ _ _ hl2 hl2 (by omega) hK (by omega)).mono ?_; rintro e w3 ⟨A3, c3, rfl, hown3, hb3⟩
        have hcap := own_bounds hown3
        have hcap2 := hcap.2
        unfold maxLen at hcap2
        have hb03 := below_then hb0 hb3 (Nat.le_refl _)
        have hl3 := hl2.below hb3
        have hr3 := hr2.below hb3
        generalize l' ++ frameB K l' = X at *
        go_wp2
        go_loopw [13, 64] (fun i _ wr3 => ∃ (q : Nat) (Y : List UInt8), q ≤ n' + (n' + 9) ∧ i = .int .i64 q ∧ wr3.ownsRow wr.heap.size 5 1 (.slice A3 (n' + (n' + 9)) c3) (n' + (n' + 9)) (Y.map vb) ∧ Below wr.heap.size wr wr3) (fun i _ _ => n' + (n' + 9) - (intOf i).toNat)
        case atStart => exact ⟨0, X, Nat.zero_le _, rfl, hown3, hb3⟩
        case round =>
          obtain ⟨q, Y, hq, rfl, hown, hbi⟩ := hrel
          by_cases hlq : q < n' + (n' + 9)
          · obtain ⟨gb, rfl, hgb, hcb, hfb⟩ := own_at hown hlq
            obtain ⟨Y', hY⟩ := row_put hown gb q 3
            clear hown hown3
            go_wp2
            go_roundw
            case rel => exact ⟨q + 1, Y', by omega, by go_num, hY, hbi.setCell hgb _⟩
            case measure => simp [intOf]; omega
          · obtain rfl : q = n' + (n' + 9) := by omega
            have hl4 := hl2.below hbi
            have hr4 := hr2.below hbi
            have hb04 := below_then hb0 hbi (Nat.le_refl _)
            clear hown hown3
            go_wp2_with fail
            refine (same_any _ _ _ _ _ _ _ _ _ hr4 hl4 (maxLen_big (k := 1000) (by omega) (by omega)) (maxLen_big (k := 1000) (by omega) (by omega))).mono ?_
            rintro e w4 ⟨rfl, q, rfl⟩
            simp only [decide_true]
            have hb05 := below_drewN hb04 q
            generalize World.drewN _ q = w4 at *
            go_wp2_with fail
            refine (lives3_any _).mono ?_; rintro e w5 ⟨rfl, hb5⟩
            go_wp2
            go_ret
            exact ⟨rfl, hb05.trans (hb5.mono hb05.size)⟩
end Go.Proofs.Ytfhfpcihbclanaa
