/-
  The walks of the schema: lists of names, told by the reference and by the program.
-/
import Derived.Test.YtojmkbhihnnmaaaSch5
import Derived.StringKeys
namespace Go.Proofs.Ytojmkbhihnnmaaa
open Go.RowKit Go.Maps Go.WideMaps

theorem bytes_beq (x y : ByteArray) : (x.toList == y.toList) = decide (x = y) := by
  rw [Bool.eq_iff_iff, beq_iff_eq, decide_eq_true_eq, ByteArray.toList_eq, ByteArray.toList_eq]
  exact ⟨fun h => by cases x; cases y; simp only [ByteArray.mk.injEq]; exact Array.toList_inj.1 h, fun h => by rw [h]⟩

theorem refapart_any (A : Option Addr) (n c : Nat) (l : List ByteArray) (most : Int) (w : World) (hr : RdT w A n l) (hn : n ≤ maxLen) :
    Calls Try.prog 57 #[.slice A n c, .int .i64 most] w fun e w' => e = .returned (.bool (namedF l most)) ∧ ∃ q, w' = w.drewN q := by
  unfold maxLen at hn
  have H1 := Lib.hid hr.len
  by_cases h1 : n < 1 ∨ most < n
  · have hne : namedF l most = false := decide_eq_false fun e => by rw [H1.out] at e; omega
    have Hne := Lib.hid hne
    clear hne
    rcases h1 with h1 | h1
    · go_enter Try.func57, Try.ntmps57
      go_wp2
      go_ret
      exact ⟨by rw [Hne.out]; rfl, 0, rfl⟩
    · by_cases h2 : n < 1
      all_goals
        go_enter Try.func57, Try.ntmps57
        go_wp2
        go_ret
        exact ⟨by rw [Hne.out]; rfl, 0, rfl⟩
  · obtain ⟨h2, h3⟩ : 1 ≤ n ∧ n ≤ most := by omega
    clear h1
    go_enter Try.func57, Try.ntmps57
    go_wp2
    go_loopw [5] (fun i wr => ∃ k : Nat, k ≤ n ∧ i = .int .i64 k ∧ (∀ j, j < k → nameB (l[j]?.getD ByteArray.empty) = true) ∧ (∀ j, j < k → ∀ i, i < j → l[i]?.getD ByteArray.empty ≠ l[j]?.getD ByteArray.empty) ∧ ∃ q, wr = w.drewN q) (fun i _ => n - (intOf i).toNat)
    case atStart => exact ⟨0, Nat.zero_le _, rfl, fun j hj => by omega, fun j hj => by omega, 0, rfl⟩
    case round =>
      obtain ⟨k, hk, rfl, hnm, hap, hq⟩ := hrel
      have Hnm := Lib.hid hnm
      have Hap := Lib.hid hap
      clear hnm hap
      have hlw : RdT wr A n l := by obtain ⟨q, rfl⟩ := hq; exact hr
      by_cases hlt : k < n
      · obtain ⟨ad, s, rfl, hs, hc⟩ := hlw.at_ hlt
        have Hs := Lib.hid (show l[k]?.getD ByteArray.empty = s by rw [hs]; rfl)
        clear hs
        cases hnb : nameB s with
        | false =>
          have hne : namedF l most = false := decide_eq_false fun e => by
            have := e.2.1 k (by rw [H1.out]; exact hlt)
            rw [Hs.out, hnb] at this
            cases this
          have Hne := Lib.hid hne
          clear hne
          go_wp2_with (go_at_call 81; refine (refname_any _ _).mono ?_; rintro e w' ⟨rfl, rfl⟩; rw [hnb])
          go_ret
          exact ⟨by rw [Hne.out]; rfl, hq⟩
        | true =>
          have hnm' : ∀ j, j < k + 1 → nameB (l[j]?.getD ByteArray.empty) = true := fun j hj => by
            rcases Nat.lt_or_ge j k with h | h
            · exact Hnm.out j h
            · obtain rfl : j = k := by omega
              rw [Hs.out]; exact hnb
          have Hnm' := Lib.hid hnm'
          have Hnb := Lib.hid hnb
          clear hnm' hnb
          go_wp2_with (go_at_call 81; refine (refname_any _ _).mono ?_; rintro e w' ⟨rfl, rfl⟩; rw [Hnb.out])
          go_loopw [7] (fun i wr' => ∃ m : Nat, m ≤ k ∧ i = .int .i64 m ∧ (∀ j, j < m → l[j]?.getD ByteArray.empty ≠ s) ∧ ∃ q, wr' = w.drewN q) (fun i _ => k - (intOf i).toNat)
          case atStart => exact ⟨0, Nat.zero_le _, rfl, fun j hj => by omega, hq⟩
          case round =>
            obtain ⟨m, hm, rfl, hap, hq'⟩ := hrel
            have Hap' := Lib.hid hap
            clear hap
            have hlw' : RdT wr (some ad) n l := by obtain ⟨q, rfl⟩ := hq'; exact hr
            have hq1 : ∀ q1, ∃ q, wr.drewN q1 = w.drewN q := fun q1 => by obtain ⟨q, rfl⟩ := hq'; exact ⟨_, World.drewN_drewN _ _ _⟩
            by_cases hlt' : m < k
            · obtain ⟨ad', s', e1, hs', hc'⟩ := hlw'.at_ (show m < n by omega)
              obtain rfl : ad = ad' := Option.some.inj e1
              have hck : wr.cell? (ad.add k) = some (.string s) := by obtain ⟨q, rfl⟩ := hq'; obtain ⟨q2, rfl⟩ := hq; exact hc
              have Hs' := Lib.hid (show l[m]?.getD ByteArray.empty = s' by rw [hs']; rfl)
              have hbe := bytes_beq s' s
              clear hs' e1 hc
              by_cases he : s' = s
              · have hne : namedF l most = false := decide_eq_false fun e => e.2.2 k (by rw [H1.out]; exact hlt) m hlt' (by rw [Hs.out, Hs'.out, he])
                have Hne := Lib.hid hne
                rw [decide_eq_true he] at hbe
                clear hne
                have He := Lib.hid he
                clear he
                go_wp2_with fail
                go_quiet (fail)
                go_wp2
                go_ret
                exact ⟨by rw [Hne.out]; rfl, hq1 _⟩
              · have hst : ∀ j, j < m + 1 → l[j]?.getD ByteArray.empty ≠ s := fun j hj => by
                  rcases Nat.lt_or_ge j m with h | h
                  · exact Hap'.out j h
                  · obtain rfl : j = m := by omega
                    rw [Hs'.out]; exact he
                have Hst := Lib.hid hst
                rw [decide_eq_false he] at hbe
                clear hst
                have He := Lib.hid he
                clear he
                go_wp2_with fail
                go_quiet (fail)
                go_wp2
                go_roundw
                case rel => exact ⟨m + 1, by omega, by go_num, Hst.out, hq1 _⟩
                case measure => simp [intOf]; omega
            · obtain rfl : m = k := by omega
              have hst : ∀ j, j < m + 1 → ∀ i, i < j → l[i]?.getD ByteArray.empty ≠ l[j]?.getD ByteArray.empty := fun j hj i hi => by
                rcases Nat.lt_or_ge j m with h | h
                · exact Hap.out j h i hi
                · obtain rfl : j = m := by omega
                  rw [Hs.out]; exact Hap'.out i hi
              have Hst := Lib.hid hst
              clear hst
              go_wp2
              go_roundw
              case rel => exact ⟨m + 1, by omega, by go_num, Hnm'.out, Hst.out, hq'⟩
              case measure => simp [intOf]; omega
      · obtain rfl : k = n := by omega
        have hne : namedF l most = true := decide_eq_true ⟨⟨by rw [H1.out]; exact h2, by rw [H1.out]; exact h3⟩, fun i hi => Hnm.out i (by rw [H1.out] at hi; exact hi), fun j hj => Hap.out j (by rw [H1.out] at hj; exact hj)⟩
        have Hne := Lib.hid hne
        clear hne
        go_wp2
        go_ret
        exact ⟨by rw [Hne.out]; rfl, hq⟩
/-! ### no two the same, by a map -/
def keysL (l : List ByteArray) : List Lit := l.map fun s => .string s.data.toList
def distB (l : List ByteArray) : Bool := decide (∀ j, j < l.length → ∀ i, i < j → l[i]?.getD ByteArray.empty ≠ l[j]?.getD ByteArray.empty)
theorem keysL_key (l : List ByteArray) : ∀ x ∈ keysL l, WideAt.IsKeyLit x := by
  intro x hx
  obtain ⟨s, _, rfl⟩ := List.mem_map.1 hx
  exact trivial
theorem setOf_le {H : Type} (u : DataW H) (xs : List Lit) (h : ∀ x ∈ xs, WideAt.IsKeyLit x) : Maps.size (setOf u xs) ≤ xs.length := by
  rw [size_setOf u xs h]
  have : ∀ (xs L : List Lit), (xs.foldl addKey L).length ≤ L.length + xs.length := by
    intro xs
    induction xs with
    | nil => intro L; simp
    | cons x xs ih =>
      intro L
      rw [List.foldl_cons]
      refine Nat.le_trans (ih _) ?_
      unfold addKey
      split <;> simp <;> omega
  have := this xs []
  simpa using this
theorem setOf_full {H : Type} (u : DataW H) (xs : List Lit) (h : ∀ x ∈ xs, WideAt.IsKeyLit x) : Maps.size (setOf u xs) = xs.length ↔ xs.reverse.Pairwise (fun a b => a ≠ b) := by
  have aux : ∀ ys : List Lit, (∀ x ∈ ys, WideAt.IsKeyLit x) → (Maps.size (setOf u ys.reverse) = ys.length ↔ ys.Pairwise (fun a b => a ≠ b)) := by
    intro ys
    induction ys with
    | nil => intro _; simp [setOf]; rfl
    | cons y ys ih =>
      intro hk
      have hk' : ∀ x ∈ ys, WideAt.IsKeyLit x := fun x hx => hk x (by simp [hx])
      have hk'' : ∀ x ∈ ys.reverse, WideAt.IsKeyLit x := fun x hx => hk' x (by simpa using hx)
      have hle := setOf_le u ys.reverse hk''
      rw [List.length_reverse] at hle
      rw [List.reverse_cons, setOf_snoc, size_put (tidy_setOf u _ hk''), has_setOf u _ _ hk'', List.pairwise_cons, List.length_cons]
      have hany : ys.reverse.any (fun x => x.sameKey y) = true ↔ y ∈ ys := by
        rw [List.any_eq_true]
        constructor
        · rintro ⟨x, hx, he⟩
          have : x = y := by
            rcases Classical.em (x = y) with h | h
            · exact h
            · rw [sameKey_ne h] at he; cases he
          rw [← this]; simpa using hx
        · intro hy
          exact ⟨y, by simpa using hy, WideAt.sameKey_self (hk y (by simp))⟩
      by_cases hy : y ∈ ys
      · rw [if_pos (hany.2 hy)]
        constructor
        · intro e; omega
        · intro e; exact absurd rfl (e.1 y hy)
      · rw [if_neg (fun e => hy (hany.1 e))]
        constructor
        · intro e
          exact ⟨fun z hz he => hy (he ▸ hz), (ih hk').1 (by omega)⟩
        · intro e
          have := (ih hk').2 e.2
          omega
  have := aux xs.reverse (fun x hx => h x (by simpa using hx))
  rw [List.reverse_reverse, List.length_reverse] at this
  exact this
theorem lit_string_inj {a b : ByteArray} (h : Lit.string a.data.toList = Lit.string b.data.toList) : a = b := by
  injection h with h
  cases a; cases b
  simp only [ByteArray.mk.injEq]; exact Array.toList_inj.1 h
theorem set_size {H : Type} (l : List ByteArray) : (Maps.size (setOf (DataW.agg (H := H) []) (keysL l)) = l.length) ↔ distB l = true := by
  have h := setOf_full (DataW.agg (H := H) []) (keysL l) (keysL_key l)
  rw [show (keysL l).length = l.length from List.length_map ..] at h
  rw [h, List.pairwise_reverse, List.pairwise_iff_getElem]
  unfold distB
  rw [decide_eq_true_eq]
  have hl : (keysL l).length = l.length := List.length_map ..
  constructor
  · intro e j hj i hi he
    have := e i j (by omega) (by omega) hi
    apply this
    rw [List.getElem?_eq_getElem (by omega), List.getElem?_eq_getElem hj] at he
    simp only [Option.getD_some] at he
    simp only [keysL, List.getElem_map, he]
  · intro e i j hi hj hij he
    have := e j (by omega) i hij
    apply this
    rw [List.getElem?_eq_getElem (by omega), List.getElem?_eq_getElem (by omega)]
    simp only [keysL, List.getElem_map] at he
    simp only [Option.getD_some]
    exact (lit_string_inj he).symm
theorem keysL_snoc (l : List ByteArray) (k : Nat) (s : ByteArray) (h : l[k]? = some s) : keysL (l.take (k + 1)) = keysL (l.take k) ++ [.string s.data.toList] := by
  unfold keysL
  rw [List.take_add_one, h, List.map_append]; rfl

theorem apart_any (A : Option Addr) (n c : Nat) (l : List ByteArray) (w : World) (hr : RdT w A n l) (hn : n ≤ 1000000) (hs : ∀ s ∈ l, s.size ≤ maxLen) :
    Calls Try.prog 80 #[.slice A n c] w fun e w' => e = .returned (.bool (distB l)) ∧ Below w.heap.size w w' := by
  have hmm := @run_makeMap Try.prog
  have H1 := Lib.hid hr.len
  have Hs := Lib.hid hs
  clear hs
  go_enter Try.func80, Try.ntmps80
  go_wp2
  go_loopw [9] (fun i wr => ∃ k : Nat, k ≤ n ∧ i = .int .i64 k ∧ wr.ownsMap Try.prog 9 unitElem w.heap.size k (setOf (DataW.agg (H := Unit) []) (keysL (l.take k))) ∧ Below w.heap.size w wr) (fun i _ => n - (intOf i).toNat)
  case atStart => exact ⟨0, Nat.zero_le _, rfl, World.ownsMap_made _ _ _ _, (Below.refl _ _).alloc (Nat.le_refl _) _⟩
  case round =>
    obtain ⟨k, hk, rfl, hown, hb⟩ := hrel
    by_cases hlt : k < n
    · obtain ⟨ad, s, rfl, hsk, hc⟩ := (hr.below hb).at_ hlt
      have hkey : keyOf Try.prog 9 (.string s) = some (.string s.data.toList) := keyOf_string_mk Try.underlying9 (Hs.out s (List.mem_of_getElem? hsk))
      have Hst := Lib.hid (keysL_snoc l k s hsk)
      clear hsk
      go_wp2_with (first
        | (at_mapUpdate; refine wpList_mapUpdate_own _ rfl _ _ _ 109 rfl 9 110 (string_keyed Try.underlying9) Try.underlying109 (unitElem (H := Unit)) w.heap.size k _ rfl hown (by unfold maxLen; omega) _ _ _ rfl rfl hkey _ [] unitElem_mk ?_; intro w1 hown1 hgrow1)
        | fail)
      go_roundw
      case rel => exact ⟨k + 1, by omega, by go_num, by rw [Hst.out, setOf_snoc]; exact hown1, hb.grown hgrow1 hb.size (fun j hj => by cases hj; exact Nat.le_refl _)⟩
      case measure => simp [intOf]; omega
    · obtain rfl : k = n := by omega
      rw [List.take_of_length_le (by rw [H1.out]; omega)] at hown
      have Hsz := Lib.hid (set_size (H := Unit) l)
      go_wp2_with (first
        | (at_len; refine wpList_len_own _ rfl _ 109 rfl 9 110 Try.underlying109 (unitElem (H := Unit)) w.heap.size k _ rfl hown ?_)
        | fail)
      go_ret
      refine ⟨ret_bool ?_, hb⟩
      rw [Bool.eq_iff_iff, beq_iff_eq, ← Hsz.out, H1.out]
      omega
end Go.Proofs.Ytojmkbhihnnmaaa
