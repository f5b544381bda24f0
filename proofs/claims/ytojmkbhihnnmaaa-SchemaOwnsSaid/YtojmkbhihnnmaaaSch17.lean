/-
  The laws of the schema: their walks (May, Covers, Order, Joins).
-/
import Derived.Test.YtojmkbhihnnmaaaSch16
namespace Go.Proofs.Ytojmkbhihnnmaaa
open Go.RowKit Go.Maps

theorem coversF_refl (u : List Int) : coversF u u = true := decide_eq_true ⟨rfl, fun _ _ => Int.le_refl _⟩
theorem coversF_at {u v : List Int} (h : coversF u v = true) : u.length = v.length ∧ ∀ i, i < u.length → v[i]?.getD 0 ≤ u[i]?.getD 0 := of_decide_eq_true h
theorem coversF_anti (u v : List Int) : (coversF u v && coversF v u) = decide (u = v) := by
  rw [Bool.eq_iff_iff, Bool.and_eq_true, decide_eq_true_eq]
  constructor
  · rintro ⟨h1, h2⟩
    have a := coversF_at h1
    have b := coversF_at h2
    refine List.ext_getElem? fun i => ?_
    rcases Nat.lt_or_ge i u.length with h | h
    · have h1 := a.2 i h
      have h2 := b.2 i (by omega)
      rw [List.getElem?_eq_getElem h, List.getElem?_eq_getElem (by omega)] at *
      simp only [Option.getD_some] at h1 h2
      rw [show u[i] = v[i]'(by omega) by omega]
    · rw [List.getElem?_eq_none h, List.getElem?_eq_none (by omega)]
  · rintro rfl
    exact ⟨coversF_refl u, coversF_refl u⟩
theorem coversF_trans {u v w : List Int} (h1 : coversF u v = true) (h2 : coversF v w = true) : coversF u w = true := by
  have a := coversF_at h1
  have b := coversF_at h2
  exact decide_eq_true ⟨by omega, fun i hi => Int.le_trans (b.2 i (by omega)) (a.2 i hi)⟩
theorem joinF_at {u v : List Int} (h : u.length = v.length) (i : Nat) (hi : i < u.length) : (joinF u v)[i]?.getD 0 = max (u[i]?.getD 0) (v[i]?.getD 0) := by
  rw [joinF_eq h, List.getElem?_zipWith, List.getElem?_eq_getElem hi, List.getElem?_eq_getElem (by omega)]; rfl
theorem joinF_length {u v : List Int} (h : u.length = v.length) : (joinF u v).length = u.length := by rw [joinF_eq h, List.length_zipWith, ← h, Nat.min_self]
theorem joinF_c1 {u v : List Int} (h : u.length = v.length) : coversF (joinF u v) u = true :=
  decide_eq_true ⟨joinF_length h, fun i hi => by rw [joinF_length h] at hi; rw [joinF_at h i hi]; exact Int.le_max_left _ _⟩
theorem joinF_c2 {u v : List Int} (h : u.length = v.length) : coversF (joinF u v) v = true :=
  decide_eq_true ⟨by rw [joinF_length h, h], fun i hi => by rw [joinF_length h] at hi; rw [joinF_at h i hi]; exact Int.le_max_right _ _⟩
theorem joinF_c3 {u v w : List Int} (h : u.length = v.length) : (coversF w u && coversF w v) = coversF w (joinF u v) := by
  rw [Bool.eq_iff_iff, Bool.and_eq_true]
  constructor
  · rintro ⟨h1, h2⟩
    have a := coversF_at h1
    have b := coversF_at h2
    exact decide_eq_true ⟨by rw [joinF_length h]; exact a.1, fun i hi => by rw [joinF_at h i (by omega)]; exact Int.max_le.2 ⟨a.2 i hi, b.2 i hi⟩⟩
  · intro h3
    exact ⟨coversF_trans h3 (joinF_c1 h), coversF_trans h3 (joinF_c2 h)⟩
theorem bool_of (b : Bool) : ∃ x, b = x := ⟨_, rfl⟩

theorem schemaCovers_any (A B : Option Addr) (n c m d : Nat) (l r : List Int) (w : World) (hl : RdI w A n l) (hlm : c ≤ maxLen) (hln : n ≤ c) (hr : RdI w B m r) (hrm : d ≤ maxLen) (hrn : m ≤ d) :
    Calls Try.prog 5 #[.slice A n c, .slice B m d] w fun e w' => e = .returned (.bool true) ∧ Below w.heap.size w w' := by
  have l8 : ∀ n : Nat, n ≤ 8 → n ≤ maxLen := fun n h => maxLen_big h (by omega)
  go_enter Try.func5, Try.ntmps5
  go_wp2_with fail
  refine (cut_any _ _ _ l _ hl hln hlm).mono ?_
  rintro e w' ⟨⟨n', rfl, hn8, _, hl'⟩, rfl⟩
  go_wp2_with fail
  refine (cut_any _ _ _ r _ hr hrn hrm).mono ?_
  rintro e w' ⟨⟨m', rfl, hm8, _, hr'⟩, rfl⟩
  generalize l.take 8 = l' at *
  generalize r.take 8 = r' at *
  go_wp2_with fail
  refine (join_any _ _ _ _ _ _ l' r' _ hl' hr' (by omega) (by omega)).mono ?_
  rintro e w1 ⟨A1, c1, rfl, ho1, hb1⟩
  go_wp2_with fail
  refine (refjoin_any _ _ _ _ _ _ l' r' _ (hl'.below hb1) (hr'.below hb1) (by omega) (by omega)).mono ?_
  rintro e w2 ⟨A2, c2, rfl, ho2, hb2⟩
  have hb02 := below_then hb1 hb2 (Nat.le_refl _)
  have hjl : (joinF l' r').length ≤ 8 := by
    by_cases h : l'.length = r'.length
    · rw [joinF_length h, hl'.len]; exact hn8
    · rw [joinF_len h]; simp
  go_wp2_with fail
  refine (sameI_any _ _ _ _ _ _ _ _ _ (RdI.of_own (own_below ho1 hb2)) (RdI.of_own ho2) (l8 _ hjl) (l8 _ hjl)).mono ?_
  rintro e w3 ⟨rfl, q3, rfl⟩
  rw [decide_eq_true rfl]
  have hb03 := below_drewN hb02 q3
  clear ho1 ho2
  generalize World.drewN _ q3 = w3 at *
  go_wp2_with fail
  refine (covers_any _ _ _ _ _ _ _ _ _ (hl'.below hb03) (hr'.below hb03) (l8 _ hn8) (l8 _ hm8)).mono ?_
  rintro e w4 ⟨rfl, q4, rfl⟩
  have hb04 := below_drewN hb03 q4
  obtain ⟨b, hb⟩ := bool_of (coversF l' r')
  rw [hb]
  have Hb := Lib.hid hb
  clear hb
  go_wp2_with fail
  refine (refcovers_any _ _ _ _ _ _ _ _ _ (hl'.below hb04) (hr'.below hb04) (l8 _ hn8) (l8 _ hm8)).mono ?_
  rintro e w5 ⟨rfl, q5, rfl⟩
  rw [Hb.out]
  have hb05 := below_drewN hb04 q5
  generalize World.drewN _ q5 = w5 at *
  cases b
  all_goals
    go_wp2_with fail
    refine (lives8_any _).mono ?_
    rintro e w6 ⟨rfl, hb6⟩
    go_wp2
    go_ret
    first | exact ⟨rfl, below_then hb05 hb6 (Nat.le_refl _)⟩ | exact ⟨rfl, (below_drewN hb05 _).trans (hb6.mono (below_drewN hb05 _).size)⟩

set_option maxHeartbeats 1000000 in
theorem schemaOrder_any (A B C : Option Addr) (n c m d p f : Nat) (l r t : List Int) (w : World) (hl : RdI w A n l) (hlm : c ≤ maxLen) (hln : n ≤ c) (hr : RdI w B m r) (hrm : d ≤ maxLen) (hrn : m ≤ d) (ht : RdI w C p t) (htm : f ≤ maxLen) (htn : p ≤ f) :
    Calls Try.prog 6 #[.slice A n c, .slice B m d, .slice C p f] w fun e w' => e = .returned (.bool true) ∧ Below w.heap.size w w' := by
  have l8 : ∀ n : Nat, n ≤ 8 → n ≤ maxLen := fun n h => maxLen_big h (by omega)
  go_enter Try.func6, Try.ntmps6
  go_wp2_with fail
  refine (cut_any _ _ _ l _ hl hln hlm).mono ?_
  rintro e w' ⟨⟨n', rfl, hu8, _, hu⟩, rfl⟩
  go_wp2_with fail
  refine (cut_any _ _ _ r _ hr hrn hrm).mono ?_
  rintro e w' ⟨⟨m', rfl, hv8, _, hv⟩, rfl⟩
  go_wp2_with fail
  refine (cut_any _ _ _ t _ ht htn htm).mono ?_
  rintro e w' ⟨⟨p', rfl, hx8, _, hx⟩, rfl⟩
  generalize l.take 8 = u at *
  generalize r.take 8 = v at *
  generalize t.take 8 = x at *
  have Huu := Lib.hid (coversF_refl u)
  have Hanti := Lib.hid (coversF_anti u v)
  obtain ⟨c2, h2⟩ := bool_of (coversF u v)
  obtain ⟨c3, h3⟩ := bool_of (coversF v u)
  obtain ⟨c4, h4⟩ := bool_of (coversF v x)
  have H2 := Lib.hid h2
  have H3 := Lib.hid h3
  have H4 := Lib.hid h4
  clear h2 h3 h4
  cases c2 with
  | false =>
    have Hs := Lib.hid (show decide (u = v) = false by rw [← Hanti.out, H2.out]; rfl)
    go_wp2_with fail
    refine (sameI_any _ _ _ _ _ _ u v _ hu hv (l8 _ hu8) (l8 _ hv8)).mono ?_
    rintro e w' ⟨rfl, q1, rfl⟩
    rw [Hs.out]
    go_wp2_with fail
    refine (covers_any _ _ _ _ _ _ u u _ (hu.drewN _) (hu.drewN _) (l8 _ hu8) (l8 _ hu8)).mono ?_
    rintro e w' ⟨rfl, q2, rfl⟩
    rw [Huu.out]
    go_wp2_with fail
    refine (covers_any _ _ _ _ _ _ u v _ (hu.drewN _) (hv.drewN _) (l8 _ hu8) (l8 _ hv8)).mono ?_
    rintro e w' ⟨rfl, q3, rfl⟩
    rw [H2.out]
    go_wp2_with fail
    refine (covers_any _ _ _ _ _ _ u v _ (hu.drewN _) (hv.drewN _) (l8 _ hu8) (l8 _ hv8)).mono ?_
    rintro e w' ⟨rfl, q4, rfl⟩
    rw [H2.out]
    go_wp2_with fail
    refine (lives8_any _).mono ?_
    rintro e wl ⟨rfl, hbl⟩
    go_wp2
    go_ret
    exact ⟨rfl, (below_drewN (Below.refl w.heap.size w) _).trans hbl⟩
  | true =>
    cases c3 with
    | false =>
      have Hs := Lib.hid (show decide (u = v) = false by rw [← Hanti.out, H2.out, H3.out]; rfl)
      cases c4 with
      | false =>
        go_wp2_with fail
        refine (sameI_any _ _ _ _ _ _ u v _ hu hv (l8 _ hu8) (l8 _ hv8)).mono ?_
        rintro e w' ⟨rfl, q1, rfl⟩
        rw [Hs.out]
        go_wp2_with fail
        refine (covers_any _ _ _ _ _ _ u u _ (hu.drewN _) (hu.drewN _) (l8 _ hu8) (l8 _ hu8)).mono ?_
        rintro e w' ⟨rfl, q2, rfl⟩
        rw [Huu.out]
        go_wp2_with fail
        refine (covers_any _ _ _ _ _ _ u v _ (hu.drewN _) (hv.drewN _) (l8 _ hu8) (l8 _ hv8)).mono ?_
        rintro e w' ⟨rfl, q3, rfl⟩
        rw [H2.out]
        go_wp2_with fail
        refine (covers_any _ _ _ _ _ _ v u _ (hv.drewN _) (hu.drewN _) (l8 _ hv8) (l8 _ hu8)).mono ?_
        rintro e w' ⟨rfl, q4, rfl⟩
        rw [H3.out]
        go_wp2_with fail
        refine (covers_any _ _ _ _ _ _ u v _ (hu.drewN _) (hv.drewN _) (l8 _ hu8) (l8 _ hv8)).mono ?_
        rintro e w' ⟨rfl, q5, rfl⟩
        rw [H2.out]
        go_wp2_with fail
        refine (covers_any _ _ _ _ _ _ v x _ (hv.drewN _) (hx.drewN _) (l8 _ hv8) (l8 _ hx8)).mono ?_
        rintro e w' ⟨rfl, q6, rfl⟩
        rw [H4.out]
        go_wp2_with fail
        refine (lives8_any _).mono ?_
        rintro e wl ⟨rfl, hbl⟩
        go_wp2
        go_ret
        exact ⟨rfl, (below_drewN (Below.refl w.heap.size w) _).trans hbl⟩
      | true =>
        have Htr := Lib.hid (coversF_trans H2.out H4.out)
        go_wp2_with fail
        refine (sameI_any _ _ _ _ _ _ u v _ hu hv (l8 _ hu8) (l8 _ hv8)).mono ?_
        rintro e w' ⟨rfl, q1, rfl⟩
        rw [Hs.out]
        go_wp2_with fail
        refine (covers_any _ _ _ _ _ _ u u _ (hu.drewN _) (hu.drewN _) (l8 _ hu8) (l8 _ hu8)).mono ?_
        rintro e w' ⟨rfl, q2, rfl⟩
        rw [Huu.out]
        go_wp2_with fail
        refine (covers_any _ _ _ _ _ _ u v _ (hu.drewN _) (hv.drewN _) (l8 _ hu8) (l8 _ hv8)).mono ?_
        rintro e w' ⟨rfl, q3, rfl⟩
        rw [H2.out]
        go_wp2_with fail
        refine (covers_any _ _ _ _ _ _ v u _ (hv.drewN _) (hu.drewN _) (l8 _ hv8) (l8 _ hu8)).mono ?_
        rintro e w' ⟨rfl, q4, rfl⟩
        rw [H3.out]
        go_wp2_with fail
        refine (covers_any _ _ _ _ _ _ u v _ (hu.drewN _) (hv.drewN _) (l8 _ hu8) (l8 _ hv8)).mono ?_
        rintro e w' ⟨rfl, q5, rfl⟩
        rw [H2.out]
        go_wp2_with fail
        refine (covers_any _ _ _ _ _ _ v x _ (hv.drewN _) (hx.drewN _) (l8 _ hv8) (l8 _ hx8)).mono ?_
        rintro e w' ⟨rfl, q6, rfl⟩
        rw [H4.out]
        go_wp2_with fail
        refine (covers_any _ _ _ _ _ _ u x _ (hu.drewN _) (hx.drewN _) (l8 _ hu8) (l8 _ hx8)).mono ?_
        rintro e w' ⟨rfl, q7, rfl⟩
        rw [Htr.out]
        go_wp2_with fail
        refine (lives8_any _).mono ?_
        rintro e wl ⟨rfl, hbl⟩
        go_wp2
        go_ret
        exact ⟨rfl, (below_drewN (Below.refl w.heap.size w) _).trans hbl⟩
    | true =>
      have Hs := Lib.hid (show decide (u = v) = true by rw [← Hanti.out, H2.out, H3.out]; rfl)
      cases c4 with
      | false =>
        go_wp2_with fail
        refine (sameI_any _ _ _ _ _ _ u v _ hu hv (l8 _ hu8) (l8 _ hv8)).mono ?_
        rintro e w' ⟨rfl, q1, rfl⟩
        rw [Hs.out]
        go_wp2_with fail
        refine (covers_any _ _ _ _ _ _ u u _ (hu.drewN _) (hu.drewN _) (l8 _ hu8) (l8 _ hu8)).mono ?_
        rintro e w' ⟨rfl, q2, rfl⟩
        rw [Huu.out]
        go_wp2_with fail
        refine (covers_any _ _ _ _ _ _ u v _ (hu.drewN _) (hv.drewN _) (l8 _ hu8) (l8 _ hv8)).mono ?_
        rintro e w' ⟨rfl, q3, rfl⟩
        rw [H2.out]
        go_wp2_with fail
        refine (covers_any _ _ _ _ _ _ v u _ (hv.drewN _) (hu.drewN _) (l8 _ hv8) (l8 _ hu8)).mono ?_
        rintro e w' ⟨rfl, q4, rfl⟩
        rw [H3.out]
        go_wp2_with fail
        refine (covers_any _ _ _ _ _ _ u v _ (hu.drewN _) (hv.drewN _) (l8 _ hu8) (l8 _ hv8)).mono ?_
        rintro e w' ⟨rfl, q5, rfl⟩
        rw [H2.out]
        go_wp2_with fail
        refine (covers_any _ _ _ _ _ _ v x _ (hv.drewN _) (hx.drewN _) (l8 _ hv8) (l8 _ hx8)).mono ?_
        rintro e w' ⟨rfl, q6, rfl⟩
        rw [H4.out]
        go_wp2_with fail
        refine (lives8_any _).mono ?_
        rintro e wl ⟨rfl, hbl⟩
        go_wp2
        go_ret
        exact ⟨rfl, (below_drewN (Below.refl w.heap.size w) _).trans hbl⟩
      | true =>
        have Htr := Lib.hid (coversF_trans H2.out H4.out)
        go_wp2_with fail
        refine (sameI_any _ _ _ _ _ _ u v _ hu hv (l8 _ hu8) (l8 _ hv8)).mono ?_
        rintro e w' ⟨rfl, q1, rfl⟩
        rw [Hs.out]
        go_wp2_with fail
        refine (covers_any _ _ _ _ _ _ u u _ (hu.drewN _) (hu.drewN _) (l8 _ hu8) (l8 _ hu8)).mono ?_
        rintro e w' ⟨rfl, q2, rfl⟩
        rw [Huu.out]
        go_wp2_with fail
        refine (covers_any _ _ _ _ _ _ u v _ (hu.drewN _) (hv.drewN _) (l8 _ hu8) (l8 _ hv8)).mono ?_
        rintro e w' ⟨rfl, q3, rfl⟩
        rw [H2.out]
        go_wp2_with fail
        refine (covers_any _ _ _ _ _ _ v u _ (hv.drewN _) (hu.drewN _) (l8 _ hv8) (l8 _ hu8)).mono ?_
        rintro e w' ⟨rfl, q4, rfl⟩
        rw [H3.out]
        go_wp2_with fail
        refine (covers_any _ _ _ _ _ _ u v _ (hu.drewN _) (hv.drewN _) (l8 _ hu8) (l8 _ hv8)).mono ?_
        rintro e w' ⟨rfl, q5, rfl⟩
        rw [H2.out]
        go_wp2_with fail
        refine (covers_any _ _ _ _ _ _ v x _ (hv.drewN _) (hx.drewN _) (l8 _ hv8) (l8 _ hx8)).mono ?_
        rintro e w' ⟨rfl, q6, rfl⟩
        rw [H4.out]
        go_wp2_with fail
        refine (covers_any _ _ _ _ _ _ u x _ (hu.drewN _) (hx.drewN _) (l8 _ hu8) (l8 _ hx8)).mono ?_
        rintro e w' ⟨rfl, q7, rfl⟩
        rw [Htr.out]
        go_wp2_with fail
        refine (lives8_any _).mono ?_
        rintro e wl ⟨rfl, hbl⟩
        go_wp2
        go_ret
        exact ⟨rfl, (below_drewN (Below.refl w.heap.size w) _).trans hbl⟩

set_option maxHeartbeats 1000000 in
theorem schemaJoins_any (A B C : Option Addr) (n c m d p f : Nat) (l r t : List Int) (w : World) (hl : RdI w A n l) (hlm : c ≤ maxLen) (hln : n ≤ c) (hr : RdI w B m r) (hrm : d ≤ maxLen) (hrn : m ≤ d) (ht : RdI w C p t) (htm : f ≤ maxLen) (htn : p ≤ f) :
    Calls Try.prog 7 #[.slice A n c, .slice B m d, .slice C p f] w fun e w' => e = .returned (.bool true) ∧ Below w.heap.size w w' := by
  have l8 : ∀ n : Nat, n ≤ 8 → n ≤ maxLen := fun n h => maxLen_big h (by omega)
  go_enter Try.func7, Try.ntmps7
  go_wp2_with fail
  refine (cut_any _ _ _ l _ hl hln hlm).mono ?_
  rintro e w' ⟨⟨n', rfl, hu8, _, hu⟩, rfl⟩
  go_wp2_with fail
  refine (cut_any _ _ _ r _ hr hrn hrm).mono ?_
  rintro e w' ⟨⟨m', rfl, hv8, _, hv⟩, rfl⟩
  go_wp2_with fail
  refine (cut_any _ _ _ t _ ht htn htm).mono ?_
  rintro e w' ⟨⟨p', rfl, hx8, _, hx⟩, rfl⟩
  generalize l.take 8 = u at *
  generalize r.take 8 = v at *
  generalize t.take 8 = x at *
  have Hlu := Lib.hid hu.len
  have Hlv := Lib.hid hv.len
  go_wp2_with fail
  refine (join_any _ _ _ _ _ _ u v _ hu hv (by omega) (by omega)).mono ?_
  rintro e w1 ⟨A1, c1, rfl, ho1, hb1⟩
  have hj := RdI.of_own ho1
  replace hu := hu.below hb1
  replace hv := hv.below hb1
  replace hx := hx.below hb1
  by_cases hlen : n' = m'
  · have hll : u.length = v.length := by rw [Hlu.out, Hlv.out]; exact hlen
    have hjl : (joinF u v).length ≤ 8 := by rw [joinF_length hll, Hlu.out]; exact hu8
    have Hj1 := Lib.hid (joinF_c1 hll)
    have Hj2 := Lib.hid (joinF_c2 hll)
    have Hj3 := Lib.hid (joinF_c3 (w := x) hll)
    clear hll ho1
    generalize (joinF u v) = j at *
    have hj8 := hjl
    obtain ⟨c2, h2⟩ := bool_of (coversF x u)
    obtain ⟨c3, h3⟩ := bool_of (coversF x v)
    have H2 := Lib.hid h2
    have H3 := Lib.hid h3
    clear h2 h3
    subst hlen
    cases c2 with
    | false =>
      have H4 := Lib.hid (show coversF x j = false by rw [← Hj3.out, H2.out]; rfl)
      go_wp2_with fail
      refine (covers_any _ _ _ _ _ _ j u _ hj hu (l8 _ hj8) (l8 _ hu8)).mono ?_
      rintro e w' ⟨rfl, q1, rfl⟩
      rw [Hj1.out]
      go_wp2_with fail
      refine (covers_any _ _ _ _ _ _ j v _ (hj.drewN _) (hv.drewN _) (l8 _ hj8) (l8 _ hv8)).mono ?_
      rintro e w' ⟨rfl, q2, rfl⟩
      rw [Hj2.out]
      go_wp2_with fail
      refine (covers_any _ _ _ _ _ _ x u _ (hx.drewN _) (hu.drewN _) (l8 _ hx8) (l8 _ hu8)).mono ?_
      rintro e w' ⟨rfl, q3, rfl⟩
      rw [H2.out]
      go_wp2_with fail
      refine (covers_any _ _ _ _ _ _ x j _ (hx.drewN _) (hj.drewN _) (l8 _ hx8) (l8 _ hj8)).mono ?_
      rintro e w' ⟨rfl, q4, rfl⟩
      rw [H4.out]
      go_wp2_with fail
      refine (lives8_any _).mono ?_
      rintro e wl ⟨rfl, hbl⟩
      go_wp2
      go_ret
      exact ⟨rfl, hb1.trans ((below_drewN (Below.refl w.heap.size w1) _).trans (hbl.mono hb1.size))⟩
    | true =>
      cases c3 with
      | false =>
        have H4 := Lib.hid (show coversF x j = false by rw [← Hj3.out, H2.out, H3.out]; rfl)
        go_wp2_with fail
        refine (covers_any _ _ _ _ _ _ j u _ hj hu (l8 _ hj8) (l8 _ hu8)).mono ?_
        rintro e w' ⟨rfl, q1, rfl⟩
        rw [Hj1.out]
        go_wp2_with fail
        refine (covers_any _ _ _ _ _ _ j v _ (hj.drewN _) (hv.drewN _) (l8 _ hj8) (l8 _ hv8)).mono ?_
        rintro e w' ⟨rfl, q2, rfl⟩
        rw [Hj2.out]
        go_wp2_with fail
        refine (covers_any _ _ _ _ _ _ x u _ (hx.drewN _) (hu.drewN _) (l8 _ hx8) (l8 _ hu8)).mono ?_
        rintro e w' ⟨rfl, q3, rfl⟩
        rw [H2.out]
        go_wp2_with fail
        refine (covers_any _ _ _ _ _ _ x v _ (hx.drewN _) (hv.drewN _) (l8 _ hx8) (l8 _ hv8)).mono ?_
        rintro e w' ⟨rfl, q4, rfl⟩
        rw [H3.out]
        go_wp2_with fail
        refine (covers_any _ _ _ _ _ _ x j _ (hx.drewN _) (hj.drewN _) (l8 _ hx8) (l8 _ hj8)).mono ?_
        rintro e w' ⟨rfl, q5, rfl⟩
        rw [H4.out]
        go_wp2_with fail
        refine (lives8_any _).mono ?_
        rintro e wl ⟨rfl, hbl⟩
        go_wp2
        go_ret
        exact ⟨rfl, hb1.trans ((below_drewN (Below.refl w.heap.size w1) _).trans (hbl.mono hb1.size))⟩
      | true =>
        have H4 := Lib.hid (show coversF x j = true by rw [← Hj3.out, H2.out, H3.out]; rfl)
        go_wp2_with fail
        refine (covers_any _ _ _ _ _ _ j u _ hj hu (l8 _ hj8) (l8 _ hu8)).mono ?_
        rintro e w' ⟨rfl, q1, rfl⟩
        rw [Hj1.out]
        go_wp2_with fail
        refine (covers_any _ _ _ _ _ _ j v _ (hj.drewN _) (hv.drewN _) (l8 _ hj8) (l8 _ hv8)).mono ?_
        rintro e w' ⟨rfl, q2, rfl⟩
        rw [Hj2.out]
        go_wp2_with fail
        refine (covers_any _ _ _ _ _ _ x u _ (hx.drewN _) (hu.drewN _) (l8 _ hx8) (l8 _ hu8)).mono ?_
        rintro e w' ⟨rfl, q3, rfl⟩
        rw [H2.out]
        go_wp2_with fail
        refine (covers_any _ _ _ _ _ _ x v _ (hx.drewN _) (hv.drewN _) (l8 _ hx8) (l8 _ hv8)).mono ?_
        rintro e w' ⟨rfl, q4, rfl⟩
        rw [H3.out]
        go_wp2_with fail
        refine (covers_any _ _ _ _ _ _ x j _ (hx.drewN _) (hj.drewN _) (l8 _ hx8) (l8 _ hj8)).mono ?_
        rintro e w' ⟨rfl, q5, rfl⟩
        rw [H4.out]
        go_wp2_with fail
        refine (lives8_any _).mono ?_
        rintro e wl ⟨rfl, hbl⟩
        go_wp2
        go_ret
        exact ⟨rfl, hb1.trans ((below_drewN (Below.refl w.heap.size w1) _).trans (hbl.mono hb1.size))⟩
  · have hjl : joinF u v = [] := joinF_len (by rw [Hlu.out, Hlv.out]; exact hlen)
    rw [hjl]
    clear ho1 hj hjl
    go_wp2_with fail
    refine (lives8_any _).mono ?_
    rintro e wl ⟨rfl, hbl⟩
    go_wp2
    go_ret
    exact ⟨rfl, below_then hb1 hbl (Nat.le_refl _)⟩
end Go.Proofs.Ytojmkbhihnnmaaa
