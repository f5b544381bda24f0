/-
  The walks of the schema: corners.
-/
import Derived.Test.YtojmkbhihnnmaaaSch7
namespace Go.Proofs.Ytojmkbhihnnmaaa
open Go.RowKit Go.Maps

theorem below0_any (z : Int) (w : World) : Calls Try.prog 60 #[.int .i64 z] w fun e w' => e = .returned (.bool (decide (z < 0))) ∧ w = w' := by
  go_enter Try.func60, Try.ntmps60
  go_wp2
  go_ret
  exact ⟨rfl, rfl⟩

theorem idxint_any (A : Option Addr) (n c : Nat) (l : List Int) (w : World) (hr : RdI w A n l) (hn : n ≤ maxLen)  :
    Calls Try.prog 82 #[.slice A n c, .func (.func 60) #[] #[]] w fun e w' => e = .returned (.int .i64 (idxF (fun z => decide (z < 0)) l)) ∧ w = w' := by
  unfold maxLen at hn
  have H1 := Lib.hid hr.len
  go_enter Try.func82, Try.ntmps82
  go_wp2_with fail
  go_loop [8] (fun i => ∃ k : Nat, k ≤ n ∧ i = .int .i64 k ∧ (∀ j y, j < k → l[j]? = some y → (fun z : Int => decide (z < 0)) y = false)) (fun i => n - (intOf i).toNat)
  case atStart => exact ⟨0, Nat.zero_le _, rfl, fun j y hj => by omega⟩
  case round =>
    obtain ⟨k, hk, rfl, hno⟩ := hrel
    have Hno := Lib.hid hno
    clear hno
    by_cases hlt : k < n
    · obtain ⟨ad, rfl, hc⟩ := hr.at_ hlt
      have hsk : l[k]? = some (l[k]?.getD 0) := by rw [List.getElem?_eq_getElem (by rw [H1.out]; exact hlt)]; rfl
      generalize l[k]?.getD 0 = s at *
      cases hnb : decide (s < 0) with
      | true =>
        have Hix := Lib.hid (idxF_at (fun z : Int => decide (z < 0)) l k s hsk hnb Hno.out)
        clear hsk
        go_wp2_with fail
        refine (below0_any _ _).mono ?_
        rintro e w' ⟨rfl, rfl⟩
        rw [hnb]
        go_wp2
        go_ret
        exact ⟨by rw [Hix.out]; rfl, rfl⟩
      | false =>
        have Hst := Lib.hid (show ∀ j y, j < k + 1 → l[j]? = some y → (fun z : Int => decide (z < 0)) y = false from fun j y hj hy => by
          rcases Nat.lt_or_ge j k with h | h
          · exact Hno.out j y h hy
          · obtain rfl : j = k := by omega
            obtain rfl : s = y := Option.some.inj (hsk.symm.trans hy)
            exact hnb)
        clear hsk
        go_wp2_with fail
        refine (below0_any _ _).mono ?_
        rintro e w' ⟨rfl, rfl⟩
        rw [hnb]
        go_wp2
        go_round
        case rel => exact ⟨k + 1, by omega, by go_num, Hst.out⟩
        case measure => simp [intOf]; omega
    · obtain rfl : k = n := by omega
      have Hix := Lib.hid (idxF_none (fun z : Int => decide (z < 0)) l (fun j y hy => Hno.out j y (by rw [← H1.out]; exact (List.getElem?_eq_some_iff.1 hy).1) hy))
      go_wp2
      go_ret
      exact ⟨by rw [Hix.out]; rfl, rfl⟩

theorem conint_any (A : Option Addr) (n c : Nat) (l : List Int) (w : World) (hr : RdI w A n l) (hn : n ≤ maxLen)  :
    Calls Try.prog 59 #[.slice A n c, .func (.func 60) #[] #[]] w fun e w' => e = .returned (.bool (l.any fun z => decide (z < 0))) ∧ w = w' := by
  have Hix := Lib.hid (idxF_any (fun z : Int => decide (z < 0)) l)
  go_enter Try.func59, Try.ntmps59
  go_wp2_with fail
  refine (idxint_any _ _ _ _ _ hr hn).mono ?_
  rintro e w' ⟨rfl, rfl⟩
  generalize idxF (fun z : Int => decide (z < 0)) l = ix at *
  go_wp2
  go_ret
  exact ⟨by rw [← Hix.out]; rfl, rfl⟩

def cornerF (S : Sch) (v : List Int) : Bool := coversF (baseF S) v && !(v.any fun z => decide (z < 0))

theorem corner_any (A1 A2 A3 B : Option Addr) (n1 n2 n3 c1 c2 c3 m c : Nat) (S : Sch) (v : List Int) (w : World) (hr : RdSch w A1 A2 A3 n1 n2 n3 c1 c2 c3 S) (hn : n1 ≤ 1000000) (hv : RdI w B m v) (hm : m ≤ maxLen) :
    Calls Try.prog 25 #[.agg #[.slice A1 n1 c1, .slice A2 n2 c2, .slice A3 n3 c3], .slice B m c] w fun e w' => e = .returned (.bool (cornerF S v)) ∧ Below w.heap.size w w' := by
  have hbx : Below w.heap.size w (w.alloc (.cells #[.slice A1 n1 c1, .slice A2 n2 c2, .slice A3 n3 c3] 26)) := (Below.refl _ _).alloc (Nat.le_refl _) _
  have hr1 := hr.below hbx
  go_enter Try.func25, Try.ntmps25
  go_wp2_with fail
  refine (base_any _ _ _ _ _ _ _ _ _ _ _ hr1 hn).mono ?_
  rintro e w2 ⟨A', c', rfl, hown, hb2⟩
  have hb02 := below_then hbx hb2 (Nat.le_refl _)
  go_wp2_with fail
  refine (covers_any _ _ _ _ _ _ _ _ _ (RdI.of_own hown) (hv.below hb02) (maxLen_big hn (by omega)) hm).mono ?_
  rintro e w3 ⟨rfl, q, rfl⟩
  have hv3 : RdI (w2.drewN q) B m v := (hv.below hb02).drewN q
  have Hcf := Lib.hid (show cornerF S v = (coversF (baseF S) v && !(v.any fun z => decide (z < 0))) from rfl)
  generalize coversF (baseF S) v = cv at *
  cases cv with
  | true =>
    go_wp2_with fail
    refine (conint_any _ _ _ _ _ hv3 hm).mono ?_
    rintro e w4 ⟨rfl, rfl⟩
    generalize (v.any fun z => decide (z < 0)) = an at *
    go_wp2
    go_ret
    exact ⟨by rw [Hcf.out]; rfl, below_drewN hb02 q⟩
  | false =>
    go_wp2
    go_ret
    exact ⟨by rw [Hcf.out]; rfl, below_drewN hb02 q⟩
theorem baseF_at (S : Sch) (i : Nat) (d : Dm) (h : S.dims[i]? = some d) : (baseF S)[i]?.getD 0 = (d.levels.length : Int) := by
  unfold baseF
  rw [List.getElem?_map, h]; rfl
theorem cornerF_no {S : Sch} {v : List Int} {i : Nat} {d : Dm} (hi : i < v.length) (hd : S.dims[i]? = some d) (h : v[i]?.getD 0 < 0 ∨ (d.levels.length : Int) < v[i]?.getD 0) : cornerF S v = false := by
  unfold cornerF
  rcases h with h | h
  · have : (v.any fun z => decide (z < 0)) = true := List.any_eq_true.2 ⟨v[i], List.getElem_mem hi, by rw [List.getElem?_eq_getElem hi] at h; exact decide_eq_true h⟩
    rw [this]; simp
  · have : coversF (baseF S) v = false := decide_eq_false fun e => by
      have := e.2 i (by rw [e.1]; exact hi)
      rw [baseF_at S i d hd] at this; omega
    rw [this]; simp
theorem cornerF_yes {S : Sch} {v : List Int} (hl : v.length = S.dims.length) (h : ∀ i, i < v.length → 0 ≤ v[i]?.getD 0 ∧ v[i]?.getD 0 ≤ (baseF S)[i]?.getD 0) : cornerF S v = true := by
  unfold cornerF
  have h1 : coversF (baseF S) v = true := decide_eq_true ⟨by rw [baseF_len]; omega, fun i hi => (h i (by rw [baseF_len] at hi; omega)).2⟩
  have h2 : (v.any fun z => decide (z < 0)) = false := List.any_eq_false.2 fun z hz => by
    obtain ⟨i, hi, rfl⟩ := List.getElem_of_mem hz
    have := (h i hi).1
    rw [List.getElem?_eq_getElem hi] at this
    simpa using this
  rw [h1, h2]; rfl
theorem cornerF_len {S : Sch} {v : List Int} (h : v.length ≠ S.dims.length) : cornerF S v = false := by
  unfold cornerF
  rw [coversF_len (by rw [baseF_len]; exact fun e => h e.symm)]; rfl

theorem refcorner_any (A1 A2 A3 B : Option Addr) (n1 n2 n3 c1 c2 c3 m c : Nat) (S : Sch) (v : List Int) (w : World) (hr : RdSch w A1 A2 A3 n1 n2 n3 c1 c2 c3 S) (hn : n1 ≤ 1000000) (hv : RdI w B m v) (hm : m ≤ maxLen) :
    Calls Try.prog 26 #[.agg #[.slice A1 n1 c1, .slice A2 n2 c2, .slice A3 n3 c3], .slice B m c] w fun e w' => e = .returned (.bool (cornerF S v)) ∧ Below w.heap.size w w' := by
  unfold maxLen at hm
  have H1 := Lib.hid hr.d.1
  have H2 := Lib.hid hv.len
  have hbx : Below w.heap.size w (w.alloc (.cells #[.slice A1 n1 c1, .slice A2 n2 c2, .slice A3 n3 c3] 26)) := (Below.refl _ _).alloc (Nat.le_refl _) _
  by_cases hmn : m = n1
  · subst hmn
    go_enter Try.func26, Try.ntmps26
    go_wp2
    have hr1 := hr.below hbx
    have hv1 := hv.below hbx
    have hblk := Blk.new w 26 #[.slice A1 m c1, .slice A2 n2 c2, .slice A3 n3 c3]
    have hsz : (w.alloc (.cells #[.slice A1 m c1, .slice A2 n2 c2, .slice A3 n3 c3] 26)).heap.size = w.heap.size + 1 := by simp
    generalize w.alloc (.cells #[.slice A1 m c1, .slice A2 n2 c2, .slice A3 n3 c3] 26) = w1 at *
    go_loopw [5, 24, 25, 26, 27, 28, 29, 30, 31, 32, 33, 34, 35] (fun i _ _ _ _ _ _ _ _ _ _ _ _ wr => ∃ k : Nat, k ≤ m ∧ i = .int .i64 k ∧ (∀ j, j < k → 0 ≤ v[j]?.getD 0 ∧ v[j]?.getD 0 ≤ (baseF S)[j]?.getD 0) ∧ ∃ q, wr = w1.drewN q) (fun i _ _ _ _ _ _ _ _ _ _ _ _ _ => m - (intOf i).toNat)
    case atStart => exact ⟨0, Nat.zero_le _, rfl, fun j hj => by omega, 0, rfl⟩
    case round =>
      obtain ⟨k, hk, rfl, hok, hq⟩ := hrel
      have Hok := Lib.hid hok
      clear hok
      have hb1 : Below w1.heap.size w1 wr := by obtain ⟨q, rfl⟩ := hq; exact below_drewN (Below.refl _ _) q
      have hq1 : ∀ q1, ∃ q, wr.drewN q1 = w1.drewN q := fun q1 => by obtain ⟨q, rfl⟩ := hq; exact ⟨_, World.drewN_drewN _ _ _⟩
      have hbe : ∀ q, Below w.heap.size w (w1.drewN q) := fun q => below_drewN hbx q
      have hq0 : wr.cell? ⟨w.heap.size, 0, none⟩ = some (.slice A1 m c1) := (hblk.kept hb1).cell 0
      by_cases hlt : k < m
      · obtain ⟨dm, ad, D, md, cD, hdm, rfl, _, hc1, hrt, hmc, hcm⟩ := (hr1.d.below hb1).at_ hlt
        obtain ⟨bd, rfl, hc⟩ := (hv1.below hb1).at_ hlt
        have Hba := Lib.hid (baseF_at S k dm hdm)
        have Hno := Lib.hid (fun h => cornerF_no (S := S) (v := v) (i := k) (d := dm) (by rw [H2.out]; exact hlt) hdm h)
        have hml := hrt.len
        have Hml := Lib.hid hml
        unfold maxLen at hcm
        clear hdm hrt hml
        generalize hx : v[k]?.getD 0 = x at *
        have Hx := Lib.hid hx
        clear hx
        by_cases h0 : x < 0
        · have hne : cornerF S v = false := Hno.out (Or.inl h0)
          have Hne := Lib.hid hne
          clear hne
          go_wp2_with fail
          go_quiet (fail)
          go_wp2
          go_ret
          obtain ⟨q, hq⟩ := hq1 nq
          exact ⟨by rw [Hne.out]; rfl, by rw [hq]; exact hbe q⟩
        · have E1 : decide (x < 0) = false := by simp; omega
          by_cases h1 : (md : Int) < x
          · have hne : cornerF S v = false := Hno.out (Or.inr (by rw [Hml.out]; exact h1))
            have Hne := Lib.hid hne
            clear hne
            go_wp2_with fail
            go_quiet (fail)
            go_wp2
            go_ret
            obtain ⟨q, hq⟩ := hq1 nq
            exact ⟨by rw [Hne.out]; rfl, by rw [hq]; exact hbe q⟩
          · have Hst := Lib.hid (show ∀ j, j < k + 1 → 0 ≤ v[j]?.getD 0 ∧ v[j]?.getD 0 ≤ (baseF S)[j]?.getD 0 from fun j hj => by
              rcases Nat.lt_or_ge j k with h | h
              · exact Hok.out j h
              · obtain rfl : j = k := by omega
                rw [Hx.out, Hba.out, Hml.out]; omega)
            go_wp2_with fail
            go_quiet (fail)
            go_wp2
            go_roundw
            case rel => exact ⟨k + 1, by omega, by go_num, Hst.out, hq1 _⟩
            case measure => simp [intOf]; omega
      · obtain rfl : k = m := by omega
        have hne : cornerF S v = true := cornerF_yes (by rw [H1.out, H2.out]) (fun i hi => Hok.out i (by rw [H2.out] at hi; exact hi))
        have Hne := Lib.hid hne
        clear hne
        go_wp2
        go_ret
        obtain ⟨q, rfl⟩ := hq
        exact ⟨by rw [Hne.out]; rfl, hbe q⟩
  · have hne : cornerF S v = false := cornerF_len (by rw [H1.out, H2.out]; exact hmn)
    have Hne := Lib.hid hne
    clear hne
    go_enter Try.func26, Try.ntmps26
    go_wp2
    go_ret
    exact ⟨by rw [Hne.out]; rfl, hbx⟩
end Go.Proofs.Ytojmkbhihnnmaaa
