/-
  The laws of the frames: their walks (Torn).
-/
import Derived.Test.YtfhfpcihbclanaaFrameR
namespace Go.Proofs.Ytfhfpcihbclanaa
open Go.RowKit

theorem framesB_mono (fs : List Fr) {a b : Nat} (h : a ≤ b) : (framesB (fs.take a)).length ≤ (framesB (fs.take b)).length := by
  have e : fs.take b = fs.take a ++ (fs.take b).drop a := by
    have := List.take_append_drop a (fs.take b)
    rw [List.take_take, Nat.min_eq_left h] at this
    exact this.symm
  rw [e]
  simp [framesB, List.flatMap_append]
theorem framesB_le_all (fs : List Fr) (j L : Nat) (hL : (framesB fs).length = L) : (framesB (fs.take j)).length ≤ L := by
  have h := framesB_mono fs (show j ≤ max j fs.length by omega)
  rw [List.take_of_length_le (show fs.length ≤ max j fs.length by omega)] at h
  omega
theorem endsL_at (fs : List Fr) (j : Nat) (h : j < fs.length) : (endsL fs)[j]?.getD 0 = ((framesB (fs.take (j + 1))).length : Int) := by
  unfold endsL
  rw [List.getElem?_map, List.getElem?_range h]; rfl
theorem ints_at {w : World} {base n c : Nat} {e : TypeId} {A : Option Addr} {zs : List Int} (h : w.ownsRow base e 1 (.slice A n c) n (zs.map (Value.int .i64))) {k : Nat} (hk : k < n) :
    ∃ g, A = some ⟨g, 0, none⟩ ∧ w.cell? ⟨g, k, none⟩ = some (.int .i64 (zs[k]?.getD 0)) := by
  obtain ⟨g, cap, hv, _, _⟩ := h.form (by omega)
  injection hv with hA _ hc
  subst hA; subst hc
  refine ⟨g, rfl, ?_⟩
  have hl : zs.length = n := by have := h.1; simpa using this
  rw [h.cellAt k (by omega), List.getElem?_map, List.getElem?_eq_getElem (by omega)]; rfl
/-- where a cut falls -/
theorem cut_ex (fs : List Fr) (p : Nat) : ∃ k, k ≤ fs.length ∧ (framesB (fs.take k)).length ≤ p ∧ (k = fs.length ∨ p < (framesB (fs.take (k + 1))).length) := by
  have h : ∀ m, m ≤ fs.length → (∃ k, k ≤ fs.length ∧ (framesB (fs.take k)).length ≤ p ∧ (k = fs.length ∨ p < (framesB (fs.take (k + 1))).length)) ∨ (framesB (fs.take m)).length ≤ p := by
    intro m
    induction m with
    | zero => intro _; right; simp [framesB]
    | succ m ih =>
      intro hm
      rcases ih (by omega) with h | h
      · exact .inl h
      · by_cases hp : p < (framesB (fs.take (m + 1))).length
        · exact .inl ⟨m, by omega, h, .inr hp⟩
        · exact .inr (by omega)
  rcases h fs.length (Nat.le_refl _) with h | h
  · exact h
  · exact ⟨fs.length, Nat.le_refl _, h, .inl rfl⟩

set_option maxHeartbeats 1000000 in
theorem torn_pos (f : Int) (F p M k L E X : Nat) (A : Option Addr) (n c : Nat) (ps : List (Int × List UInt8)) (fs : List Fr) (w : World) (hF : (if f < 0 then -(f + 1) else f) = F) (hf1 : -9223372036854775808 ≤ f) (hf2 : f ≤ 9223372036854775807)
    (hfs : madeF ps = fs) (hM : fs.length = M) (hm : M ≤ 12) (hL : (framesB fs).length = L) (hL2 : L ≤ 2000) (hp : (F : Int) % ((L : Int) + 1) = (p : Nat)) (hpl : p ≤ L)
    (hk : k ≤ M) (hE : (framesB (fs.take k)).length = E) (hX : (if E = p then 0 else 3) = X) (hlo : E ≤ p) (hhi : k = M ∨ p < (framesB (fs.take (k + 1))).length) (hr : RdP w A n ps) :
    Calls Try.prog 12 #[.slice A n c, .int .i64 f] w fun e w' => e = .returned (.bool true) ∧ Below w.heap.size w w' := by
  have hcut := scan_cut fs k p (by rw [← hfs]; exact madeF_ok ps) (by omega) (by omega) (by rw [hE]; exact hlo) (by rw [hM]; exact hhi)
  rw [hE, hX] at hcut
  have Hcut := Lib.hid hcut
  have HE0 := Lib.hid hE
  have HX := Lib.hid hX
  clear hE hX
  clear hcut
  have hmd := fun A' n' c' (h : RdP w A' n' ps) => made_any A' n' c' ps w h
  rw [hfs] at hmd
  unfold MadeOk at hmd
  rw [hL, hM] at hmd
  by_cases hneg : f < 0
  · rw [if_pos hneg] at hF
    go_enter Try.func12, Try.ntmps12
    go_wp2_with fail
    refine (hmd _ _ _ hr).mono ?_
    rintro e w1 ⟨A1, c1, A2, c2, A3, c3, rfl, hown1, hrd2, hfc2, hc2, hown3, hb1⟩
    have hr1 := (Rd.of_own hown1).take (k := p) (by omega)
    have hc1 := own_bounds hown1
    have hc1a := hc1.1
    have hc1b := hc1.2
    have hc3 := own_bounds hown3
    have hc3b := hc3.2
    unfold maxLen at hc1b hc2 hc3b
    have hrt := hrd2.take hk
    clear hown1 hrd2 hc1 hc3
    go_wp2_with fail
    refine (scan_any _ _ _ _ _ hr1 (by omega) (by omega) hc1b).mono ?_
    rintro e w2 ⟨A4, c4, rfl, hown4, hb2⟩
    rw [Hcut.out] at hown4 ⊢
    have hrt2 := hrt.below hb2
    have hown32 := own_below hown3 hb2
    have hb02 := below_then hb1 hb2 (Nat.le_refl _)
    have hrd4 := hown4.reads
    have hlt4 : (fs.take k).length = k := by rw [List.length_take]; omega
    clear hown3 hb1 hb2 hr1 hrt hown4
    rw [hlt4] at hrd4
    go_wp2
    go_loop [11, 12] (fun i at_ => ∃ j : Nat, j ≤ k ∧ i = .int .i64 j ∧ at_ = .int .i64 ((framesB (fs.take j)).length : Nat)) (fun i _ => k - (intOf i).toNat)
    case atStart => exact ⟨0, Nat.zero_le _, rfl, rfl⟩
    case round =>
      obtain ⟨j, hj, rfl, rfl⟩ := hrel
      by_cases hlt : j < k
      · obtain ⟨g, rfl, hcell⟩ := ints_at hown32 (k := j) (by omega)
        rw [endsL_at fs j (by omega)] at hcell
        have hle : (framesB (fs.take (j + 1))).length ≤ p := Nat.le_trans (framesB_mono fs (show j + 1 ≤ k by omega)) (by rw [HE0.out]; exact hlo)
        have hm2 : (framesB (fs.take (j + 1))).length ≤ L := framesB_le_all fs (j + 1) L hL
        generalize hE : (framesB (fs.take (j + 1))).length = E2 at *
        have HE := Lib.hid hE
        clear hE
        have hjl : (j : Int) < (M : Int) := by omega
        go_wp2
        go_round
        case rel => exact ⟨j + 1, by omega, by go_num, by rw [HE.out]⟩
        case measure => simp [intOf]; omega
      · obtain rfl : j = k := by omega
        clear hlt
        have hend : ∃ z : Int, (∀ (hjM : (j : Int) < (M : Int)), ∃ g, A3 = some ⟨g, 0, none⟩ ∧ w2.cell? ⟨g, j, none⟩ = some (.int .i64 z) ∧ (p : Int) < z ∧ z < 9223372036854775807) := by
          by_cases hjM : j < M
          · obtain ⟨g, hg, hcell⟩ := ints_at hown32 (k := j) (by omega)
            rw [endsL_at fs j (by omega)] at hcell
            have hm2 : (framesB (fs.take (j + 1))).length ≤ L := framesB_le_all fs (j + 1) L hL
            exact ⟨_, fun _ => ⟨g, hg, hcell, by rcases hhi with h | h <;> omega, by omega⟩⟩
          · exact ⟨0, fun h => by omega⟩
        obtain ⟨z, hz⟩ := hend
        rw [HE0.out]
        have hjc : j ≤ c2 := by omega
        clear hown32
        have hX := HX.out
        by_cases hjM : (j : Int) < (M : Int)
        · obtain ⟨g, rfl, hcell, hzp, hzl⟩ := hz hjM
          clear hz
          by_cases hEp : E = p
          · subst hEp
            clear HE0 HX Hcut
            rw [if_pos rfl] at hX
            subst hX
            go_wp2_with fail
            refine (same_fr _ _ _ _ _ _ _ _ _ hrd4 hrt2 (maxLen_big (k := 2000) (by omega) (by omega)) (maxLen_big (k := 2000) (by omega) (by omega))).mono ?_
            rintro e w4 ⟨rfl, q, rfl⟩
            simp only [decide_true]
            have hb04 := below_drewN hb02 q
            generalize World.drewN _ q = w4 at *
            clear hrd4 hrt2
            go_wp2_with fail
            refine (lives3_any _).mono ?_; rintro e w5 ⟨rfl, hb5⟩
            go_wp2
            go_ret
            exact ⟨rfl, hb04.trans (hb5.mono hb04.size)⟩
          · clear HE0 HX Hcut
            rw [if_neg hEp] at hX
            subst hX
            have hEp' : (((E : Nat) : Int) == (p : Nat)) = false := by simp; omega
            go_wp2_with fail
            refine (same_fr _ _ _ _ _ _ _ _ _ hrd4 hrt2 (maxLen_big (k := 2000) (by omega) (by omega)) (maxLen_big (k := 2000) (by omega) (by omega))).mono ?_
            rintro e w4 ⟨rfl, q, rfl⟩
            simp only [decide_true]
            have hb04 := below_drewN hb02 q
            generalize World.drewN _ q = w4 at *
            clear hrd4 hrt2
            go_wp2_with fail
            refine (lives3_any _).mono ?_; rintro e w5 ⟨rfl, hb5⟩
            go_wp2
            go_ret
            exact ⟨rfl, hb04.trans (hb5.mono hb04.size)⟩
        · clear hz
          by_cases hEp : E = p
          · subst hEp
            clear HE0 HX Hcut
            rw [if_pos rfl] at hX
            subst hX
            go_wp2_with fail
            refine (same_fr _ _ _ _ _ _ _ _ _ hrd4 hrt2 (maxLen_big (k := 2000) (by omega) (by omega)) (maxLen_big (k := 2000) (by omega) (by omega))).mono ?_
            rintro e w4 ⟨rfl, q, rfl⟩
            simp only [decide_true]
            have hb04 := below_drewN hb02 q
            generalize World.drewN _ q = w4 at *
            clear hrd4 hrt2
            go_wp2_with fail
            refine (lives3_any _).mono ?_; rintro e w5 ⟨rfl, hb5⟩
            go_wp2
            go_ret
            exact ⟨rfl, hb04.trans (hb5.mono hb04.size)⟩
          · clear HE0 HX Hcut
            rw [if_neg hEp] at hX
            subst hX
            have hEp' : (((E : Nat) : Int) == (p : Nat)) = false := by simp; omega
            go_wp2_with fail
            refine (same_fr _ _ _ _ _ _ _ _ _ hrd4 hrt2 (maxLen_big (k := 2000) (by omega) (by omega)) (maxLen_big (k := 2000) (by omega) (by omega))).mono ?_
            rintro e w4 ⟨rfl, q, rfl⟩
            simp only [decide_true]
            have hb04 := below_drewN hb02 q
            generalize World.drewN _ q = w4 at *
            clear hrd4 hrt2
            go_wp2_with fail
            refine (lives3_any _).mono ?_; rintro e w5 ⟨rfl, hb5⟩
            go_wp2
            go_ret
            exact ⟨rfl, hb04.trans (hb5.mono hb04.size)⟩
  · rw [if_neg hneg] at hF
    subst hF
    have hneg' : ¬ ((F : Nat) : Int) < 0 := by omega
    clear hneg
    go_enter Try.func12, Try.ntmps12
    go_wp2_with fail
    refine (hmd _ _ _ hr).mono ?_
    rintro e w1 ⟨A1, c1, A2, c2, A3, c3, rfl, hown1, hrd2, hfc2, hc2, hown3, hb1⟩
    have hr1 := (Rd.of_own hown1).take (k := p) (by omega)
    have hc1 := own_bounds hown1
    have hc1a := hc1.1
    have hc1b := hc1.2
    have hc3 := own_bounds hown3
    have hc3b := hc3.2
    unfold maxLen at hc1b hc2 hc3b
    have hrt := hrd2.take hk
    clear hown1 hrd2 hc1 hc3
    go_wp2_with fail
    refine (scan_any _ _ _ _ _ hr1 (by omega) (by omega) hc1b).mono ?_
    rintro e w2 ⟨A4, c4, rfl, hown4, hb2⟩
    rw [Hcut.out] at hown4 ⊢
    have hrt2 := hrt.below hb2
    have hown32 := own_below hown3 hb2
    have hb02 := below_then hb1 hb2 (Nat.le_refl _)
    have hrd4 := hown4.reads
    have hlt4 : (fs.take k).length = k := by rw [List.length_take]; omega
    clear hown3 hb1 hb2 hr1 hrt hown4
    rw [hlt4] at hrd4
    go_wp2
    go_loop [11, 12] (fun i at_ => ∃ j : Nat, j ≤ k ∧ i = .int .i64 j ∧ at_ = .int .i64 ((framesB (fs.take j)).length : Nat)) (fun i _ => k - (intOf i).toNat)
    case atStart => exact ⟨0, Nat.zero_le _, rfl, rfl⟩
    case round =>
      obtain ⟨j, hj, rfl, rfl⟩ := hrel
      by_cases hlt : j < k
      · obtain ⟨g, rfl, hcell⟩ := ints_at hown32 (k := j) (by omega)
        rw [endsL_at fs j (by omega)] at hcell
        have hle : (framesB (fs.take (j + 1))).length ≤ p := Nat.le_trans (framesB_mono fs (show j + 1 ≤ k by omega)) (by rw [HE0.out]; exact hlo)
        have hm2 : (framesB (fs.take (j + 1))).length ≤ L := framesB_le_all fs (j + 1) L hL
        generalize hE : (framesB (fs.take (j + 1))).length = E2 at *
        have HE := Lib.hid hE
        clear hE
        have hjl : (j : Int) < (M : Int) := by omega
        go_wp2
        go_round
        case rel => exact ⟨j + 1, by omega, by go_num, by rw [HE.out]⟩
        case measure => simp [intOf]; omega
      · obtain rfl : j = k := by omega
        clear hlt
        have hend : ∃ z : Int, (∀ (hjM : (j : Int) < (M : Int)), ∃ g, A3 = some ⟨g, 0, none⟩ ∧ w2.cell? ⟨g, j, none⟩ = some (.int .i64 z) ∧ (p : Int) < z ∧ z < 9223372036854775807) := by
          by_cases hjM : j < M
          · obtain ⟨g, hg, hcell⟩ := ints_at hown32 (k := j) (by omega)
            rw [endsL_at fs j (by omega)] at hcell
            have hm2 : (framesB (fs.take (j + 1))).length ≤ L := framesB_le_all fs (j + 1) L hL
            exact ⟨_, fun _ => ⟨g, hg, hcell, by rcases hhi with h | h <;> omega, by omega⟩⟩
          · exact ⟨0, fun h => by omega⟩
        obtain ⟨z, hz⟩ := hend
        rw [HE0.out]
        have hjc : j ≤ c2 := by omega
        clear hown32
        have hX := HX.out
        by_cases hjM : (j : Int) < (M : Int)
        · obtain ⟨g, rfl, hcell, hzp, hzl⟩ := hz hjM
          clear hz
          by_cases hEp : E = p
          · subst hEp
            clear HE0 HX Hcut
            rw [if_pos rfl] at hX
            subst hX
            go_wp2_with fail
            refine (same_fr _ _ _ _ _ _ _ _ _ hrd4 hrt2 (maxLen_big (k := 2000) (by omega) (by omega)) (maxLen_big (k := 2000) (by omega) (by omega))).mono ?_
            rintro e w4 ⟨rfl, q, rfl⟩
            simp only [decide_true]
            have hb04 := below_drewN hb02 q
            generalize World.drewN _ q = w4 at *
            clear hrd4 hrt2
            go_wp2_with fail
            refine (lives3_any _).mono ?_; rintro e w5 ⟨rfl, hb5⟩
            go_wp2
            go_ret
            exact ⟨rfl, hb04.trans (hb5.mono hb04.size)⟩
          · clear HE0 HX Hcut
            rw [if_neg hEp] at hX
            subst hX
            have hEp' : (((E : Nat) : Int) == (p : Nat)) = false := by simp; omega
            go_wp2_with fail
            refine (same_fr _ _ _ _ _ _ _ _ _ hrd4 hrt2 (maxLen_big (k := 2000) (by omega) (by omega)) (maxLen_big (k := 2000) (by omega) (by omega))).mono ?_
            rintro e w4 ⟨rfl, q, rfl⟩
            simp only [decide_true]
            have hb04 := below_drewN hb02 q
            generalize World.drewN _ q = w4 at *
            clear hrd4 hrt2
            go_wp2_with fail
            refine (lives3_any _).mono ?_; rintro e w5 ⟨rfl, hb5⟩
            go_wp2
            go_ret
            exact ⟨rfl, hb04.trans (hb5.mono hb04.size)⟩
        · clear hz
          by_cases hEp : E = p
          · subst hEp
            clear HE0 HX Hcut
            rw [if_pos rfl] at hX
            subst hX
            go_wp2_with fail
            refine (same_fr _ _ _ _ _ _ _ _ _ hrd4 hrt2 (maxLen_big (k := 2000) (by omega) (by omega)) (maxLen_big (k := 2000) (by omega) (by omega))).mono ?_
            rintro e w4 ⟨rfl, q, rfl⟩
            simp only [decide_true]
            have hb04 := below_drewN hb02 q
            generalize World.drewN _ q = w4 at *
            clear hrd4 hrt2
            go_wp2_with fail
            refine (lives3_any _).mono ?_; rintro e w5 ⟨rfl, hb5⟩
            go_wp2
            go_ret
            exact ⟨rfl, hb04.trans (hb5.mono hb04.size)⟩
          · clear HE0 HX Hcut
            rw [if_neg hEp] at hX
            subst hX
            have hEp' : (((E : Nat) : Int) == (p : Nat)) = false := by simp; omega
            go_wp2_with fail
            refine (same_fr _ _ _ _ _ _ _ _ _ hrd4 hrt2 (maxLen_big (k := 2000) (by omega) (by omega)) (maxLen_big (k := 2000) (by omega) (by omega))).mono ?_
            rintro e w4 ⟨rfl, q, rfl⟩
            simp only [decide_true]
            have hb04 := below_drewN hb02 q
            generalize World.drewN _ q = w4 at *
            clear hrd4 hrt2
            go_wp2_with fail
            refine (lives3_any _).mono ?_; rintro e w5 ⟨rfl, hb5⟩
            go_wp2
            go_ret
            exact ⟨rfl, hb04.trans (hb5.mono hb04.size)⟩

theorem frameTorn_any (f : Int) (A : Option Addr) (n c : Nat) (ps : List (Int × List UInt8)) (w : World) (hf1 : -9223372036854775808 ≤ f) (hf2 : f ≤ 9223372036854775807) (hr : RdP w A n ps) :
    Calls Try.prog 12 #[.slice A n c, .int .i64 f] w fun e w' => e = .returned (.bool true) ∧ Below w.heap.size w w' := by
  obtain ⟨F, hF⟩ : ∃ F : Nat, (if f < 0 then -(f + 1) else f) = F := ⟨(if f < 0 then -(f + 1) else f).toNat, by split <;> omega⟩
  have h1 := madeF_len ps
  have h2 := madeF_bytes ps
  obtain ⟨k, hk, hlo, hhi⟩ := cut_ex (madeF ps) (F % ((framesB (madeF ps)).length + 1))
  exact torn_pos f F (F % ((framesB (madeF ps)).length + 1)) (madeF ps).length k (framesB (madeF ps)).length _ _ A n c ps (madeF ps) w hF hf1 hf2 rfl rfl h1 rfl h2 rfl (by have := Nat.mod_lt F (show 0 < (framesB (madeF ps)).length + 1 by omega); omega)
    hk rfl rfl hlo hhi hr
end Go.Proofs.Ytfhfpcihbclanaa
