/-
  The walks of the quorum: what is agreed, as the reference has it.
-/
import Derived.Test.YtkgcccllabofoaaQ3
namespace Go.Proofs.Ytkgcccllabofoaa
open Go.RowKit

def atF (l : List Int) (k : Nat) : Int := max 0 (l[k]?.getD 0)
theorem at_any (k : Nat) (A : Option Addr) (m c : Nat) (l : List Int) (w : World) (hl : RdI w A m l) (hk : k < 7) :
    Calls Try.prog 46 #[.slice A m c, .int .i64 (k + 1 : Nat)] w fun e w' => e = .returned (.int .i64 (atF l k)) ∧ w = w' := by
  have hlen := hl.len
  have hk1 : ((k + 1 : Nat) : Int) - 1 = (k : Nat) := by omega
  by_cases hkm : k < m
  · obtain ⟨ad, rfl, hc⟩ := hl.at_ hkm
    have Hv := Lib.hid (show atF l k = max 0 (l[k]?.getD 0) from rfl)
    generalize l[k]?.getD 0 = x at *
    have hw : wrap64 (((k + 1 : Nat) : Int) - 1) = (k : Nat) := by unfold wrap64; omega
    generalize hs : ((k + 1 : Nat) : Int) = s at *
    have hs1 : 1 ≤ s := by omega
    have hs7 : s ≤ 7 := by omega
    clear hs
    by_cases hx : x < 0
    · go_enter Try.func46, Try.ntmps46
      go_wp2_with fail
      go_ret
      exact ⟨by rw [Hv.out, Int.max_eq_left (by omega)]; rfl, rfl⟩
    · go_enter Try.func46, Try.ntmps46
      go_wp2_with fail
      go_ret
      exact ⟨by rw [Hv.out, Int.max_eq_right (by omega)]; rfl, rfl⟩
  · have Hv := Lib.hid (show atF l k = 0 by unfold atF; rw [List.getElem?_eq_none (by omega)]; rfl)
    go_enter Try.func46, Try.ntmps46
    go_wp2_with fail
    go_ret
    exact ⟨by rw [Hv.out]; rfl, rfl⟩

/-- those of the first k that have v -/
def hasK (l : List Int) (v : Int) (k : Nat) : List Int := ((List.range k).filter fun i => decide (v ≤ atF l i)).map fun i => ((i + 1 : Nat) : Int)
theorem hasK_yes {l : List Int} {v : Int} {k : Nat} (h : v ≤ atF l k) : hasK l v (k + 1) = hasK l v k ++ [((k + 1 : Nat) : Int)] := by
  unfold hasK
  rw [List.range_succ, List.filter_append, List.filter_cons_of_pos (by exact decide_eq_true h), List.filter_nil, List.map_append]; rfl
theorem hasK_no {l : List Int} {v : Int} {k : Nat} (h : ¬ v ≤ atF l k) : hasK l v (k + 1) = hasK l v k := by
  unfold hasK
  rw [List.range_succ, List.filter_append, List.filter_cons_of_neg (by simpa using h), List.filter_nil, List.append_nil]
theorem hasK_len (l : List Int) (v : Int) (k : Nat) : (hasK l v k).length ≤ k := by
  unfold hasK
  rw [List.length_map]
  exact Nat.le_trans (List.length_filter_le _ _) (by simp)
/-- have a quorum of N servers v? -/
def okF (N : Nat) (l : List Int) (v : Int) : Bool := wonF N (hasK l v N)
/-- the best of the first k that a quorum has -/
def Best (N : Nat) (l : List Int) (k : Nat) (b : Int) : Prop := (b = 0 ∨ ∃ i, i < k ∧ okF N l (atF l i) = true ∧ b = atF l i) ∧ 0 ≤ b ∧ ∀ i, i < k → okF N l (atF l i) = true → atF l i ≤ b
theorem Best.start (N : Nat) (l : List Int) : Best N l 0 0 := ⟨.inl rfl, Int.le_refl _, fun _ h => absurd h (Nat.not_lt_zero _)⟩
theorem Best.up {N : Nat} {l : List Int} {k : Nat} {b : Int} (h : Best N l k b) (h1 : okF N l (atF l k) = true) (h2 : b < atF l k) : Best N l (k + 1) (atF l k) := by
  refine ⟨.inr ⟨k, Nat.lt_succ_self _, h1, rfl⟩, by have := h.2.1; omega, fun i hi ho => ?_⟩
  rcases Nat.lt_succ_iff_lt_or_eq.1 hi with hi | rfl
  · exact Int.le_of_lt (Int.lt_of_le_of_lt (h.2.2 i hi ho) h2)
  · exact Int.le_refl _
theorem Best.on {N : Nat} {l : List Int} {k : Nat} {b : Int} (h : Best N l k b) (h1 : okF N l (atF l k) = true → atF l k ≤ b) : Best N l (k + 1) b := by
  refine ⟨?_, h.2.1, fun i hi ho => ?_⟩
  · rcases h.1 with h0 | ⟨i, hi, ho, hb⟩
    · exact .inl h0
    · exact .inr ⟨i, by omega, ho, hb⟩
  · rcases Nat.lt_succ_iff_lt_or_eq.1 hi with hi | rfl
    · exact h.2.2 i hi ho
    · exact h1 ho

/-! the sorted row -/
theorem ordF_perm (l : List Int) : (ordF l).Perm l := List.mergeSort_perm l _
theorem ordF_sorted (l : List Int) : (ordF l).Pairwise fun x y => decide (x ≤ y) = true :=
  List.pairwise_mergeSort (le := fun (x y : Int) => decide (x ≤ y)) (fun a b c h1 h2 => decide_eq_true (Int.le_trans (of_decide_eq_true h1) (of_decide_eq_true h2))) (fun a b => by rcases Int.le_total a b with h | h <;> simp [h]) l
theorem agr_in (N : Nat) (l : List Int) (hN : 1 ≤ N) : ∃ S : List Int, S.length = N ∧ S.Perm (rowF N l) ∧ (∀ i j (hi : i < S.length) (hj : j < S.length), i < j → S[i] ≤ S[j]) ∧ ∃ h : N - (N / 2 + 1) < S.length, agrN N l = S[N - (N / 2 + 1)] := by
  have hl : (ordF (rowF N l)).length = N := by rw [ordF_len]; simp [rowF]
  refine ⟨ordF (rowF N l), hl, ordF_perm _, fun i j hi hj hij => of_decide_eq_true ((List.pairwise_iff_getElem.1 (ordF_sorted (rowF N l))) i j hi hj hij), by omega, ?_⟩
  unfold agrN
  rw [List.getElem?_eq_getElem (by omega)]; rfl
theorem count_row (N : Nat) (l : List Int) (v : Int) : cntF N (hasK l v N) = (rowF N l).countP fun x => decide (v ≤ x) := by
  unfold cntF rowF
  rw [List.countP_map, List.countP_eq_length_filter]
  refine congrArg List.length (List.filter_congr fun i hi => ?_)
  have hi := List.mem_range.1 hi
  rw [Bool.eq_iff_iff, decide_eq_true_eq]
  show _ ↔ decide (v ≤ atF l i) = true
  rw [decide_eq_true_eq]
  unfold hasK
  rw [List.mem_map]
  constructor
  · rintro ⟨j, hj, e⟩
    obtain rfl : j = i := by omega
    exact of_decide_eq_true (List.mem_filter.1 hj).2
  · intro h
    exact ⟨i, List.mem_filter.2 ⟨List.mem_range.2 hi, decide_eq_true h⟩, rfl⟩
theorem okF_iff {N : Nat} (h : 1 ≤ N ∧ N ≤ 7) (l : List Int) (v : Int) : okF N l v = true ↔ N / 2 + 1 ≤ (rowF N l).countP fun x => decide (v ≤ x) := by
  unfold okF wonF
  rw [decide_eq_true_eq, Int.toNat_natCast, count_row]
  omega
theorem count_ge (S : List Int) (hS : ∀ i j (hi : i < S.length) (hj : j < S.length), i < j → S[i] ≤ S[j]) (j : Nat) (hj : j < S.length) : S.length - j ≤ S.countP fun x => decide (S[j] ≤ x) := by
  have e : S.countP (fun x => decide (S[j] ≤ x)) = (S.take j).countP (fun x => decide (S[j] ≤ x)) + (S.drop j).countP (fun x => decide (S[j] ≤ x)) := by
    rw [← List.countP_append, List.take_append_drop]
  have h2 : (S.drop j).countP (fun x => decide (S[j] ≤ x)) = (S.drop j).length := by
    rw [List.countP_eq_length]
    intro x hx
    obtain ⟨i, hi, rfl⟩ := List.getElem_of_mem hx
    rw [List.getElem_drop]
    refine decide_eq_true ?_
    rcases Nat.eq_zero_or_pos i with h0 | h0
    · subst h0; exact Int.le_refl _
    · exact hS j (j + i) hj (by rw [List.length_drop] at hi; omega) (by omega)
  rw [e, h2, List.length_drop]
  omega
theorem count_gt (S : List Int) (hS : ∀ i j (hi : i < S.length) (hj : j < S.length), i < j → S[i] ≤ S[j]) (j : Nat) (hj : j < S.length) (v : Int) (hv : S[j] < v) : (S.countP fun x => decide (v ≤ x)) ≤ S.length - j - 1 := by
  have e : S.countP (fun x => decide (v ≤ x)) = (S.take (j + 1)).countP (fun x => decide (v ≤ x)) + (S.drop (j + 1)).countP (fun x => decide (v ≤ x)) := by
    rw [← List.countP_append, List.take_append_drop]
  have h1 : (S.take (j + 1)).countP (fun x => decide (v ≤ x)) = 0 := by
    rw [List.countP_eq_zero]
    intro x hx
    obtain ⟨i, hi, rfl⟩ := List.getElem_of_mem hx
    rw [List.getElem_take]
    have hij : i < j + 1 := by rw [List.length_take] at hi; omega
    have : S[i]'(by omega) ≤ S[j] := by
      rcases Nat.lt_succ_iff_lt_or_eq.1 hij with h | rfl
      · exact hS i j (by omega) hj h
      · exact Int.le_refl _
    simp only [decide_eq_true_eq]
    omega
  have h2 : (S.drop (j + 1)).countP (fun x => decide (v ≤ x)) ≤ (S.drop (j + 1)).length := List.countP_le_length
  rw [List.length_drop] at h2
  omega
theorem best_end {N : Nat} (h : 1 ≤ N ∧ N ≤ 7) {l : List Int} {b : Int} (hb : Best N l N b) : b = agrN N l := by
  obtain ⟨S, hSl, hp, hS, hj, ha⟩ := agr_in N l h.1
  have cnt : ∀ v, ((rowF N l).countP fun x => decide (v ≤ x)) = S.countP fun x => decide (v ≤ x) := fun v => (hp.countP_eq _).symm
  obtain ⟨i, hi, e⟩ : ∃ i, i < N ∧ atF l i = S[N - (N / 2 + 1)] := by
    have : S[N - (N / 2 + 1)] ∈ rowF N l := hp.mem_iff.1 (List.getElem_mem _)
    obtain ⟨i, hi, e⟩ := List.mem_map.1 this
    exact ⟨i, List.mem_range.1 hi, e⟩
  have hx : okF N l (atF l i) = true := by
    rw [okF_iff h, cnt, e]
    have := count_ge S hS _ hj
    omega
  have h1 := hb.2.2 i hi hx
  have h0 : 0 ≤ atF l i := Int.le_max_left _ _
  rw [ha]
  refine Int.le_antisymm ?_ (by omega)
  rcases hb.1 with hz | ⟨k, hk, ho, rfl⟩
  · omega
  · rw [okF_iff h, cnt] at ho
    refine Int.not_lt.1 fun hlt => ?_
    have := count_gt S hS _ hj _ hlt
    omega

set_option maxRecDepth 100000 in
theorem refagreed_any (n : Int) (A : Option Addr) (m c : Nat) (l : List Int) (w : World) (hl : RdI w A m l) :
    Calls Try.prog 20 #[.int .i64 n, .slice A m c] w fun e w' => e = .returned (.int .i64 (agreedF n l)) ∧ Below w.heap.size w w' := by
  have hlen := hl.len
  by_cases h : 1 ≤ n ∧ n ≤ 7
  · obtain ⟨N, rfl⟩ : ∃ N : Nat, n = N := ⟨n.toNat, by omega⟩
    have Hw := Lib.hid (agreedF_yes h l)
    have Hb := Lib.hid (fun b (hb : Best N l N b) => best_end (by omega) hb)
    have hN1 : 1 ≤ N := by omega
    have hN7 : N ≤ 7 := by omega
    have hn7 := h.2
    clear h
    go_enter Try.func20, Try.ntmps20
    go_wp2_with fail
    go_loopw [5, 6] (fun b s wr => ∃ (k : Nat) (x : Int), k ≤ N ∧ s = .int .i64 (k + 1 : Nat) ∧ b = .int .i64 x ∧ Best N l k x ∧ Below w.heap.size w wr) (fun _ s _ => (N + 1 - intOf s).toNat)
    case atStart => exact ⟨0, 0, Nat.zero_le _, rfl, rfl, Best.start N l, Below.refl _ _⟩
    case round =>
      obtain ⟨k, x, hk, rfl, rfl, hbest, hb⟩ := hrel
      by_cases hlt : k < N
      · have Hm := Lib.hid (meas1 hlt rfl)
        have hs := Lib.hid (show ((k + 1 : Nat) : Int) ≤ N by omega)
        have hat := at_any k A m c l wr (hl.below hb) (by omega)
        have wk := Lib.hid (wrap_s rfl (show k < 7 by omega))
        have wp := Lib.hid (show ((k + 1 : Nat) : Int) + 1 = ((k + 1 + 1 : Nat) : Int) by omega)
        generalize ((k + 1 : Nat) : Int) = s at *
        have hsN : s ≤ N := hs.out
        clear hs
        go_wp2_with fail
        refine hat.mono ?_
        rintro e w' ⟨rfl, rfl⟩
        clear hat
        have Hup := Lib.hid (fun h1 h2 => hbest.up h1 h2)
        have Hon := Lib.hid (fun h1 => hbest.on h1)
        clear hbest
        generalize hv : atF l k = v at *
        clear hv
        go_wp2_with fail
        go_loopw [8, 9] (fun h p wr' => ∃ (j : Nat) (A' : Option Addr) (c' : Nat), j ≤ N ∧ p = .int .i64 (j + 1 : Nat) ∧ h = .slice A' (hasK l v j).length c' ∧
          wr'.ownsRow w.heap.size 3 1 (.slice A' (hasK l v j).length c') (hasK l v j).length ((hasK l v j).map vi) ∧ Below w.heap.size w wr') (fun _ p _ => (N + 1 - intOf p).toNat)
        case atStart => exact ⟨0, none, 0, Nat.zero_le _, rfl, rfl, own_nil _ _, hb⟩
        case round =>
          obtain ⟨j, A', c', hj, rfl, rfl, hown, hbj⟩ := hrel
          clear hb
          rename World => wj
          by_cases hjl : j < N
          · have Hmj := Lib.hid (meas1 hjl rfl)
            have hjs := Lib.hid (show ((j + 1 : Nat) : Int) ≤ N by omega)
            have hat := at_any j A m c l wj (hl.below hbj) (by omega)
            have wkj := Lib.hid (wrap_s rfl (show j < 7 by omega))
            have wpj := Lib.hid (show ((j + 1 : Nat) : Int) + 1 = ((j + 1 + 1 : Nat) : Int) by omega)
            have Hyes := Lib.hid (fun h => hasK_yes (l := l) (v := v) (k := j) h)
            have Hno := Lib.hid (fun h => hasK_no (l := l) (v := v) (k := j) h)
            have hlj := hasK_len l v j
            have hsz := hbj.size
            generalize hp : ((j + 1 : Nat) : Int) = p at *
            have hpN : p ≤ N := hjs.out
            clear hjs
            go_wp2_with fail
            refine hat.mono ?_
            rintro e w' ⟨rfl, rfl⟩
            clear hat
            generalize atF l j = u at *
            by_cases huv : v ≤ u
            · have hh := Hyes.out huv
              clear Hyes Hno
              generalize hasK l v j = hs at *
              have hownB := own_below hown ((Below.refl wj.heap.size wj).alloc (Nat.le_refl _) (.cells #[.int .i64 p] 3))
              have hrB := RdI.lit wj 3 (0, 0) [p] #[.int .i64 p] 1 wj.heap.size rfl rfl rfl
              have hszB : w.heap.size ≤ (wj.alloc (.cells #[.int .i64 p] 3)).heap.size := by simp only [World.alloc, Array.size_push]; omega
              have hbB := hbj.alloc hsz (.cells #[.int .i64 p] 3)
              go_wp2_with (at_builtin; refine wpList_append_is rfl (.tmp 33) (.tmp 35) rfl w.heap.size rfl hownB rfl hrB (by omega) hszB ?_; intro A3 c3 w3 hown3 hg3 hb3)
              first | rw [wkj.out] | rw [wpj.out]
              refine ⟨⟨j + 1, A3, c3, hjl, rfl, ?_, ?_, hbB.trans hb3⟩, Hmj.out⟩
              · rw [hh, List.length_append]; rfl
              · rw [hh, List.length_append]; exact hown3
            · have hh := Hno.out (Int.not_le.1 huv)
              clear Hyes Hno
              go_wp2_with fail
              first | rw [wkj.out] | rw [wpj.out]
              exact ⟨⟨j + 1, A', c', hjl, rfl, by rw [hh], by rw [hh]; exact hown, hbj⟩, Hmj.out⟩
          · obtain rfl : j = N := by omega
            have hcap := own_bounds hown
            have hwon := refwon_any j A' (hasK l v j).length c' (hasK l v j) wj (RdI.of_own hown) hcap.2 hcap.1
            have Hok := Lib.hid (show wonF j (hasK l v j) = okF j l v from rfl)
            rw [Hok.out] at hwon
            go_wp2_with fail
            refine hwon.mono ?_
            rintro e w' ⟨rfl, rfl⟩
            clear hwon hown
            generalize okF j l v = ok at *
            cases ok
            · have hbest := Hon.out (fun h => by cases h)
              go_wp2_with fail
              first | rw [wk.out] | rw [wp.out]
              exact ⟨⟨k + 1, x, hlt, rfl, rfl, hbest, hbj⟩, Hm.out⟩
            · by_cases hxv : x < v
              · have hbest := Hup.out rfl hxv
                go_wp2_with fail
                first | rw [wk.out] | rw [wp.out]
                exact ⟨⟨k + 1, v, hlt, rfl, rfl, hbest, hbj⟩, Hm.out⟩
              · have hbest := Hon.out (fun _ => by omega)
                go_wp2_with fail
                first | rw [wk.out] | rw [wp.out]
                exact ⟨⟨k + 1, x, hlt, rfl, rfl, hbest, hbj⟩, Hm.out⟩
      · obtain rfl : k = N := by omega
        go_wp2_with fail
        go_ret
        exact ⟨by rw [Hw.out, ← Hb.out _ hbest]; rfl, hb⟩
  · have Hw := Lib.hid (agreedF_no h l)
    rcases (show n < 1 ∨ (1 ≤ n ∧ 7 < n) by omega) with h1 | ⟨h1, h2⟩
    all_goals
      clear h
      go_enter Try.func20, Try.ntmps20
      go_wp2_with fail
      go_loopw [5, 6] (fun b s wr => s = .int .i64 1 ∧ b = .int .i64 0 ∧ wr = w) (fun _ _ _ => 0)
      case atStart => exact ⟨rfl, rfl, rfl⟩
      case round =>
        obtain ⟨rfl, rfl, rfl⟩ := hrel
        go_wp2_with fail
        go_ret
        exact ⟨by rw [Hw.out]; rfl, Below.refl _ _⟩
end Go.Proofs.Ytkgcccllabofoaa
