/-
  The laws of the schema: all corners.
-/
import Derived.Test.YtojmkbhihnnmaaaSch18
namespace Go.Proofs.Ytojmkbhihnnmaaa
open Go.RowKit Go.Maps

def allStep (n : Nat) (out : List (List Int)) : List (List Int) := out.flatMap fun v => (List.range (n + 1)).map fun k => v ++ [((k : Nat) : Int)]
def allF (ds : List Dm) : List (List Int) := ds.foldl (fun out d => allStep d.levels.length out) [[]]
theorem allF_snoc (ds : List Dm) (d : Dm) : allF (ds ++ [d]) = allStep d.levels.length (allF ds) := by simp [allF, List.foldl_append]
theorem allStep_len (n : Nat) (out : List (List Int)) : (allStep n out).length = out.length * (n + 1) := by
  induction out with
  | nil => simp [allStep]
  | cons v out ih =>
    have e : allStep n (v :: out) = ((List.range (n + 1)).map fun k => v ++ [((k : Nat) : Int)]) ++ allStep n out := rfl
    rw [e, List.length_append, ih, List.length_map, List.length_range, List.length_cons, Nat.add_mul]; omega
theorem allF_len (ds : List Dm) : ((allF ds).length : Int) = prodF ds := by
  have : ∀ k, ((allF (ds.take k)).length : Int) = prodF (ds.take k) := by
    intro k
    induction k with
    | zero => rfl
    | succ k ih =>
      rcases Nat.lt_or_ge k ds.length with h | h
      · rw [List.take_add_one, List.getElem?_eq_getElem h, show (some ds[k]).toList = [ds[k]] from rfl, allF_snoc, prodF_snoc, allStep_len, ← ih]
        push_cast
        rfl
      · rw [List.take_of_length_le (by omega)] at ih ⊢
        exact ih
  have h := this ds.length
  rw [List.take_of_length_le (Nat.le_refl _)] at h
  exact h
theorem allF_at (ds : List Dm) : ∀ v ∈ allF ds, v.length = ds.length ∧ ∀ i, i < v.length → 0 ≤ v[i]?.getD 0 ∧ ∃ d, ds[i]? = some d ∧ v[i]?.getD 0 ≤ d.levels.length := by
  have : ∀ k, k ≤ ds.length → ∀ v ∈ allF (ds.take k), v.length = k ∧ ∀ i, i < v.length → 0 ≤ v[i]?.getD 0 ∧ ∃ d, ds[i]? = some d ∧ v[i]?.getD 0 ≤ d.levels.length := by
    intro k
    induction k with
    | zero => intro _ v hv; simp [allF] at hv; subst hv; exact ⟨rfl, fun i hi => by simp at hi⟩
    | succ k ih =>
      intro hk v hv
      rw [List.take_add_one, List.getElem?_eq_getElem (by omega), show (some (ds[k]'(by omega))).toList = [ds[k]'(by omega)] from rfl, allF_snoc] at hv
      unfold allStep at hv
      obtain ⟨u, hu, hv⟩ := List.mem_flatMap.1 hv
      obtain ⟨n, hn, rfl⟩ := List.mem_map.1 hv
      obtain ⟨h1, h2⟩ := ih (by omega) u hu
      have hn' := List.mem_range.1 hn
      refine ⟨by simp [h1], fun i hi => ?_⟩
      rw [List.length_append, List.length_singleton] at hi
      rcases Nat.lt_or_ge i u.length with h | h
      · rw [List.getElem?_append_left h]
        exact h2 i h
      · have : i = k := by omega
        subst this
        rw [List.getElem?_append_right h, h1, Nat.sub_self]
        exact ⟨by simp, _, List.getElem?_eq_getElem (by omega), by simp; omega⟩
  have h := this ds.length (Nat.le_refl _)
  rw [List.take_of_length_le (Nat.le_refl _)] at h
  exact h
theorem allF_corner (S : Sch) (v : List Int) (hv : v ∈ allF S.dims) : cornerF S v = true ∧ coversF (baseF S) v = true := by
  obtain ⟨h1, h2⟩ := allF_at S.dims v hv
  have h3 : cornerF S v = true := cornerF_yes h1 fun i hi => by
    obtain ⟨a, d, hd, b⟩ := h2 i hi
    exact ⟨a, by rw [baseF_at S i d hd]; exact b⟩
  refine ⟨h3, ?_⟩
  unfold cornerF at h3
  exact ((Bool.and_eq_true _ _).mp h3).1

def OwnV' (w : World) (base inn : Nat) (A : Option Addr) (n c : Nat) (L : List (List Int)) : Prop := OwnV w base inn A n c L
theorem OwnV.nil (w : World) (base inn : Nat) : OwnV w base inn none 0 0 [] := ⟨[], rfl, own_nil _ _, fun i v h => by simp at h⟩
theorem OwnV.snoc {w w' : World} {base inn : Nat} {A A' B : Option Addr} {n c c' m d : Nat} {L : List (List Int)} {xs : List Value} {v : List Int} (hL : L.length = n) (hrow : w.ownsRow base 30 1 (.slice A n c) n xs)
    (hin : ∀ (i : Nat) (v : List Int), L[i]? = some v → ∃ B m d, xs[i]? = some (Value.slice B m d) ∧ w.ownsRow inn 3 1 (.slice B m d) m (v.map vi)) (hv : w.ownsRow inn 3 1 (.slice B m d) m (v.map vi))
    (hrow' : w'.ownsRow base 30 1 (.slice A' (n + 1) c') (n + 1) (xs ++ [.slice B m d])) (hg : w.grownBy w' (Value.slice A n c).ownBlock) : OwnV w' base inn A' (n + 1) c' (L ++ [v]) := by
  have hxl : xs.length = n := by have := hrow.1; omega
  refine ⟨xs ++ [.slice B m d], by rw [List.length_append, hL]; rfl, hrow', fun i u hi => ?_⟩
  rcases Nat.lt_or_ge i n with h | h
  · rw [List.getElem?_append_left (by omega)] at hi
    obtain ⟨B', m', d', e', ho'⟩ := hin i u hi
    exact ⟨B', m', d', by rw [List.getElem?_append_left (by omega)]; exact e', own_grownT (by decide) hrow ho' hg⟩
  · rw [List.getElem?_append_right (by omega), hL] at hi
    have hi0 : i = n := by
      rcases Nat.eq_zero_or_pos (i - n) with h' | h'
      · omega
      · rw [List.getElem?_eq_none (by simp; omega)] at hi; cases hi
    subst hi0
    simp only [Nat.sub_self, List.getElem?_cons_zero, Option.some.injEq] at hi
    subst hi
    exact ⟨B, m, d, by rw [List.getElem?_append_right (by omega), hxl, Nat.sub_self]; rfl, own_grownT (by decide) hrow hv hg⟩
theorem allStep_snoc (m k : Nat) (out : List (List Int)) (v : List Int) (h : out[k]? = some v) : allStep m (out.take (k + 1)) = allStep m (out.take k) ++ (List.range (m + 1)).map fun j => v ++ [((j : Nat) : Int)] := by
  unfold allStep
  rw [List.take_add_one, h, List.flatMap_append]
  simp
theorem range_snoc (j : Nat) (v : List Int) : (List.range (j + 1)).map (fun j => v ++ [((j : Nat) : Int)]) = (List.range j).map (fun j => v ++ [((j : Nat) : Int)]) ++ [v ++ [(j : Int)]] := by
  rw [List.range_succ, List.map_append]; rfl
theorem allStep_take_len (m k : Nat) (out : List (List Int)) (h : k ≤ out.length) : (allStep m (out.take k)).length = k * (m + 1) := by
  rw [allStep_len, List.length_take, Nat.min_eq_left h]

set_option maxHeartbeats 2000000 in
theorem all_any (A1 A2 A3 : Option Addr) (n1 n2 n3 c1 c2 c3 : Nat) (S : Sch) (w : World) (hr : RdSch w A1 A2 A3 n1 n2 n3 c1 c2 c3 S) (hn : n1 ≤ 8) (hd : ∀ d ∈ S.dims, d.levels.length ≤ 8) :
    Calls Try.prog 33 #[.agg #[.slice A1 n1 c1, .slice A2 n2 c2, .slice A3 n3 c3]] w fun e w' => ∃ A c, e = .returned (.slice A (allF S.dims).length c) ∧ RdV w' A (allF S.dims).length (allF S.dims) ∧ (allF S.dims).length ≤ c ∧ c ≤ maxLen ∧ Below w.heap.size w w' := by
  have Hd := Lib.hid hd
  have Hl := Lib.hid hr.d.1
  have hbA : Below w.heap.size w (w.alloc (.cells #[.slice A1 n1 c1, .slice A2 n2 c2, .slice A3 n3 c3] 26)) := (Below.refl _ _).alloc (Nat.le_refl _) _
  have hbl := Blk.new w 26 #[.slice A1 n1 c1, .slice A2 n2 c2, .slice A3 n3 c3]
  have hz : (w.alloc (.cells #[.slice A1 n1 c1, .slice A2 n2 c2, .slice A3 n3 c3] 26)).heap.size = w.heap.size + 1 := by simp
  have hd1 := hr.d.below hbA
  have Hbd := Lib.hid (fun k (hk : k ≤ n1) => show (allF (S.dims.take k)).length ≤ 43046721 by
    have h1 := allF_len (S.dims.take k)
    have h2 := (prodF_bd (S.dims.take k) (fun d hx => hd d (List.mem_of_mem_take hx))).2
    have h3 := pow9 (S.dims.take k).length (by rw [List.length_take]; omega)
    omega)
  clear hd
  go_enter Try.func33, Try.ntmps33
  go_wp2_with fail
  have hb0 := (Below.refl (w.alloc (.cells #[.slice A1 n1 c1, .slice A2 n2 c2, .slice A3 n3 c3] 26)).heap.size _).alloc (Nat.le_refl _) (.cells #[.slice none 0 0] 30)
  have hv0 : RdV ((w.alloc (.cells #[.slice A1 n1 c1, .slice A2 n2 c2, .slice A3 n3 c3] 26)).alloc (.cells #[.slice none 0 0] 30)) (some ⟨w.heap.size + 1, 0, none⟩) 1 [[]] := by
    refine ⟨rfl, fun i v hi => ?_⟩
    match i with
    | 0 =>
      obtain rfl : ([] : List Int) = v := by simpa using hi
      exact ⟨⟨w.heap.size + 1, 0, none⟩, none, 0, 0, rfl, (Blk.newAt hz).cell 0, RdI.none_, Nat.le_refl _, Nat.zero_le _⟩
    | i + 1 => simp at hi
  generalize w.alloc (.cells #[.slice A1 n1 c1, .slice A2 n2 c2, .slice A3 n3 c3] 26) = w1 at *
  generalize w1.alloc (.cells #[.slice none 0 0] 30) = w2 at *
  go_loopw [3, 4] (fun o i wr => ∃ (k : Nat) (A : Option Addr) (N c : Nat), k ≤ n1 ∧ i = .int .i64 k ∧ N = (allF (S.dims.take k)).length ∧ o = .slice A N c ∧ RdV wr A N (allF (S.dims.take k)) ∧ N ≤ c ∧ c ≤ maxLen ∧ Below w1.heap.size w1 wr) (fun _ i _ => n1 - (intOf i).toNat)
  case atStart => exact ⟨0, some ⟨w.heap.size + 1, 0, none⟩, 1, 1, Nat.zero_le _, rfl, rfl, rfl, hv0, Nat.le_refl _, by unfold maxLen; omega, hb0⟩
  case round =>
    obtain ⟨k, A, N, c, hk, rfl, hN, rfl, hv, hNc, hcm, hb⟩ := hrel
    rename World => wi
    have hbl1 := hbl.kept hb
    have h0 := hbl1.cell 0
    simp only [List.getElem?_toArray, List.getElem?_cons_zero] at h0
    by_cases hlt : k < n1
    · obtain ⟨dm, ad, B, m, cB, hdm, rfl, hc0w, hc1w, hrtw, hmc, hcmB⟩ := hd1.at_ hlt
      have hml := Hd.out dm (List.mem_of_getElem? hdm)
      rw [hrtw.len] at hml
      have hNb := Hbd.out k hk
      have hNb1 := Hbd.out (k + 1) hlt
      have hsn : allF (S.dims.take (k + 1)) = allStep m (allF (S.dims.take k)) := by
        rw [List.take_add_one, hdm, show (some dm).toList = [dm] from rfl, allF_snoc, hrtw.len]
      rw [← hN] at hNb
      have Hsn := Lib.hid hsn
      have hvl := hv.1
      have hsl : (allStep m (allF (S.dims.take k))).length = N * (m + 1) := by rw [allStep_len, hvl]
      rw [hsn, hsl] at hNb1
      have Hsl := Lib.hid hsl
      have Hvl := Lib.hid hvl
      clear hdm hsn hsl hN hvl hrtw
      have Hv8 := Lib.hid (fun v (hv : v ∈ allF (S.dims.take k)) => show v.length ≤ 8 by have h1 := (allF_at _ v hv).1; rw [List.length_take] at h1; omega)
      have Htl := Lib.hid (fun j (hj : j ≤ N) => allStep_take_len m j (allF (S.dims.take k)) (by rw [Hvl.out]; exact hj))
      have Hts := Lib.hid (fun j v h => allStep_snoc m j (allF (S.dims.take k)) v h)
      generalize allF (S.dims.take k) = L at *
      unfold maxLen at hcmB hcm
      go_wp2_with fail
      have hvA := hv
      go_loopw [5, 6] (fun o i wz => ∃ (j : Nat) (A' : Option Addr) (c' : Nat), j ≤ N ∧ i = .int .i64 j ∧ o = .slice A' (j * (m + 1)) c' ∧ OwnV wz wi.heap.size wi.heap.size A' (j * (m + 1)) c' (allStep m (L.take j)) ∧ Below wi.heap.size wi wz) (fun _ i _ => N - (intOf i).toNat)
      case atStart => exact ⟨0, none, 0, Nat.zero_le _, rfl, by rw [Nat.zero_mul], by rw [Nat.zero_mul]; exact OwnV.nil _ _ _, Below.refl _ _⟩
      case round =>
        obtain ⟨j, A', c', hj, rfl, rfl, hown, hbi⟩ := hrel
        by_cases hlj : j < N
        · obtain ⟨v, adv, Bv, mv, cv, hvj, rfl, hcvw, hvv, hmv, hcv⟩ := hv.at_ hlj
          have hst := Hts.out j v hvj
          have Hst := Lib.hid hst
          have htl := Htl.out j hj
          have Htl' := Lib.hid htl
          have hjm : j * (m + 1) + (m + 1) ≤ N * (m + 1) := by
            have := Nat.mul_le_mul_right (m + 1) (show j + 1 ≤ N from hlj)
            rw [Nat.add_mul, Nat.one_mul] at this
            exact this
          have hmvb := Hv8.out v (List.mem_of_getElem? hvj)
          rw [hvv.len] at hmvb
          have Hvlen := Lib.hid hvv.len
          clear hst htl hvj
          generalize hJ : j * (m + 1) = J at *
          have HJ := Lib.hid hJ
          generalize allStep m (L.take j) = L0 at *
          clear hJ
          go_wp2_with fail
          go_loopw [5, 7, 8] (fun o i _ wz => ∃ (e : Nat) (A' : Option Addr) (c' : Nat), e ≤ m + 1 ∧ i = .int .i64 e ∧ o = .slice A' (J + e) c' ∧ OwnV wz wi.heap.size wi.heap.size A' (J + e) c' (L0 ++ (List.range e).map fun j => v ++ [((j : Nat) : Int)]) ∧ Below wi.heap.size wi wz) (fun _ i _ _ => m + 1 - (intOf i).toNat)
          case atStart => exact ⟨0, A', c', Nat.zero_le _, rfl, rfl, by simpa using hown, hbi⟩
          case round =>
            obtain ⟨e, A2', c2', he, rfl, rfl, hown2, hbe⟩ := hrel
            have hb1e := below_then hb hbe (Nat.le_refl _)
            have h0 := (hbl.kept hb1e).cell 0
            simp only [List.getElem?_toArray, List.getElem?_cons_zero] at h0
            have hc1 := (hb1e.cell (lt_of_cell hc1w)).trans hc1w
            have hcv := (hbe.cell (lt_of_cell hcvw)).trans hcvw
            by_cases hle : e < m + 1
            · have hvr := hvv.below hbe
              have hown0 : wr.ownsRow wr.heap.size 3 1 (.slice none 0 0) 0 (([] : List Int).map vi) := own_nil _ _
              have Hrs := Lib.hid (range_snoc e v)
              go_wp2_with (first -- A
                | (at_builtin; refine wpList_append_is rfl (.tmp 34) (.tmp 38) rfl wr.heap.size rfl hown0 rfl hvr (by omega) (Nat.le_refl _) ?_
                   intro A3 c3 w3 hown3 _ hb3
                   simp only [Nat.zero_add, List.nil_append] at hown3
                   have hbA1 := hb3.alloc hb3.size (.cells #[.int .i64 (e : Int)] 3)
                   have hownA := own_below hown3 ((Below.refl w3.heap.size w3).alloc (Nat.le_refl _) (.cells #[.int .i64 (e : Int)] 3))
                   have hrA : RdI (w3.alloc (.cells #[.int .i64 (e : Int)] 3)) (some ⟨w3.heap.size, 0, none⟩) 1 [(e : Int)] := RdI.lit _ _ _ _ _ 1 _ rfl rfl rfl
                   clear hown3)
                | (at_builtin; refine wpList_append_is rfl (.tmp 40) (.tmp 42) rfl wr.heap.size rfl hownA rfl hrA (by omega) hbA1.size ?_
                   intro A5 c5 w5 hown5 _ hb5
                   have hbw5 := hbA1.trans hb5
                   have hbw6 := hbw5.alloc hbw5.size (.cells #[.slice A5 (mv + 1) c5] 30)
                   have hown6 := own_mono (own_below hown5 ((Below.refl w5.heap.size w5).alloc (Nat.le_refl _) (.cells #[.slice A5 (mv + 1) c5] 30))) hbe.size
                   obtain ⟨xs, hL, hrow, hin⟩ := hown2.below hbw6
                   have hx6 := Rds.one w5 30 (.slice A5 (mv + 1) c5)
                   have hbe6 := below_then hbe hbw6 (Nat.le_refl _)
                   clear hownA hrA hown5 hb5)
                | (at_builtin; refine wpList_append_v rfl (.tmp 44) (.tmp 46) rfl wi.heap.size rfl hrow rfl hx6 (fun u hu => by rw [List.mem_singleton.1 hu]; rfl) (by omega) hbe6.size ?_
                   intro A7 c7 w7 hrow7 hg7 hb7)
                | fail)
              go_roundw
              case rel =>
                refine ⟨e + 1, A7, c7, by omega, by go_num, rfl, ?_, hbe6.trans hb7⟩
                rw [Hrs.out, ← List.append_assoc]
                exact OwnV.snoc hL hrow hin hown6 hrow7 hg7
              case measure => simp [intOf]; omega
            · obtain rfl : e = m + 1 := by omega
              go_wp2
              go_roundw
              case rel => exact ⟨j + 1, A2', c2', by omega, by go_num, by rw [Nat.add_mul, Nat.one_mul, HJ.out], by rw [Nat.add_mul, Nat.one_mul, HJ.out, Hst.out]; exact hown2, hbe⟩
              case measure => simp [intOf]; omega
        · obtain rfl : j = N := by omega
          rw [List.take_of_length_le (by rw [Hvl.out]; exact Nat.le_refl _)] at hown
          have hbd := (show j * (m + 1) ≤ c' ∧ c' ≤ maxLen by obtain ⟨xs, _, h, _⟩ := hown; exact own_bounds h)
          have hrd := hown.reads
          generalize hJ : j * (m + 1) = J at *
          have HJ := Lib.hid hJ
          clear hJ
          go_wp2
          go_roundw
          case rel => exact ⟨k + 1, A', J, c', by omega, by go_num, by rw [Hsn.out, Hsl.out], rfl, by rw [Hsn.out]; exact hrd, hbd.1, hbd.2, below_then hb hbi (Nat.le_refl _)⟩
          case measure => simp [intOf]; omega
    · obtain rfl : k = n1 := by omega
      rw [List.take_of_length_le (by rw [Hl.out]; exact Nat.le_refl _)] at hv hN
      subst hN
      go_wp2
      go_ret
      exact ⟨A, c, rfl, hv, hNc, hcm, below_then hbA hb (Nat.le_refl _)⟩
end Go.Proofs.Ytojmkbhihnnmaaa
