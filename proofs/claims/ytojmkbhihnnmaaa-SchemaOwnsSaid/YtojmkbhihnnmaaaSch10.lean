/-
  The walks of the schema: its views.
-/
import Derived.Test.YtojmkbhihnnmaaaSch9
import Derived.Lib.SliceRun
namespace Go.Proofs.Ytojmkbhihnnmaaa
open Go.RowKit Go.Maps

def viewsF (S : Sch) : List (List Int) := baseF S :: S.views

theorem clone_any (A : Option Addr) (n c : Nat) (l : List Int) (w : World) (hr : RdI w A n l) (hn : n ≤ 1000000) :
    Calls Try.prog 58 #[.slice A n c] w fun e w' => ∃ A' c', e = .returned (.slice A' n c') ∧
      w'.ownsRow w.heap.size 3 1 (.slice A' n c') n (l.map vi) ∧ Below w.heap.size w w' := by
  have q30 : ∀ (w : World) (a : Option Addr) (n c n' c' : Nat), (binOp .eql 30 (.slice a n c) (.slice none n' c')).run Try.prog w = .ok (.bool a.isNone) w := fun w a n c n' c' => Lib.run_eql_slice_nil w _ _ a n c n' c' Try.underlying30
  rcases A with _ | ad
  · have h0 : n = 0 := by
      rcases Nat.eq_zero_or_pos n with h | h
      · exact h
      · obtain ⟨ad, e, _⟩ := hr.at_ h
        cases e
    subst h0
    have hl : l = [] := List.eq_nil_of_length_eq_zero hr.len
    subst hl
    go_enter Try.func58, Try.ntmps58
    go_wp2
    go_ret
    exact ⟨none, 0, rfl, own_nil _ _, Below.refl _ _⟩
  · have hb1 : Below w.heap.size w (w.alloc (.cells #[] 3)) := (Below.refl _ _).alloc (Nat.le_refl _) _
    have hown : (w.alloc (.cells #[] 3)).ownsRow w.heap.size 3 1 (.slice (some ⟨w.heap.size, 0, none⟩) 0 0) 0 (([] : List Int).map vi) := own_new _ [] 0 rfl (Nat.zero_le _)
    go_enter Try.func58, Try.ntmps58
    go_wp2_with (first
        | (at_builtin; refine wpList_append_is rfl (.tmp 5) (.tmp 6) rfl w.heap.size rfl hown rfl (hr.alloc _) (by omega) hb1.size ?_; intro A3 c3 w3 hown3 hg3 hb3; clear hg3)
        | fail)
    go_ret
    simp only [Nat.zero_add, List.nil_append] at hown3
    exact ⟨A3, c3, rfl, hown3, hb1.trans hb3⟩

/-- levels of levels, in rows of the call's own -/
def OwnV (w : World) (base inn : Nat) (A : Option Addr) (n c : Nat) (L : List (List Int)) : Prop :=
  ∃ xs : List Value, L.length = n ∧ w.ownsRow base 30 1 (.slice A n c) n xs ∧ ∀ (i : Nat) (v : List Int), L[i]? = some v → ∃ B m d, xs[i]? = some (Value.slice B m d) ∧ w.ownsRow inn 3 1 (.slice B m d) m (v.map vi)
theorem OwnV.below {w w' : World} {base inn : Nat} {A : Option Addr} {n c : Nat} {L : List (List Int)} (h : OwnV w base inn A n c L) (hb : Below w.heap.size w w') : OwnV w' base inn A n c L := by
  obtain ⟨xs, h0, h1, h2⟩ := h
  exact ⟨xs, h0, own_below h1 hb, fun i v hi => by
    obtain ⟨B, m, d, e, ho⟩ := h2 i v hi
    exact ⟨B, m, d, e, own_below ho hb⟩⟩
theorem OwnV.reads {w : World} {base inn : Nat} {A : Option Addr} {n c : Nat} {L : List (List Int)} (h : OwnV w base inn A n c L) : RdV w A n L := by
  obtain ⟨xs, h0, h1, h2⟩ := h
  refine ⟨h0, fun i v hi => ?_⟩
  obtain ⟨B, m, d, e, ho⟩ := h2 i v hi
  have hx := Rds.of_own h1
  have hi' : i < n := by rw [← h0]; exact (List.getElem?_eq_some_iff.1 hi).1
  obtain ⟨ad, eA, hc⟩ := hx.2 (by omega)
  exact ⟨ad, B, m, d, eA, hc i _ e, RdI.of_own ho, (own_bounds ho).1, (own_bounds ho).2⟩

theorem RdV.cells {w : World} {A : Option Addr} {n : Nat} {L : List (List Int)} (h : RdV w A n L) : ∃ xs, Rds w 1 A n xs ∧ (∀ u ∈ xs, u.oneCell' = true) ∧
    ∀ (i : Nat) (v : List Int), L[i]? = some v → ∃ B m d, xs[i]? = some (Value.slice B m d) ∧ RdI w B m v ∧ m ≤ d ∧ d ≤ maxLen := by
  rcases Nat.eq_zero_or_pos n with h0 | h0
  · subst h0
    refine ⟨[], ⟨rfl, fun h' => absurd h' (by omega)⟩, fun u hu => by simp at hu, fun i v hi => ?_⟩
    have := (List.getElem?_eq_some_iff.1 hi).1
    rw [h.1] at this; omega
  · obtain ⟨_, ad, _, _, _, _, rfl, _⟩ := h.at_ h0
    have key : ∀ i, i < n → ∃ v B m d, L[i]? = some v ∧ w.cell? (ad.add i) = some (Value.slice B m d) ∧ RdI w B m v ∧ m ≤ d ∧ d ≤ maxLen := fun i hi => by
      obtain ⟨v, ad', B, m, d, hv, e, hc, hr, h1, h2⟩ := h.at_ hi
      obtain rfl : ad = ad' := Option.some.inj e
      exact ⟨v, B, m, d, hv, hc, hr, h1, h2⟩
    have hx : ∀ i, i < n → ((List.range n).map fun i => (w.cell? (ad.add i)).getD undef)[i]? = w.cell? (ad.add i) := fun i hi => by
      obtain ⟨_, _, _, _, _, hc, _⟩ := key i hi
      rw [List.getElem?_map, List.getElem?_range hi]
      show some ((w.cell? (ad.add i)).getD undef) = _
      rw [hc]; rfl
    refine ⟨(List.range n).map fun i => (w.cell? (ad.add i)).getD undef, ⟨by simp, fun _ => ⟨ad, rfl, fun j u hu => ?_⟩⟩, fun u hu => ?_, fun i v hi => ?_⟩
    · have hj : j < n := by have := (List.getElem?_eq_some_iff.1 hu).1; simpa using this
      rw [← hx j hj]; exact hu
    · obtain ⟨i, hi, rfl⟩ := List.mem_map.1 hu
      obtain ⟨_, _, _, _, _, hc, _⟩ := key i (List.mem_range.1 hi)
      rw [hc]; rfl
    · have hi' : i < n := by rw [← h.1]; exact (List.getElem?_eq_some_iff.1 hi).1
      obtain ⟨v', B, m, d, hv, hc, hr, h1, h2⟩ := key i hi'
      obtain rfl : v = v' := Option.some.inj (hi.symm.trans hv)
      exact ⟨B, m, d, (hx i hi').trans hc, hr, h1, h2⟩
theorem ints_info : (Try.prog.info? 30).map (fun i => (i.zero, i.size, i.bytes)) = some (some (.slice none 0 0), 1, 24) := by kernel_rfl
/-- append one slice of ints -/
theorem wpList_append_v {w : World} {ops : Array Oper} {rest : List Oper} {o : Oper} {a : Act} {Q : Exit → Act → World → Prop} (hgd : o.guard = none) (s x : Operand)
    (ho : o.op = .call { callee := .builtin .append, args := #[s, x], argTypes := #[24, 24] })
    (base : Nat) {A : Option Addr} {n c : Nat} {l : List Value} (hs : a.eval s = .slice A n c) (hown : w.ownsRow base 30 1 (.slice A n c) n l)
    {B : Option Addr} {m d : Nat} {r : List Value} (hx : a.eval x = .slice B m d) (hr : Rds w 1 B m r) (h1 : ∀ u ∈ r, u.oneCell' = true) (hb : n + m ≤ 1000000000) (hbase : base ≤ w.heap.size)
    (h : ∀ A' c' w', w'.ownsRow base 30 1 (.slice A' (n + m) c') (n + m) (l ++ r) → w.grownBy w' (Value.slice A n c).ownBlock → Below base w w' → wpList Try.prog ops Q rest (a.put o.dst (.slice A' (n + m) c')) w') : wpList Try.prog ops Q (o :: rest) a w := by
  obtain ⟨i0, hi0, hz0, hz1, hz2⟩ := info_parts ints_info
  refine wpList_append_any w hgd s x 24 ho base 30 i0 _ 1 24 Try.underlying24 hi0 hz0 hz1 hz2 rfl (by omega) _ n _ hs hown B m d _ hx hr h1 (by unfold maxLen; omega) (by omega) hbase ?_
  intro A' c' w' h1 h2 _
  exact h A' c' w' h1 h2 (below_own hown h2 hbase)
theorem Rds.one (w : World) (T : TypeId) (v : Value) : Rds (w.alloc (.cells #[v] T)) 1 (some ⟨w.heap.size, 0, none⟩) 1 [v] := by
  refine ⟨rfl, fun _ => ⟨_, rfl, fun j u hu => ?_⟩⟩
  match j with
  | 0 =>
    simp only [List.getElem?_cons_zero, Option.some.injEq] at hu
    subst hu
    rw [add_nought]
    exact cell_of_row _ _ 0 _ _ _ (heap_alloc_new w _)
  | j + 1 => simp at hu
theorem own_grownT {w w' : World} {base base' : Nat} {T e : TypeId} {size size' n m c : Nat} {A : Option Addr} {v : Value} {xs us : List Value} (hT : T ≠ e) (h : w.ownsRow base T size (.slice A n c) n xs)
    (hv : w.ownsRow base' e size' v m us) (hg : w.grownBy w' (Value.slice A n c).ownBlock) : w'.ownsRow base' e size' v m us := by
  refine ⟨hv.1, ?_⟩
  rcases hv.2 with h0 | ⟨g, cap, cur, h1, h2, h3, h4⟩
  · exact .inl h0
  · refine .inr ⟨g, cap, cur, h1, h2, (hg.block g ?_ ?_).trans h3, h4⟩
    · rcases Nat.lt_or_ge g w.heap.size with hlt | hge
      · exact hlt
      · rw [Array.getElem?_eq_none hge] at h3; cases h3
    · intro hgo
      rcases h.2 with ⟨h0, _⟩ | ⟨g', cap', cur', h0, _, h3', _⟩
      · rw [h0] at hgo; cases hgo
      · rw [h0] at hgo
        injection hgo with hgo
        rw [← show g = g' from hgo, h3] at h3'
        injection h3' with h3'
        injection h3' with _ h3'
        exact hT h3'.symm

theorem views_any (A1 A2 A3 : Option Addr) (n1 n2 n3 c1 c2 c3 : Nat) (S : Sch) (w : World) (hr : RdSch w A1 A2 A3 n1 n2 n3 c1 c2 c3 S) (hn : n1 ≤ 1000000) (hn3 : n3 ≤ 1000000) (hvs : ∀ v ∈ S.views, v.length ≤ 1000000) :
    Calls Try.prog 23 #[.agg #[.slice A1 n1 c1, .slice A2 n2 c2, .slice A3 n3 c3]] w fun e w' => ∃ A' c', e = .returned (.slice A' (n3 + 1) c') ∧
      OwnV w' w.heap.size w.heap.size A' (n3 + 1) c' (viewsF S) ∧ Below w.heap.size w w' := by
  have Hl := Lib.hid hr.v.1
  have Hvs := Lib.hid hvs
  clear hvs
  have hbx : Below w.heap.size w (w.alloc (.cells #[.slice A1 n1 c1, .slice A2 n2 c2, .slice A3 n3 c3] 26)) := (Below.refl _ _).alloc (Nat.le_refl _) _
  have hr1 := hr.below hbx
  have hblk := Blk.new w 26 #[.slice A1 n1 c1, .slice A2 n2 c2, .slice A3 n3 c3]
  have hsz : (w.alloc (.cells #[.slice A1 n1 c1, .slice A2 n2 c2, .slice A3 n3 c3] 26)).heap.size = w.heap.size + 1 := by simp
  go_enter Try.func23, Try.ntmps23
  go_wp2_with fail
  generalize w.alloc (.cells #[.slice A1 n1 c1, .slice A2 n2 c2, .slice A3 n3 c3] 26) = w1 at *
  refine (base_any _ _ _ _ _ _ _ _ _ _ _ hr1 hn).mono ?_
  rintro e w2 ⟨A', c', rfl, hown2, hb12⟩
  have hr2 := hr1.v.below hb12
  have hq2 : w2.cell? ⟨w.heap.size, 2, none⟩ = some (.slice A3 n3 c3) := (hblk.kept hb12).cell 2
  have hb02 := below_then hbx hb12 (Nat.le_refl _)
  have hb23 := (Below.refl w2.heap.size w2).alloc (Nat.le_refl _) (.cells #[.slice A' n1 c'] 30)
  have hov : OwnV (w2.alloc (.cells #[.slice A' n1 c'] 30)) w2.heap.size w.heap.size (some ⟨w2.heap.size, 0, none⟩) 1 1 [baseF S] := by
    refine ⟨[.slice A' n1 c'], rfl, own_new _ _ 1 rfl (by unfold maxLen; omega), fun i v hi => ?_⟩
    match i with
    | 0 =>
      simp only [List.getElem?_cons_zero, Option.some.injEq] at hi
      subst hi
      exact ⟨_, _, _, rfl, own_mono (own_below hown2 hb23) (by omega)⟩
    | i + 1 => simp at hi
  have hlq := lt_of_cell hq2
  clear hown2 hblk hr1 hsz
  go_wp2
  have hq3 : (w2.alloc (.cells #[.slice A' n1 c'] 30)).cell? ⟨w.heap.size, 2, none⟩ = _ := (hb23.cell hlq).trans hq2
  go_loopw [3, 5, 12] (fun v _ i wr => ∃ (k : Nat) (A' : Option Addr) (c' : Nat), k ≤ n3 ∧ i = .int .i64 k ∧ v = .slice A' (k + 1) c' ∧ OwnV wr w2.heap.size w.heap.size A' (k + 1) c' (baseF S :: S.views.take k) ∧ Below w2.heap.size w2 wr) (fun _ _ i _ => n3 - (intOf i).toNat)
  case atStart => exact ⟨0, _, 1, Nat.zero_le _, rfl, rfl, hov, hb23⟩
  case round =>
    obtain ⟨k, A4, c4, hk, rfl, rfl, hown, hb⟩ := hrel
    have hb0 := below_then hb02 hb (Nat.le_refl _)
    by_cases hlt : k < n3
    · obtain ⟨v, ad, B, m, d, hvk, rfl, hc, hv, hmd, hdm⟩ := (hr2.below hb).at_ hlt
      have hml := Hvs.out v (List.mem_of_getElem? hvk)
      rw [hv.len] at hml
      have Hst := Lib.hid (show baseF S :: S.views.take (k + 1) = (baseF S :: S.views.take k) ++ [v] by rw [List.take_add_one, hvk]; rfl)
      clear hvk
      go_wp2_with fail
      refine (clone_any _ _ _ _ _ hv hml).mono ?_
      rintro e w5 ⟨B5, c5, rfl, hown5, hb5⟩
      have hb56 := (Below.refl w5.heap.size w5).alloc (Nat.le_refl _) (.cells #[.slice B5 m c5] 30)
      have hb26 := below_then (below_then hb hb5 (Nat.le_refl _)) hb56 (Nat.le_refl _)
      obtain ⟨xs, hL, hrow, hin⟩ := (hown.below hb5).below hb56
      have hown6 := own_mono (own_below hown5 hb56) hb0.size
      have hx6 := Rds.one w5 30 (.slice B5 m c5)
      go_wp2_with (first
        | (at_builtin; refine wpList_append_v rfl (.tmp 16) (.tmp 19) rfl w2.heap.size rfl hrow rfl hx6 (fun u hu => by rw [List.mem_singleton.1 hu]; rfl) (by omega) hb26.size ?_; intro A7 c7 w7 hrow7 hg7 hb7)
        | fail)
      go_roundw
      case rel =>
        refine ⟨k + 1, A7, c7, by omega, by go_num, rfl, ⟨xs ++ [.slice B5 m c5], ?_, hrow7, fun i u hi => ?_⟩, hb26.trans hb7⟩
        · rw [Hst.out, List.length_append, hL]; rfl
        · rw [Hst.out] at hi
          rcases Nat.lt_or_ge i (k + 1) with h | h
          · rw [List.getElem?_append_left (by rw [hL]; exact h)] at hi
            obtain ⟨B', m', d', e', ho'⟩ := hin i u hi
            exact ⟨B', m', d', by rw [List.getElem?_append_left (by have := hrow.1; omega)]; exact e', own_grownT (by decide) hrow ho' hg7⟩
          · rw [List.getElem?_append_right (by rw [hL]; exact h), hL] at hi
            have hi0 : i = k + 1 := by
              rcases Nat.eq_zero_or_pos (i - (k + 1)) with h' | h'
              · omega
              · rw [List.getElem?_eq_none (by simp; omega)] at hi; cases hi
            subst hi0
            have hxl : xs.length = k + 1 := by have := hrow.1; omega
            simp only [Nat.sub_self, List.getElem?_cons_zero, Option.some.injEq] at hi
            subst hi
            exact ⟨B5, m, c5, by rw [List.getElem?_append_right (by omega), hxl, Nat.sub_self]; rfl, own_grownT (by decide) hrow hown6 hg7⟩
      case measure => simp [intOf]; omega
    · obtain rfl : k = n3 := by omega
      rw [List.take_of_length_le (by rw [Hl.out]; omega)] at hown
      go_wp2
      go_ret
      obtain ⟨xs, hL, hrow, hin⟩ := hown
      exact ⟨A4, c4, rfl, ⟨xs, hL, own_mono hrow hb02.size, hin⟩, hb0⟩

theorem refviews_any (A1 A2 A3 : Option Addr) (n1 n2 n3 c1 c2 c3 : Nat) (S : Sch) (w : World) (hr : RdSch w A1 A2 A3 n1 n2 n3 c1 c2 c3 S) (hn : n1 ≤ 1000000) (hn3 : n3 ≤ 1000000) :
    Calls Try.prog 24 #[.agg #[.slice A1 n1 c1, .slice A2 n2 c2, .slice A3 n3 c3]] w fun e w' => ∃ A' c', e = .returned (.slice A' (n3 + 1) c') ∧
      RdV w' A' (n3 + 1) (viewsF S) ∧ n3 + 1 ≤ c' ∧ c' ≤ maxLen ∧ Below w.heap.size w w' := by
  have Hl := Lib.hid hr.v.1
  have hbx : Below w.heap.size w (w.alloc (.cells #[.slice A1 n1 c1, .slice A2 n2 c2, .slice A3 n3 c3] 26)) := (Below.refl _ _).alloc (Nat.le_refl _) _
  have hr1 := hr.below hbx
  have hblk := Blk.new w 26 #[.slice A1 n1 c1, .slice A2 n2 c2, .slice A3 n3 c3]
  go_enter Try.func24, Try.ntmps24
  go_wp2_with fail
  generalize w.alloc (.cells #[.slice A1 n1 c1, .slice A2 n2 c2, .slice A3 n3 c3] 26) = w1 at *
  refine (refbase_any _ _ _ _ _ _ _ _ _ _ _ hr1 hn).mono ?_
  rintro e w2 ⟨A', c', rfl, hown2, hb12⟩
  have hq2 : w2.cell? ⟨w.heap.size, 2, none⟩ = some (.slice A3 n3 c3) := (hblk.kept hb12).cell 2
  have hlq := lt_of_cell hq2
  have hb02 := below_then hbx hb12 (Nat.le_refl _)
  have hb23 := (Below.refl w2.heap.size w2).alloc (Nat.le_refl _) (.cells #[.slice A' n1 c'] 30)
  have hq3 : (w2.alloc (.cells #[.slice A' n1 c'] 30)).cell? ⟨w.heap.size, 2, none⟩ = _ := (hb23.cell hlq).trans hq2
  have hr2 := hr1.v.below hb12
  have hrow : (w2.alloc (.cells #[.slice A' n1 c'] 30)).ownsRow w2.heap.size 30 1 (.slice (some ⟨w2.heap.size, 0, none⟩) 1 1) 1 [.slice A' n1 c'] := own_new _ _ 1 rfl (by unfold maxLen; omega)
  obtain ⟨xs, hxr2, hx1, hxi⟩ := hr2.cells
  have hxr := Rds.below hxr2 hb23
  have hb03 := below_then hb02 hb23 (Nat.le_refl _)
  go_wp2_with (first
        | (at_builtin; refine wpList_append_v rfl (.tmp 7) (.tmp 9) rfl w2.heap.size rfl hrow rfl hxr hx1 (by omega) hb23.size ?_; intro A7 c7 w7 hrow7 hg7 hb7)
        | fail)
  go_ret
  have hbd := own_bounds hrow7
  have hb07 := hb02.trans ((hb23.trans hb7).mono hb02.size)
  rw [show 1 + n3 = n3 + 1 from Nat.add_comm ..] at hrow7 hbd
  have hX := Rds.of_own hrow7
  obtain ⟨ad, eA, hcx⟩ := hX.2 (by omega)
  subst eA
  refine ⟨some ad, c7, by rw [Nat.add_comm n3 1]; rfl, ⟨by simp [viewsF, Hl.out], fun i v hi => ?_⟩, hbd.1, hbd.2, hb07⟩
  match i with
  | 0 =>
    have : baseF S = v := by simpa [viewsF] using hi
    subst this
    have ho := own_grownT (by decide) hrow (own_below hown2 hb23) hg7
    exact ⟨ad, A', n1, c', rfl, hcx 0 _ rfl, RdI.of_own ho, (own_bounds ho).1, (own_bounds ho).2⟩
  | i + 1 =>
    obtain ⟨B, m, d, e, hr', h1, h2⟩ := hxi i v (by simpa [viewsF] using hi)
    exact ⟨ad, B, m, d, rfl, hcx (i + 1) _ (by simpa using e), hr'.below (hb23.trans hb7), h1, h2⟩
end Go.Proofs.Ytojmkbhihnnmaaa
