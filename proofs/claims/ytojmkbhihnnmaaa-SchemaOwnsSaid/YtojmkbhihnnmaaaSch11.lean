/-
  The walks of the schema: which schemas may be.
-/
import Derived.Test.YtojmkbhihnnmaaaSch10
import Derived.Test.YtojmkbhihnnmaaaMix2
namespace Go.Proofs.Ytojmkbhihnnmaaa
open Go.RowKit Go.Maps

def viewOk (S : Sch) (i : Nat) : Bool := cornerF S (S.views[i]?.getD []) && !decide (S.views[i]?.getD [] = baseF S) && !((S.views.take i).any fun x => decide (S.views[i]?.getD [] = x))
def namesF (S : Sch) : List ByteArray := S.dims.map fun d => d.name
def mayB (S : Sch) : Bool := (S.dims.all fun d => namedF d.levels 3) && (namedF (namesF S) 3 && (namedF S.measures 2 && (decide (S.views.length ≤ 6) && (List.range S.views.length).all (viewOk S))))
theorem may_no1 {S : Sch} {k : Nat} {d : Dm} (hd : S.dims[k]? = some d) (h : namedF d.levels 3 = false) : mayB S = false := by
  unfold mayB
  have : (S.dims.all fun d => namedF d.levels 3) = false := List.all_eq_false.2 ⟨d, List.mem_of_getElem? hd, by rw [h]; simp⟩
  rw [this]; rfl
theorem may_no2 {S : Sch} (h : namedF (namesF S) 3 = false) : mayB S = false := by unfold mayB; rw [h]; simp
theorem may_no3 {S : Sch} (h : namedF S.measures 2 = false) : mayB S = false := by unfold mayB; rw [h]; simp
theorem may_no4 {S : Sch} (h : 6 < S.views.length) : mayB S = false := by unfold mayB; rw [decide_eq_false (show ¬ S.views.length ≤ 6 by omega)]; simp
theorem may_no5 {S : Sch} {k : Nat} (hk : k < S.views.length) (h : viewOk S k = false) : mayB S = false := by
  unfold mayB
  have : (List.range S.views.length).all (viewOk S) = false := List.all_eq_false.2 ⟨k, List.mem_range.2 hk, by rw [h]; simp⟩
  rw [this]; simp
theorem may_yes {S : Sch} (h1 : ∀ d ∈ S.dims, namedF d.levels 3 = true) (h2 : namedF (namesF S) 3 = true) (h3 : namedF S.measures 2 = true) (h4 : S.views.length ≤ 6) (h5 : ∀ i, i < S.views.length → viewOk S i = true) : mayB S = true := by
  unfold mayB
  rw [List.all_eq_true.2 h1, h2, h3, decide_eq_true h4, List.all_eq_true.2 (fun i hi => h5 i (List.mem_range.1 hi))]; rfl
theorem viewOk_at {S : Sch} {i : Nat} {v : List Int} (h : S.views[i]? = some v) : viewOk S i = (cornerF S v && !decide (v = baseF S) && !((S.views.take i).any fun x => decide (v = x))) := by
  unfold viewOk
  rw [h]; rfl
theorem namesF_snoc (S : Sch) (k : Nat) (d : Dm) (h : S.dims[k]? = some d) : (namesF S).take (k + 1) = (namesF S).take k ++ [d.name] := by
  unfold namesF
  rw [List.take_add_one, List.getElem?_map, h]; rfl
theorem namesF_len (S : Sch) : (namesF S).length = S.dims.length := by simp [namesF]

theorem str_info : (Try.prog.info? 9).map (fun i => (i.zero, i.size, i.bytes)) = some (some (.string ByteArray.empty), 1, 16) := by kernel_rfl
/-- append one string -/
theorem wpList_append_s {w : World} {ops : Array Oper} {rest : List Oper} {o : Oper} {a : Act} {Q : Exit → Act → World → Prop} (hgd : o.guard = none) (s x : Operand)
    (ho : o.op = .call { callee := .builtin .append, args := #[s, x], argTypes := #[23, 23] })
    (base : Nat) {A : Option Addr} {n c : Nat} {l : List Value} (hs : a.eval s = .slice A n c) (hown : w.ownsRow base 9 1 (.slice A n c) n l)
    {B : Option Addr} {m d : Nat} {r : List Value} (hx : a.eval x = .slice B m d) (hr : Rds w 1 B m r) (h1 : ∀ u ∈ r, u.oneCell' = true) (hb : n + m ≤ 1000000000) (hbase : base ≤ w.heap.size)
    (h : ∀ A' c' w', w'.ownsRow base 9 1 (.slice A' (n + m) c') (n + m) (l ++ r) → w.grownBy w' (Value.slice A n c).ownBlock → Below base w w' → wpList Try.prog ops Q rest (a.put o.dst (.slice A' (n + m) c')) w') : wpList Try.prog ops Q (o :: rest) a w := by
  obtain ⟨i0, hi0, hz0, hz1, hz2⟩ := info_parts str_info
  refine wpList_append_any w hgd s x 23 ho base 9 i0 _ 1 16 Try.underlying23 hi0 hz0 hz1 hz2 rfl (by omega) _ n _ hs hown B m d _ hx hr h1 (by unfold maxLen; omega) (by omega) hbase ?_
  intro A' c' w' h1 h2 _
  exact h A' c' w' h1 h2 (below_own hown h2 hbase)
theorem RdV.take {w : World} {A : Option Addr} {n : Nat} {L : List (List Int)} (h : RdV w A n L) {k : Nat} (hk : k ≤ n) : RdV w A k (L.take k) := by
  refine ⟨by rw [List.length_take, h.1]; omega, fun i v hi => h.2 i v ?_⟩
  rw [List.getElem?_take] at hi
  split at hi
  · exact hi
  · cases hi

theorem Blk.grownT {w w' : World} {g base size n c : Nat} {T e : TypeId} {cs : Array Value} {A : Option Addr} {xs : List Value} (hb : Blk w g T cs) (hT : T ≠ e) (h : w.ownsRow base e size (.slice A n c) n xs)
    (hg : w.grownBy w' (Value.slice A n c).ownBlock) : Blk w' g T cs := by
  refine hb.grown hg fun ho => ?_
  rcases h.2 with ⟨h0, _⟩ | ⟨g', cap', cur', h0, _, h3', _⟩
  · rw [h0] at ho; cases ho
  · rw [h0] at ho
    injection ho with ho
    unfold Blk at hb
    rw [show g = g' from ho, h3'] at hb
    injection hb with hb
    injection hb with _ hb
    exact hT hb.symm

set_option maxHeartbeats 1000000 in
theorem may_any (A1 A2 A3 : Option Addr) (n1 n2 n3 c1 c2 c3 : Nat) (S : Sch) (w : World) (hr : RdSch w A1 A2 A3 n1 n2 n3 c1 c2 c3 S) (hn : n1 ≤ 1000000) (hn2 : n2 ≤ 1000000) (hn3 : n3 ≤ 1000000) (hd : ∀ d ∈ S.dims, d.levels.length ≤ 1000000) :
    Calls Try.prog 16 #[.agg #[.slice A1 n1 c1, .slice A2 n2 c2, .slice A3 n3 c3]] w fun e w' => e = .returned (.bool (mayB S)) ∧ Below w.heap.size w w' := by
  have Hd := Lib.hid hd
  clear hd
  have Hl1 := Lib.hid hr.d.1
  have Hl3 := Lib.hid hr.v.1
  have Hsn := Lib.hid (namesF_snoc S)
  have hb01 : Below w.heap.size w (w.alloc (.cells #[.slice A1 n1 c1, .slice A2 n2 c2, .slice A3 n3 c3] 26)) := (Below.refl _ _).alloc (Nat.le_refl _) _
  have hr1 := hr.below hb01
  have hblk := Blk.new w 26 #[.slice A1 n1 c1, .slice A2 n2 c2, .slice A3 n3 c3]
  have hsz : (w.alloc (.cells #[.slice A1 n1 c1, .slice A2 n2 c2, .slice A3 n3 c3] 26)).heap.size = w.heap.size + 1 := by simp
  have hb3 := hr.b3
  unfold maxLen at hb3
  go_enter Try.func16, Try.ntmps16
  go_wp2_with fail
  generalize w.alloc (.cells #[.slice A1 n1 c1, .slice A2 n2 c2, .slice A3 n3 c3] 26) = w1 at *
  go_loopw [3, 5, 13] (fun v _ i wr => ∃ (k : Nat) (A' : Option Addr) (c' : Nat), k ≤ n1 ∧ i = .int .i64 k ∧ v = .slice A' k c' ∧ wr.ownsRow w1.heap.size 9 1 (.slice A' k c') k (((namesF S).take k).map vs) ∧ (∀ j d, j < k → S.dims[j]? = some d → namedF d.levels 3 = true) ∧ Below w1.heap.size w1 wr) (fun _ _ i _ => n1 - (intOf i).toNat)
  case atStart => exact ⟨0, none, 0, Nat.zero_le _, rfl, rfl, own_nil _ _, fun j d hj => by omega, Below.refl _ _⟩
  case round =>
    obtain ⟨k, A', c', hk, rfl, rfl, hown, hnm, hb⟩ := hrel
    have Hnm := Lib.hid hnm
    clear hnm
    have hb0 := below_then hb01 hb (Nat.le_refl _)
    by_cases hlt : k < n1
    · obtain ⟨dm, ad, B, m, cB, hdm, rfl, hc0w, hc1w, hrtw, hmc, hcm⟩ := hr1.d.at_ hlt
      have Hst := Lib.hid (Hsn.out k dm hdm)
      have hml := Hd.out dm (List.mem_of_getElem? hdm)
      rw [hrtw.len] at hml
      have Hno := Lib.hid (may_no1 (S := S) hdm)
      have Hdm := Lib.hid hdm
      obtain ⟨nm, hnm⟩ : ∃ nm, dm.name = nm := ⟨_, rfl⟩
      rw [hnm] at hc0w
      have Hnn := Lib.hid hnm
      clear hdm hnm
      have hc0 := (hb.cell (lt_of_cell hc0w)).trans hc0w
      have hc1 := (hb.cell (lt_of_cell hc1w)).trans hc1w
      unfold maxLen at hcm
      have hbA := (Below.refl wr.heap.size wr).alloc (Nat.le_refl _) (.cells #[.string nm, .slice B m cB] 42)
      have hbB := hbA.alloc hbA.size (.cells #[.string nm] 9)
      have hownB := own_below hown hbB
      have hb1B := below_then hb hbB (Nat.le_refl _)
      have hblA := ((Blk.new wr 42 #[.string nm, .slice B m cB]).alloc (.cells #[.string nm] 9))
      have hxB := Rds.one (wr.alloc (.cells #[.string nm, .slice B m cB] 42)) 9 (.string nm)
      have hszA : (wr.alloc (.cells #[.string nm, .slice B m cB] 42)).heap.size = wr.heap.size + 1 := by simp
      rw [hszA] at hxB
      cases hnb : namedF dm.levels 3 with
      | false =>
        have hne := Hno.out hnb
        have Hne := Lib.hid hne
        clear hne
        go_wp2_with (first
          | (at_builtin; refine wpList_append_s rfl (.tmp 17) (.tmp 20) rfl w1.heap.size rfl hownB rfl hxB (fun u hu => by rw [List.mem_singleton.1 hu]; rfl) (by omega) hb1B.size ?_; intro A3' c3' w3 hown3 hg3 hb3'; have hq3 := (hblA.grownT (by decide) hownB hg3).cell 1; clear hg3)
          | fail)
        have hb13 := hb1B.trans hb3'
        refine (named_any _ _ _ _ _ _ (hrtw.below hb13) hml).mono ?_
        rintro e w4 ⟨rfl, hb4⟩
        rw [hnb]
        go_wp2
        go_ret
        exact ⟨by rw [Hne.out]; rfl, below_then hb01 (below_then hb13 hb4 (Nat.le_refl _)) (Nat.le_refl _)⟩
      | true =>
        have Hnm' := Lib.hid (show ∀ j d, j < k + 1 → S.dims[j]? = some d → namedF d.levels 3 = true from fun j d hj hd => by
          rcases Nat.lt_or_ge j k with h | h
          · exact Hnm.out j d h hd
          · obtain rfl : j = k := by omega
            obtain rfl : d = dm := Option.some.inj (hd.symm.trans Hdm.out)
            exact hnb)
        go_wp2_with (first
          | (at_builtin; refine wpList_append_s rfl (.tmp 17) (.tmp 20) rfl w1.heap.size rfl hownB rfl hxB (fun u hu => by rw [List.mem_singleton.1 hu]; rfl) (by omega) hb1B.size ?_; intro A3' c3' w3 hown3 hg3 hb3'; have hq3 := (hblA.grownT (by decide) hownB hg3).cell 1; clear hg3)
          | fail)
        have hb13 := hb1B.trans hb3'
        refine (named_any _ _ _ _ _ _ (hrtw.below hb13) hml).mono ?_
        rintro e w4 ⟨rfl, hb4⟩
        rw [hnb]
        have hown4 := own_below hown3 hb4
        have hb14 := below_then hb13 hb4 (Nat.le_refl _)
        clear hown3 hownB hown hxB hblA hq3 hnb
        go_wp2
        go_roundw
        case rel => exact ⟨k + 1, A3', c3', by omega, by go_num, rfl, by rw [Hst.out, List.map_append, Hnn.out]; exact hown4, Hnm'.out, hb14⟩
        case measure => simp [intOf]; omega
    · obtain rfl : k = n1 := by omega
      rw [List.take_of_length_le (by rw [namesF_len, Hl1.out]; omega)] at hown
      have hrn : RdT wr A' k (namesF S) := Rds.of_own hown
      have hq1 : wr.cell? ⟨w.heap.size, 1, none⟩ = some (.slice A2 n2 c2) := (hblk.kept hb).cell 1
      have hq2 : wr.cell? ⟨w.heap.size, 2, none⟩ = some (.slice A3 n3 c3) := (hblk.kept hb).cell 2
      cases hnb : namedF (namesF S) 3 with
      | false =>
        have Hne := Lib.hid (may_no2 (S := S) hnb)
        go_wp2_with fail
        refine (named_any _ _ _ _ _ _ hrn hn).mono ?_
        rintro e w4 ⟨rfl, hb4⟩
        rw [hnb]
        clear hnb
        go_wp2
        go_ret
        exact ⟨by rw [Hne.out]; rfl, below_then hb0 hb4 (Nat.le_refl _)⟩
      | true =>
        have Hn1 := Lib.hid hnb
        clear hnb
        go_wp2_with fail
        refine (named_any _ _ _ _ _ _ hrn hn).mono ?_
        rintro e w4 ⟨rfl, hb4⟩
        rw [Hn1.out]
        have hq14 := (hb4.cell (lt_of_cell hq1)).trans hq1
        have hq24 := (hb4.cell (lt_of_cell hq2)).trans hq2
        have hb14 := below_then hb hb4 (Nat.le_refl _)
        have hb04 := below_then hb01 hb14 (Nat.le_refl _)
        clear hq1 hq2 hrn hown
        cases hnb : namedF S.measures 2 with
        | false =>
          have Hne := Lib.hid (may_no3 (S := S) hnb)
          go_wp2_with fail
          refine (named_any _ _ _ _ _ _ (hr1.m.below hb14) hn2).mono ?_
          rintro e w5 ⟨rfl, hb5⟩
          rw [hnb]
          clear hnb
          go_wp2
          go_ret
          exact ⟨by rw [Hne.out]; rfl, below_then hb04 hb5 (Nat.le_refl _)⟩
        | true =>
          have Hn2 := Lib.hid hnb
          clear hnb
          go_wp2_with fail
          refine (named_any _ _ _ _ _ _ (hr1.m.below hb14) hn2).mono ?_
          rintro e w5 ⟨rfl, hb5⟩
          rw [Hn2.out]
          have hq25 := (hb5.cell (lt_of_cell hq24)).trans hq24
          have hb15 := below_then hb14 hb5 (Nat.le_refl _)
          have hb05 := below_then hb01 hb15 (Nat.le_refl _)
          clear hq14 hq24
          by_cases h6 : 6 < n3
          · have Hne := Lib.hid (may_no4 (S := S) (by rw [Hl3.out]; exact h6))
            go_wp2
            go_ret
            exact ⟨by rw [Hne.out]; rfl, hb05⟩
          · have hqa0 : w5.cell? ⟨w.heap.size, 0, none⟩ = some (.slice A1 k c1) := (hblk.kept hb15).cell 0
            have hqa1 : w5.cell? ⟨w.heap.size, 1, none⟩ = some (.slice A2 n2 c2) := (hblk.kept hb15).cell 1
            go_wp2_with fail
            refine (base_any _ _ _ _ _ _ _ _ _ _ _ (hr1.below hb15) hn).mono ?_
            rintro e w6 ⟨Ab, cb, rfl, hownb, hb6⟩
            have hb16 := below_then hb15 hb6 (Nat.le_refl _)
            have hq6 := (hblk.kept hb16).cell 2
            have hrb := RdI.of_own hownb
            clear hownb hqa0 hqa1 hq25
            go_wp2_with fail
            go_loopw [47] (fun i wr => ∃ k : Nat, k ≤ n3 ∧ i = .int .i64 k ∧ (∀ j, j < k → viewOk S j = true) ∧ Below w6.heap.size w6 wr) (fun i _ => n3 - (intOf i).toNat)
            case atStart => exact ⟨0, Nat.zero_le _, rfl, fun j hj => by omega, Below.refl _ _⟩
            case round =>
              obtain ⟨i, hi, rfl, hok, hbi⟩ := hrel
              have Hok := Lib.hid hok
              clear hok
              have hb1r := below_then hb16 hbi (Nat.le_refl _)
              have hb0r := below_then hb01 hb1r (Nat.le_refl _)
              by_cases hlt' : i < n3
              · obtain ⟨v, ad, B, m, d, hvi, rfl, hcw, hvw, hmd, hdm⟩ := hr1.v.at_ hlt'
                have hc := (hb1r.cell (lt_of_cell hcw)).trans hcw
                have hbv := (Below.refl wr.heap.size wr).alloc (Nat.le_refl _) (.cells #[.slice B m d] 30)
                have hb1v := below_then hb1r hbv (Nat.le_refl _)
                have hb6v := below_then hbi hbv (Nat.le_refl _)
                have hqa0 : wr.cell? ⟨w.heap.size, 0, none⟩ = some (.slice A1 k c1) := (hblk.kept hb1r).cell 0
                have hqa1 : wr.cell? ⟨w.heap.size, 1, none⟩ = some (.slice A2 n2 c2) := (hblk.kept hb1r).cell 1
                have hqa2 : wr.cell? ⟨w.heap.size, 2, none⟩ = some (.slice (some ad) n3 c3) := (hblk.kept hb1r).cell 2
                have hlw : w.heap.size < wr.heap.size := lt_of_cell hqa0
                have hblv := Blk.new wr 30 #[.slice B m d]
                have Hvo := Lib.hid (viewOk_at hvi)
                have Hno := Lib.hid (may_no5 (S := S) (k := i) (by rw [Hl3.out]; exact hlt'))
                clear hvi
                cases h1 : cornerF S v with
                | false =>
                  have Hne := Lib.hid (Hno.out (by rw [Hvo.out, h1]; rfl))
                  go_wp2_with fail
                  refine (corner_any _ _ _ _ _ _ _ _ _ _ _ _ _ v _ (hr1.below hb1v) hn (hvw.below hb1v) (Nat.le_trans hmd hdm)).mono ?_
                  rintro e w8 ⟨rfl, hb8⟩
                  rw [h1]
                  clear h1
                  go_wp2
                  go_ret
                  exact ⟨by rw [Hne.out]; rfl, below_then hb01 (below_then hb1v hb8 (Nat.le_refl _)) (Nat.le_refl _)⟩
                | true =>
                  have H1 := Lib.hid h1
                  clear h1
                  cases h2 : decide (v = baseF S) with
                  | true =>
                    have Hne := Lib.hid (Hno.out (by rw [Hvo.out, h2]; simp))
                    go_wp2_with fail
                    refine (corner_any _ _ _ _ _ _ _ _ _ _ _ _ _ v _ (hr1.below hb1v) hn (hvw.below hb1v) (Nat.le_trans hmd hdm)).mono ?_
                    rintro e w8 ⟨rfl, hb8⟩
                    rw [H1.out]
                    have hb18 := below_then hb1v hb8 (Nat.le_refl _)
                    go_wp2_with fail
                    refine (mayeq_any _ _ _ _ _ _ _ _ v _ (hrb.below (below_then hb6v hb8 (Nat.le_refl _))) (maxLen_big hn (by omega)) ((hblv.kept hb8).cell 0) (hvw.below hb18) (Nat.le_trans hmd hdm)).mono ?_
                    rintro e w9 ⟨rfl, q, rfl⟩
                    rw [h2]
                    clear h2
                    go_wp2
                    go_ret
                    exact ⟨by rw [Hne.out]; rfl, below_drewN (below_then hb01 hb18 (Nat.le_refl _)) q⟩
                  | false =>
                    have H2 := Lib.hid h2
                    clear h2
                    cases h3 : (S.views.take i).any fun x => decide (v = x) with
                    | true =>
                      have Hne := Lib.hid (Hno.out (by rw [Hvo.out, h3]; simp))
                      go_wp2_with fail
                      refine (corner_any _ _ _ _ _ _ _ _ _ _ _ _ _ v _ (hr1.below hb1v) hn (hvw.below hb1v) (Nat.le_trans hmd hdm)).mono ?_
                      rintro e w8 ⟨rfl, hb8⟩
                      rw [H1.out]
                      have hb18 := below_then hb1v hb8 (Nat.le_refl _)
                      have hqb : w8.cell? ⟨w.heap.size, 2, none⟩ = some (.slice (some ad) n3 c3) := (hblk.kept hb18).cell 2
                      go_wp2_with fail
                      refine (mayeq_any _ _ _ _ _ _ _ _ v _ (hrb.below (below_then hb6v hb8 (Nat.le_refl _))) (maxLen_big hn (by omega)) ((hblv.kept hb8).cell 0) (hvw.below hb18) (Nat.le_trans hmd hdm)).mono ?_
                      rintro e w9 ⟨rfl, q, rfl⟩
                      rw [H2.out]
                      have hqc : (w8.drewN q).cell? ⟨w.heap.size, 2, none⟩ = _ := hqb
                      go_wp2_with fail
                      refine (conmay_any _ _ _ _ _ _ _ _ v _ ((((hr1.v).below (below_drewN hb18 q)).take (Nat.le_of_lt hlt'))) (maxLen_big (k := 1000000) (by omega) (by omega)) ((hblv.kept (below_drewN hb8 q)).cell 0) (hvw.below (below_drewN hb18 q)) (Nat.le_trans hmd hdm)).mono ?_
                      rintro e w10 ⟨rfl, q2, rfl⟩
                      rw [h3]
                      clear h3
                      go_wp2
                      go_ret
                      exact ⟨by rw [Hne.out]; rfl, below_drewN (below_then hb01 hb18 (Nat.le_refl _)) (q + q2)⟩
                    | false =>
                      have Hst := Lib.hid (show ∀ j, j < i + 1 → viewOk S j = true from fun j hj => by
                        rcases Nat.lt_or_ge j i with h | h
                        · exact Hok.out j h
                        · obtain rfl : j = i := by omega
                          rw [Hvo.out, H1.out, H2.out, h3]; rfl)
                      go_wp2_with fail
                      refine (corner_any _ _ _ _ _ _ _ _ _ _ _ _ _ v _ (hr1.below hb1v) hn (hvw.below hb1v) (Nat.le_trans hmd hdm)).mono ?_
                      rintro e w8 ⟨rfl, hb8⟩
                      rw [H1.out]
                      have hb18 := below_then hb1v hb8 (Nat.le_refl _)
                      have hqb : w8.cell? ⟨w.heap.size, 2, none⟩ = some (.slice (some ad) n3 c3) := (hblk.kept hb18).cell 2
                      go_wp2_with fail
                      refine (mayeq_any _ _ _ _ _ _ _ _ v _ (hrb.below (below_then hb6v hb8 (Nat.le_refl _))) (maxLen_big hn (by omega)) ((hblv.kept hb8).cell 0) (hvw.below hb18) (Nat.le_trans hmd hdm)).mono ?_
                      rintro e w9 ⟨rfl, q, rfl⟩
                      rw [H2.out]
                      have hqc : (w8.drewN q).cell? ⟨w.heap.size, 2, none⟩ = _ := hqb
                      go_wp2_with fail
                      refine (conmay_any _ _ _ _ _ _ _ _ v _ ((((hr1.v).below (below_drewN hb18 q)).take (Nat.le_of_lt hlt'))) (maxLen_big (k := 1000000) (by omega) (by omega)) ((hblv.kept (below_drewN hb8 q)).cell 0) (hvw.below (below_drewN hb18 q)) (Nat.le_trans hmd hdm)).mono ?_
                      rintro e w10 ⟨rfl, q2, rfl⟩
                      rw [h3]
                      clear h3
                      go_wp2
                      go_roundw
                      case rel => exact ⟨i + 1, by omega, by go_num, Hst.out, below_drewN (below_then hb6v hb8 (Nat.le_refl _)) (q + q2)⟩
                      case measure => simp [intOf]; omega
              · obtain rfl : i = n3 := by omega
                have Hne := Lib.hid (may_yes (S := S) (fun d hd => by
                  obtain ⟨j, hj, rfl⟩ := List.getElem_of_mem hd
                  exact Hnm.out j _ (by rw [Hl1.out] at hj; exact hj) (List.getElem?_eq_getElem hj)) Hn1.out Hn2.out (by rw [Hl3.out]; omega) (fun j hj => Hok.out j (by rw [Hl3.out] at hj; exact hj)))
                go_wp2
                go_ret
                exact ⟨by rw [Hne.out]; rfl, hb0r⟩
end Go.Proofs.Ytojmkbhihnnmaaa
