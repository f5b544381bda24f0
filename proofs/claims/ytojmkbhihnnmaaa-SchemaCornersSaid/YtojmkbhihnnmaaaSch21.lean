/-
  The laws of the schema: their walks (Corners).
-/
import Derived.Test.YtojmkbhihnnmaaaSch20
namespace Go.Proofs.Ytojmkbhihnnmaaa
open Go.RowKit Go.Maps

theorem own_take {w : World} {base : Nat} {e : TypeId} {size n c k : Nat} {A : Option Addr} {xs : List Value} (h : w.ownsRow base e size (.slice A n c) n xs) (hk : k ≤ n) (h0 : 0 < k) : w.ownsRow base e size (.slice A k c) k (xs.take (k * size)) := by
  have hl : (xs.take (k * size)).length = k * size := by rw [List.length_take, h.1]; exact Nat.min_eq_left (Nat.mul_le_mul_right _ hk)
  refine ⟨hl, ?_⟩
  rcases h.2 with ⟨h1, h2⟩ | ⟨g, cap, cur, h1, h2, h3, h4, h5, h6, h7⟩
  · omega
  · injection h1 with h1 _ hc
    subst h1; subst hc
    refine .inr ⟨g, c, cur, rfl, h2, h3, by omega, h5, h6, ?_⟩
    rw [← h7, List.take_take, Nat.min_eq_left (Nat.mul_le_mul_right _ hk)]
def cut4 (d : Dm) : Dm := ⟨d.name, d.levels.take 4⟩
def cutTo (i : Nat) (ds : List Dm) : List Dm := (ds.take i).map cut4 ++ ds.drop i
theorem cutTo_len (i : Nat) (ds : List Dm) : (cutTo i ds).length = ds.length := by unfold cutTo; rw [List.length_append, List.length_map, List.length_take, List.length_drop]; omega
theorem cutTo_at (i : Nat) (ds : List Dm) (d : Dm) (h : ds[i]? = some d) : (cutTo i ds)[i]? = some d := by
  have hi := (List.getElem?_eq_some_iff.1 h).1
  unfold cutTo
  rw [List.getElem?_append_right (by rw [List.length_map, List.length_take]; omega), List.length_map, List.length_take, Nat.min_eq_left (by omega), Nat.sub_self, List.getElem?_drop, Nat.add_zero, h]
theorem cutTo_step (i : Nat) (ds : List Dm) (d : Dm) (h : ds[i]? = some d) : cutTo (i + 1) ds = (cutTo i ds).set i (cut4 d) := by
  have hi := (List.getElem?_eq_some_iff.1 h).1
  have hd : ds[i] = d := (List.getElem?_eq_some_iff.1 h).2
  unfold cutTo
  rw [List.take_add_one, h, List.map_append, List.drop_eq_getElem_cons hi, hd]
  rw [List.set_append_right _ _ (by rw [List.length_map, List.length_take]; omega), List.length_map, List.length_take, Nat.min_eq_left (by omega), Nat.sub_self, List.set_cons_zero, List.append_assoc]
  rfl
theorem cutTo_same (i : Nat) (ds : List Dm) (d : Dm) (h : ds[i]? = some d) (hl : d.levels.length ≤ 4) : cutTo (i + 1) ds = cutTo i ds := by
  rw [cutTo_step i ds d h]
  have hc : cut4 d = d := by unfold cut4; rw [List.take_of_length_le hl]
  rw [hc]
  refine List.ext_getElem? fun j => ?_
  rw [List.getElem?_set]
  split
  · rename_i e
    subst e
    rw [cutTo_at i ds d h, if_pos (by rw [cutTo_len]; exact (List.getElem?_eq_some_iff.1 h).1)]
  · rfl
theorem cutTo_all (ds : List Dm) : cutTo ds.length ds = ds.map cut4 := by unfold cutTo; rw [List.take_of_length_le (Nat.le_refl _), List.drop_of_length_le (Nat.le_refl _), List.append_nil]
theorem dimCells_set (ys : List DimV) (i : Nat) (y y' : DimV) (h : ys[i]? = some y) (hn : y'.nm = y.nm) : (dimCells ys).set (i * 2 + 1) (.slice y'.B y'.m y'.c) = dimCells (ys.set i y') := by
  induction ys generalizing i with
  | nil => simp at h
  | cons z zs ih =>
    cases i with
    | zero =>
      simp at h; subst h
      simp [dimCells, hn]
    | succ i =>
      have := ih i (by simpa using h)
      simp only [dimCells, List.flatMap_cons, List.set_cons_succ] at this ⊢
      rw [show (i + 1) * 2 + 1 = (i * 2 + 1) + 1 + 1 by omega]
      simp [this]
theorem DimsOk.set {w : World} {ys : List DimV} {ds : List Dm} (h : DimsOk w ys ds) (i : Nat) {y' : DimV} {d' : Dm} (h1 : y'.nm = d'.name) (h2 : RdT w y'.B y'.m d'.levels) (h3 : y'.m ≤ y'.c) (h4 : y'.c ≤ maxLen) : DimsOk w (ys.set i y') (ds.set i d') := by
  refine ⟨by simp [h.1], fun j x hx => ?_⟩
  rw [List.getElem?_set] at hx
  by_cases hij : i = j
  · subst hij
    rw [if_pos rfl] at hx
    split at hx
    · rename_i hlt
      obtain rfl : d' = x := Option.some.inj hx
      exact ⟨y', by rw [List.getElem?_set, if_pos rfl, if_pos (by rw [h.1]; exact hlt)], h1, h2, h3, h4⟩
    · cases hx
  · rw [if_neg hij] at hx
    obtain ⟨y, hy, hr⟩ := h.2 j x hx
    exact ⟨y, by rw [List.getElem?_set, if_neg hij]; exact hy, hr⟩
theorem DimsOk.take {w : World} {ys : List DimV} {ds : List Dm} (h : DimsOk w ys ds) (k : Nat) : DimsOk w (ys.take k) (ds.take k) := by
  refine ⟨by simp [h.1], fun j x hx => ?_⟩
  rw [List.getElem?_take] at hx
  split at hx
  · obtain ⟨y, hy, hr⟩ := h.2 j x hx
    exact ⟨y, by rw [List.getElem?_take, if_pos (by assumption)]; exact hy, hr⟩
  · cases hx
theorem dimCells_at (ys : List DimV) (i : Nat) (y : DimV) (h : ys[i]? = some y) : (dimCells ys)[i * 2 + 1]? = some (.slice y.B y.m y.c) := by
  induction ys generalizing i with
  | nil => simp at h
  | cons z zs ih =>
    cases i with
    | zero => simp at h; subst h; simp [dimCells]
    | succ i =>
      have := ih i (by simpa using h)
      simp only [dimCells, List.flatMap_cons] at this ⊢
      rw [show (i + 1) * 2 + 1 = i * 2 + 1 + 2 by omega]
      simpa using this
theorem dimCells_take (ys : List DimV) (k : Nat) : (dimCells ys).take (k * 2) = dimCells (ys.take k) := by
  induction ys generalizing k with
  | nil => simp [dimCells]
  | cons z zs ih =>
    cases k with
    | zero => simp [dimCells]
    | succ k =>
      have := ih k
      simp only [dimCells, List.flatMap_cons, List.take_succ_cons] at this ⊢
      rw [show (k + 1) * 2 = k * 2 + 1 + 1 by omega]
      simp [this]

theorem FewIn.cutDim {wB wr : World} {g base gD : Nat} {S : Sch} {A2 A3 : Option Addr} {c1 c2 c3 : Nat} {ys : List DimV} {xs : List Value} {i : Nat} {y : DimV} {d : Dm} {m' : Nat} (h : FewIn wB wr g base S (some ⟨gD, 0, none⟩) A2 A3 c1 c2 c3 ys xs)
    (hb : wB.heap.size ≤ base) (hy : ys[i]? = some y) (hn : y.nm = d.name) (hr : RdT wB y.B m' d.levels) (hm : m' ≤ y.c) (hc : y.c ≤ maxLen) :
    FewIn wB (wr.setCell ⟨gD, i * 2 + 1, none⟩ (.slice y.B m' y.c)) g base ⟨S.dims.set i d, S.measures, S.views⟩ (some ⟨gD, 0, none⟩) A2 A3 c1 c2 c3 (ys.set i ⟨y.nm, y.B, m', y.c⟩) xs := by
  obtain ⟨h1, h2⟩ := h.d.stored (i * 2 + 1) (.slice y.B m' y.c)
  have hgD : base ≤ gD := by
    rcases h.d.2 with ⟨h0, _⟩ | ⟨g', cap', cur', h0, hb', _⟩
    · injection h0 with h0; cases h0
    · injection h0 with h0; injection h0 with h0; injection h0 with h0; omega
  have hg : wr.grownBy (wr.setCell ⟨gD, i * 2 + 1, none⟩ (.slice y.B m' y.c)) (Value.slice (some ⟨gD, 0, none⟩) S.dims.length c1).ownBlock := h2
  have hl : (S.dims.set i d).length = S.dims.length := List.length_set ..
  refine ⟨?_, ?_, h.dk.set i hn hr hm hc, own_grownT (by decide) h.d h.m hg, own_grownT (by decide) h.d h.v hg, h.vk, h.l.setCell (by show wB.heap.size ≤ gD; omega) _⟩
  · show Blk _ g _ #[.slice (some ⟨gD, 0, none⟩) (S.dims.set i d).length c1, _, _]
    rw [hl]; exact h.b.grownT (by decide) h.d hg
  · show World.ownsRow _ base _ 2 (.slice (some ⟨gD, 0, none⟩) (S.dims.set i d).length c1) (S.dims.set i d).length _
    rw [hl, ← dimCells_set ys i y ⟨y.nm, y.B, m', y.c⟩ hy rfl]
    exact h1

set_option maxHeartbeats 2000000 in
theorem schemaCorners_any (A1 A2 A3 : Option Addr) (n1 n2 n3 c1 c2 c3 : Nat) (S : Sch) (w : World) (hr : RdSch w A1 A2 A3 n1 n2 n3 c1 c2 c3 S) :
    Calls Try.prog 8 #[.agg #[.slice A1 n1 c1, .slice A2 n2 c2, .slice A3 n3 c3]] w fun e w' => e = .returned (.bool true) ∧ Below w.heap.size w w' := by
  have hbA : Below w.heap.size w (w.alloc (.cells #[.slice A1 n1 c1, .slice A2 n2 c2, .slice A3 n3 c3] 26)) := (Below.refl _ _).alloc (Nat.le_refl _) _
  have hbl := Blk.new w 26 #[.slice A1 n1 c1, .slice A2 n2 c2, .slice A3 n3 c3]
  have hz : (w.alloc (.cells #[.slice A1 n1 c1, .slice A2 n2 c2, .slice A3 n3 c3] 26)).heap.size = w.heap.size + 1 := by simp
  obtain ⟨hs8, hl8, hs2, hs12, hsv8⟩ := fewF_sm S
  go_enter Try.func8, Try.ntmps8
  go_wp2_with fail
  generalize w.alloc (.cells #[.slice A1 n1 c1, .slice A2 n2 c2, .slice A3 n3 c3] 26) = w1 at *
  refine (few8_any _ _ _ _ _ _ _ _ _ S w _ hbA hr).mono ?_
  rintro e w2 ⟨B1, d1, B2, d2, B3, d3, ys, xs, rfl, ho1, hk1, ho2, ho3, hk3, hb2⟩
  generalize fewF S = T at *
  have hbl2 := hbl.kept hb2
  have h0 := hbl2.cell 0
  have h1 := hbl2.cell 1
  have h2 := hbl2.cell 2
  have f0 := hbl2.free 0
  have f1 := hbl2.free 1
  have f2 := hbl2.free 2
  simp only [List.getElem?_toArray, List.getElem?_cons_zero, List.getElem?_cons_succ] at h0 h1 h2
  have hin : FewIn w (((w2.setCell ⟨w.heap.size, 0, none⟩ (.slice B1 T.dims.length d1)).setCell ⟨w.heap.size, 1, none⟩ (.slice B2 T.measures.length d2)).setCell ⟨w.heap.size, 2, none⟩ (.slice B3 T.views.length d3)) w.heap.size w1.heap.size T B1 B2 B3 d1 d2 d3 ys xs := by
    have hlt : w.heap.size < w1.heap.size := by omega
    exact ⟨((hbl2.set_ 0 _).set_ 1 _).set_ 2 _, own_set_far (own_set_far (own_set_far ho1 hlt _) hlt _) hlt _, hk1, own_set_far (own_set_far (own_set_far ho2 hlt _) hlt _) hlt _, own_set_far (own_set_far (own_set_far ho3 hlt _) hlt _) hlt _, hk3,
      (((below_then hbA hb2 (Nat.le_refl _)).setCell (Nat.le_refl _) _).setCell (Nat.le_refl _) _).setCell (Nat.le_refl _) _⟩
  go_upto_if 12 with fail
  generalize (((w2.setCell ⟨w.heap.size, 0, none⟩ (.slice B1 T.dims.length d1)).setCell ⟨w.heap.size, 1, none⟩ (.slice B2 T.measures.length d2)).setCell ⟨w.heap.size, 2, none⟩ (.slice B3 T.views.length d3)) = w3 at *
  clear h0 h1 h2 f0 f1 f2 hbl2 ho1 ho2 ho3 hb2 hbl
  go_cut [] (fun wr => ∃ B1 d1 ys, FewIn w wr w.heap.size w1.heap.size ⟨T.dims.take 4, T.measures, T.views⟩ B1 B2 B3 d1 d2 d3 ys xs)
  case first =>
    have h0 := hin.b.cell 0
    have f0 := hin.b.free 0
    have hbd := own_bounds hin.d
    unfold maxLen at hbd
    simp only [List.getElem?_toArray, List.getElem?_cons_zero] at h0
    by_cases h4 : 4 < T.dims.length
    · have Hfin : Hid (FewIn w (w3.setCell ⟨w.heap.size, 0, none⟩ (.slice B1 4 d1)) w.heap.size w1.heap.size ⟨T.dims.take 4, T.measures, T.views⟩ B1 B2 B3 d1 d2 d3 (ys.take 4) xs) := by
        have hlt : w.heap.size < w1.heap.size := by omega
        have hl : (T.dims.take 4).length = 4 := by rw [List.length_take]; omega
        refine Lib.hid ⟨?_, ?_, hin.dk.take 4, own_set_far hin.m hlt _, own_set_far hin.v hlt _, hin.vk, hin.l.setCell (Nat.le_refl _) _⟩
        · show Blk _ _ _ #[.slice B1 (T.dims.take 4).length d1, _, _]
          rw [hl]; exact hin.b.set_ 0 _
        · show World.ownsRow _ _ _ 2 (.slice B1 (T.dims.take 4).length d1) (T.dims.take 4).length _
          rw [hl, ← dimCells_take]
          exact own_set_far (own_take hin.d (by omega) (by omega)) hlt _
      clear hin
      go_wp2
      go_meet
      exact ⟨B1, d1, _, Hfin.out⟩
    · have Hfin : Hid (FewIn w w3 w.heap.size w1.heap.size ⟨T.dims.take 4, T.measures, T.views⟩ B1 B2 B3 d1 d2 d3 ys xs) := by
        rw [List.take_of_length_le (by omega)]
        exact Lib.hid hin
      clear hin
      go_wp2
      go_meet
      exact ⟨B1, d1, _, Hfin.out⟩
  case rest =>
    obtain ⟨B1, d1, ys, hin⟩ := hcut
    have hD4 : (T.dims.take 4).length ≤ 4 := by rw [List.length_take]; omega
    have hDl : ∀ d ∈ T.dims.take 4, d.levels.length ≤ 8 := fun d hd => hl8 d (List.mem_of_mem_take hd)
    have HDl := Lib.hid hDl
    clear hDl hl8
    generalize hD : T.dims.take 4 = D at *
    have Hc0 := Lib.hid (show cutTo 0 D = D by simp [cutTo])
    have Hcl := Lib.hid (fun i => cutTo_len i D)
    have Hca := Lib.hid (cutTo_all D)
    clear hD
    generalize hN : D.length = N at *
    have HN := Lib.hid hN
    clear hN
    go_wp2_with fail
    go_loopw [3] (fun i wr => ∃ (k : Nat) (ys : List DimV), k ≤ N ∧ i = .int .i64 k ∧ FewIn w wr w.heap.size w1.heap.size ⟨cutTo k D, T.measures, T.views⟩ B1 B2 B3 d1 d2 d3 ys xs) (fun i _ => N - (intOf i).toNat)
    case atStart => exact ⟨0, ys, Nat.zero_le _, rfl, by rw [Hc0.out]; exact hin⟩
    case round =>
      obtain ⟨k, ys, hk, rfl, hin⟩ := hrel
      have h0 := hin.b.cell 0
      simp only [List.getElem?_toArray, List.getElem?_cons_zero] at h0
      rw [show (⟨cutTo k D, T.measures, T.views⟩ : Sch).dims.length = N by exact Hcl.out k] at h0
      have hbd := own_bounds hin.d
      rw [show (⟨cutTo k D, T.measures, T.views⟩ : Sch).dims.length = N by exact Hcl.out k] at hbd
      unfold maxLen at hbd
      by_cases hlt : k < N
      · have hdk : ∃ d, D[k]? = some d := ⟨_, List.getElem?_eq_getElem (by rw [HN.out]; exact hlt)⟩
        obtain ⟨d, hdk⟩ := hdk
        obtain ⟨y, hy, hyn, hyr, hymc, hycm⟩ := hin.dk.2 k d (cutTo_at k D d hdk)
        have hrd := hin.reads.d
        obtain ⟨gD, cap, hv, hgD, _⟩ := hin.d.form (by rw [show (⟨cutTo k D, T.measures, T.views⟩ : Sch).dims.length = N by exact Hcl.out k]; omega)
        injection hv with hA _ _
        subst hA
        have hcell : wr.cell? ⟨gD, k * 2 + 1, none⟩ = some (.slice y.B y.m y.c) := (hin.d.cellAt (k * 2 + 1) (by
          rw [show (⟨cutTo k D, T.measures, T.views⟩ : Sch).dims.length = N by exact Hcl.out k]; omega)).trans (dimCells_at ys k y hy)
        have hfree := hin.d.frozenAt (g := gD) (k * 2 + 1)
        have Hdk := Lib.hid hdk
        have Hy := Lib.hid hy
        have hyl := hyr.len
        have Hyl := Lib.hid hyl
        have Hyn := Lib.hid hyn
        obtain ⟨yn, yB, ym, yc⟩ := y
        clear hdk hy hyl hrd hyn
        by_cases h4 : 4 < ym
        · have Hnext : Hid (FewIn w (wr.setCell ⟨gD, k * 2 + 1, none⟩ (.slice yB 4 yc)) w.heap.size w1.heap.size ⟨cutTo (k + 1) D, T.measures, T.views⟩ (some ⟨gD, 0, none⟩) B2 B3 d1 d2 d3 (ys.set k ⟨yn, yB, 4, yc⟩) xs) := by
            rw [cutTo_step k D d Hdk.out]
            exact Lib.hid (hin.cutDim (i := k) (y := ⟨yn, yB, ym, yc⟩) (d := cut4 d) (m' := 4) (by omega) Hy.out Hyn.out (hyr.take (k := 4) (show 4 ≤ ym by omega)) (by show 4 ≤ yc; simp at hymc; omega) hycm)
          simp only at hcell hymc hycm
          unfold maxLen at hycm
          clear hin hyr
          go_wp2_with fail
          go_region
          all_goals
            go_wp2_with fail
            go_roundw
            case rel => exact ⟨k + 1, _, by omega, by go_num, Hnext.out.later (Below.refl _ _).drew⟩
            case measure => simp [intOf]; omega
        · have Hnext : Hid (FewIn w wr w.heap.size w1.heap.size ⟨cutTo (k + 1) D, T.measures, T.views⟩ (some ⟨gD, 0, none⟩) B2 B3 d1 d2 d3 ys xs) := by
            rw [cutTo_same k D d Hdk.out (by rw [Hyl.out]; simp; omega)]
            exact Lib.hid hin
          simp only at hcell hymc hycm
          unfold maxLen at hycm
          clear hin hyr
          go_wp2
          go_roundw
          case rel => exact ⟨k + 1, _, by omega, by go_num, Hnext.out⟩
          case measure => simp [intOf]; omega
      · obtain rfl : k = N := by omega
        have hT2 : cutTo k D = D.map cut4 := Hca.out
        rw [hT2] at hin
        have hdl4 : ∀ d ∈ D.map cut4, d.levels.length ≤ 8 := fun d hd => by
          obtain ⟨x, _, rfl⟩ := List.mem_map.1 hd
          show (x.levels.take 4).length ≤ 8
          rw [List.length_take]; omega
        have hnl : (D.map cut4).length = k := by rw [List.length_map]; exact HN.out
        have Hnl := Lib.hid hnl
        have hTd : (⟨D.map cut4, T.measures, T.views⟩ : Sch).dims = D.map cut4 := rfl
        have HTd := Lib.hid hTd
        have hTl : (⟨D.map cut4, T.measures, T.views⟩ : Sch).dims.length = k := hnl
        have HTl := Lib.hid hTl
        have hTd8 : ∀ d ∈ (⟨D.map cut4, T.measures, T.views⟩ : Sch).dims, d.levels.length ≤ 8 := hdl4
        have HTd8 := Lib.hid hTd8
        have hTv : (⟨D.map cut4, T.measures, T.views⟩ : Sch).views.length ≤ 12 := hs12
        have hTm : (⟨D.map cut4, T.measures, T.views⟩ : Sch).measures.length ≤ 8 := hs2
        clear hT2 hdl4 hnl hTd hTl hTd8
        generalize (⟨D.map cut4, T.measures, T.views⟩ : Sch) = U at *
        have h1 := hin.b.cell 1
        have h2 := hin.b.cell 2
        simp only [List.getElem?_toArray, List.getElem?_cons_zero, List.getElem?_cons_succ] at h1 h2
        have hrd := hin.reads
        rw [HTl.out] at hrd
        have hal := allF_len U.dims
        have Hac := Lib.hid (fun v hv => allF_corner U v hv)
        have Hav := Lib.hid (fun v hv => (allF_at U.dims v hv).1)
        have Hal := Lib.hid hal
        have hbdl : (allF U.dims).length ≤ 43046721 := by
          have h2 := (prodF_bd U.dims HTd8.out).2
          have h3 := pow9 U.dims.length (by rw [HTl.out]; omega)
          omega
        clear hal
        have hb0 : ∀ w', Below wr.heap.size wr w' → Below w.heap.size w w' := fun w' hb => below_then hin.l hb (Nat.le_refl _)
        go_wp2_with fail
        refine (all_any _ _ _ _ _ _ _ _ _ U _ hrd (by omega) HTd8.out).mono ?_
        rintro e w4 ⟨A4, c4, rfl, hv4, hvc1, hvc2, hb4⟩
        have hq4 := hin.later hb4
        have h0 := hq4.b.cell 0
        have h1 := hq4.b.cell 1
        have h2 := hq4.b.cell 2
        simp only [List.getElem?_toArray, List.getElem?_cons_zero, List.getElem?_cons_succ] at h0 h1 h2
        rw [HTl.out] at h0
        unfold maxLen at hvc2
        generalize hLL : allF U.dims = L at *
        have HLL := Lib.hid hLL
        clear hLL
        go_wp2_with fail
        refine (corners_any _ _ _ _ _ _ _ _ _ U _ (hrd.below hb4) (by omega) HTd8.out).mono ?_
        rintro e w5 ⟨rfl, hb5⟩
        rw [← Hal.out]
        have hb05 := below_then hb4 hb5 (Nat.le_refl _)
        have hq5 := hin.later hb05
        have h0 := hq5.b.cell 0
        have h1 := hq5.b.cell 1
        have h2 := hq5.b.cell 2
        simp only [List.getElem?_toArray, List.getElem?_cons_zero, List.getElem?_cons_succ] at h0 h1 h2
        rw [HTl.out] at h0
        go_wp2_with fail
        refine (base_any _ _ _ _ _ _ _ _ _ U _ (hrd.below hb05) (by omega)).mono ?_
        rintro e w6 ⟨A6, c6, rfl, ho6, hb6⟩
        have hb06 := below_then hb05 hb6 (Nat.le_refl _)
        have hv6 := hv4.below (below_then hb5 hb6 (Nat.le_refl _))
        have hrb := RdI.of_own ho6
        clear ho6 hq4 hq5
        go_wp2_with fail
        go_loopw [6, 67, 68, 69, 70, 71, 72, 73] (fun i _ _ _ _ _ _ _ wz => ∃ j : Nat, j ≤ L.length ∧ i = .int .i64 j ∧ Below w6.heap.size w6 wz) (fun i _ _ _ _ _ _ _ _ => L.length - (intOf i).toNat)
        case atStart => exact ⟨0, Nat.zero_le _, rfl, Below.refl _ _⟩
        case round =>
          obtain ⟨j, hj, rfl, hb6r⟩ := hrel
          have hb0r := below_then hb06 hb6r (Nat.le_refl _)
          have hqr := hin.later hb0r
          by_cases hlj : j < L.length
          · obtain ⟨v, av, X, x, y, hvj, rfl, hcw, hxv, hxy, hym⟩ := hv6.at_ hlj
            have hcor := Hac.out v (List.mem_of_getElem? hvj)
            have Hcor := Lib.hid hcor
            have hxl := Hav.out v (List.mem_of_getElem? hvj)
            rw [hxv.len, HTl.out] at hxl
            have hx4 : x ≤ 4 := by omega
            clear hvj hcor hxl
            have hcr := (hb6r.cell (lt_of_cell hcw)).trans hcw
            have hcx : ∀ x : After wr.heap.size wr, x.1.cell? (av.add j) = _ := after_cell hcr (lt_of_cell hcr)
            have hx0 : ∀ x : After wr.heap.size wr, x.1.cell? ⟨w.heap.size, 0, none⟩ = some (.slice B1 k d1) := by rw [← HTl.out]; exact after_cell (hqr.b.cell 0) hqr.b.lt
            have hx1 : ∀ x : After wr.heap.size wr, x.1.cell? ⟨w.heap.size, 1, none⟩ = some (.slice B2 U.measures.length d2) := after_cell (hqr.b.cell 1) hqr.b.lt
            have hx2 : ∀ x : After wr.heap.size wr, x.1.cell? ⟨w.heap.size, 2, none⟩ = some (.slice B3 U.views.length d3) := after_cell (hqr.b.cell 2) hqr.b.lt
            go_wp2_with fail
            refine wp_region_mix (C := laterW wr.heap.size wr) [([0, 1, 2, 3, 4], 5), ([6, 7, 8, 9, 10, 11, 12], 13)] [14, 15] (by kernel_rfl) (by kernel_rfl) (fun _ _ _ _ e h => ⟨e.symm.trans h.1, h.2⟩) (laterW_of (Below.refl _ _).drew) ?_
            refine wpSegs_step fun K1 hK1 => ?_
            simp only [pickL, List.getElem?_cons_zero, List.getElem?_cons_succ]
            repeat (go_big_quiet_step (fail))
            refine wpQuiet_nil ?_
            go_wp2_with fail
            refine (corner_any _ _ _ _ _ _ _ _ _ _ _ _ U v _ (hrd.below (hb0r.drew)) (by omega) (hxv.below (hb6r.drew)) (maxLen_big hx4 (by omega))).mono ?_
            rintro e w8 ⟨rfl, hb8⟩
            rw [Hcor.out.1]
            have hbr8 : Below wr.heap.size wr w8 := (Below.refl wr.heap.size wr).drew.trans hb8
            have hb68 := below_then hb6r hbr8 (Nat.le_refl _)
            go_wp2_with fail
            refine ⟨laterW_of hbr8, hK1 _ _ ?_⟩
            refine wpSegs_step fun K2 hK2 => ?_
            simp only [pickL, List.getElem?_cons_zero, List.getElem?_cons_succ]
            repeat (go_big_quiet_step (fail))
            refine wpQuiet_nil ?_
            go_wp2_with fail
            refine (covers_any _ _ _ _ _ _ (baseF U) v _ (hrb.below hb68) (hxv.below hb68) (maxLen_big (show k ≤ 4 by omega) (by omega)) (maxLen_big hx4 (by omega))).mono ?_
            rintro e w9 ⟨rfl, q9, rfl⟩
            rw [Hcor.out.2]
            go_wp2_with fail
            refine ⟨laterW_of (below_drewN hbr8 q9), hK2 _ _ ?_⟩
            refine wpSegs_last ?_
            simp only [pickL, List.getElem?_cons_zero, List.getElem?_cons_succ]
            repeat (go_big_quiet_step (fail))
            refine wpQuiet_nil ?_
            clear hcx hx0 hx1 hx2
            go_wp2_with fail
            go_roundw
            case rel => exact ⟨j + 1, by omega, by go_num, below_drewN hb68 q9⟩
            case measure => simp [intOf]; omega
          · obtain rfl : j = L.length := by omega
            go_wp2_with fail
            refine (lives8_any _).mono ?_
            rintro e w9 ⟨rfl, hb9⟩
            go_wp2
            go_ret
            exact ⟨rfl, hb0 _ (below_then hb0r hb9 (Nat.le_refl _))⟩
end Go.Proofs.Ytojmkbhihnnmaaa
