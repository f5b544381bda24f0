/-
  The law TrackOwns.
-/
import Derived.Test.YtojmkbhihnnmaaaT36
namespace Go.Proofs.Ytojmkbhihnnmaaa
open Go.RowKit

theorem own_fresh {base size n c : Nat} {e : TypeId} {A : Option Addr} {xs : List Value} {w : World} (h : w.ownsRow base e size (.slice A n c) n xs) {j : Nat} (hj : rowOf A j) : base ≤ j ∧ j < w.heap.size := by
  have := own_row_blk h A c rfl j hj
  exact ⟨this.2.1, this.1⟩
theorem ownX_set {base size n c g : Nat} {e : TypeId} {w : World} (h : ∃ xs, w.ownsRow base e size (.slice (some ⟨g, 0, none⟩) n c) n xs) (i : Nat) (u : Value) : ∃ xs, (w.setCell ⟨g, i, none⟩ u).ownsRow base e size (.slice (some ⟨g, 0, none⟩) n c) n xs := by
  obtain ⟨xs, h⟩ := h
  rcases h.2 with ⟨h0, _⟩ | ⟨g', cap, cur, h1, h2, h3, h4, h5, h6, h7⟩
  · cases h0
  · injection h1 with h1 _ h8
    injection h1 with h1
    injection h1 with h1
    subst h1
    subst h8
    have hb : Blk w g e cur := h3
    have hb2 := hb.set_ i u
    have hm := Nat.mul_le_mul_right size h4
    exact ⟨(cur.setIfInBounds i u).toList.take (n * size), by rw [List.length_take, Array.length_toList, Array.size_setIfInBounds, h6]; exact Nat.min_eq_left hm, .inr ⟨g, c, _, rfl, h2, hb2, h4, h5, by rw [Array.size_setIfInBounds]; exact h6, rfl⟩⟩
theorem Wri.set {w : World} {ad : Addr} {N : Nat} (h : Wri w ad N) (p : Addr) (u : Value) : Wri (w.setCell p u) ad N := fun j hj => by
  obtain ⟨⟨v, hv⟩, hf⟩ := h j hj
  refine ⟨?_, by rw [World.frozen?_setCell]; exact hf⟩
  rcases Classical.em (p = ad.add j) with e | e
  · subst e
    exact ⟨u, by first | exact World.cell?_setCell_same _ hv | exact World.cell?_setCell_same _ _ hv | exact World.cell?_setCell_same _ _ _ hv⟩
  · exact ⟨v, by rw [World.cell?_setCell_other]; exact hv; exact e⟩
/-- a fact's two cells -/
def over2 (w : World) (ad : Addr) : World := (w.setCell ad (.slice none 0 0)).setCell ⟨ad.block, ad.off + 1, none⟩ (.slice none 0 0)
theorem over2_wri {w : World} {ad p : Addr} {N : Nat} (h : Wri w ad N) : Wri (over2 w p) ad N := (h.set _ _).set _ _
theorem Fr.setAt (w : World) (p : Addr) (u : Value) : Fr (fun j => j = p.block) w (w.setCell p u) := ⟨rfl, rfl, rfl, by simp [World.setCell], fun k _ hn => Below.heap_setCell w p u k hn⟩
theorem over2_fr (w : World) (p : Addr) : Fr (fun j => j = p.block) w (over2 w p) := (Fr.setAt w p _).trans (Fr.setAt (w.setCell p _) ⟨p.block, p.off + 1, none⟩ _) fun _ h => .inl h
/-- what the walk needs of a fact's two cells -/
theorem wri_two {w : World} {ad : Addr} {k m : Nat} (h : Wri w ad (m * 2)) (hk : k < m) : ∃ v0 v1, w.cell? (ad.add (k * 2)) = some v0 ∧ w.cell? ⟨(ad.add (k * 2)).block, (ad.add (k * 2)).off + 1, none⟩ = some v1 ∧ w.frozen? (ad.add (k * 2)) = false ∧ w.frozen? ⟨(ad.add (k * 2)).block, (ad.add (k * 2)).off + 1, none⟩ = false ∧
    (∀ u, (w.setCell (ad.add (k * 2)) u).cell? ⟨(ad.add (k * 2)).block, (ad.add (k * 2)).off + 1, none⟩ = some v1) := by
  obtain ⟨⟨v0, h0⟩, f0⟩ := h (k * 2) (by omega)
  obtain ⟨⟨v1, h1⟩, f1⟩ := h (k * 2 + 1) (by omega)
  rw [← add_of_add, add_next _ _ (by omega)] at h1 f1
  refine ⟨v0, v1, h0, h1, f0, f1, fun u => ?_⟩
  rw [World.cell?_setCell_other]
  · exact h1
  · intro e
    have := congrArg Addr.off e
    simp at this
theorem facts_wri {B : Nat} {w : World} {ad : Addr} {m d : Nat} {fs : List Fa} (h : FactsV (NewIn TD B w) w (.slice (some ad) m d) fs) (hm : 0 < m) : Wri w ad (m * 2) ∧ B ≤ ad.block ∧ ∃ cs T, w.heap[ad.block]? = some (.cells cs T (0, 0)) ∧ T ∈ TD := by
  obtain ⟨ys, ⟨A, c, e, hr, h1, h2, h3⟩, hl, _⟩ := h
  injection e with e1 e2 e3
  subst e1
  rw [← e2] at h3 hr
  obtain ⟨hB, cs, _, T, h4, h5⟩ := h3 hm ad rfl
  refine ⟨wri_of (T := T) (cs := cs) (fun j hj => ?_) h4, hB, cs, T, h4, h5⟩
  obtain ⟨ad', e, hc⟩ := hr.2 hm
  injection e with e
  subst e
  have hlen := hr.1
  exact ⟨_, hc j _ (List.getElem?_eq_getElem (by omega))⟩
/-- six cells of a row are written over -/
def over6 (w : World) (g k : Nat) : World := (((((w.setCell ⟨g, k, none⟩ (.int .i64 0)).setCell ⟨g, k + 1, none⟩ (.int .i64 0)).setCell ⟨g, k + 2, none⟩ (.int .i64 0)).setCell ⟨g, k + 3, none⟩ (.int .i64 0)).setCell ⟨g, k + 4, none⟩ (.int .i64 0)).setCell ⟨g, k + 5, none⟩ (.slice none 0 0)
theorem over6_own {base size n c g k : Nat} {e : TypeId} {w : World} (h : ∃ xs, w.ownsRow base e size (.slice (some ⟨g, 0, none⟩) n c) n xs) : ∃ xs, (over6 w g k).ownsRow base e size (.slice (some ⟨g, 0, none⟩) n c) n xs :=
  ownX_set (ownX_set (ownX_set (ownX_set (ownX_set (ownX_set h _ _) _ _) _ _) _ _) _ _) _ _
theorem over6_fr (w : World) (g k : Nat) : Fr (fun j => j = g) w (over6 w g k) :=
  have e : ∀ {a b : World}, Fr (fun j => j = g) w a → Fr (fun j => j = g) a b → Fr (fun j => j = g) w b := fun h h' => h.trans h' fun _ h => .inl h
  e (e (e (e (e (Fr.set g _ _) (Fr.set g _ _)) (Fr.set g _ _)) (Fr.set g _ _)) (Fr.set g _ _)) (Fr.set g _ _)
theorem Wri.keep {w w' : World} {ad : Addr} {N : Nat} (h : Wri w ad N) (hk : w'.heap[ad.block]? = w.heap[ad.block]?) : Wri w' ad N := fun j hj => by
  obtain ⟨⟨v, hv⟩, hf⟩ := h j hj
  have e := block_of_add ad j
  refine ⟨⟨v, (World.cell?_of_block (by rw [e]; exact hk)).trans hv⟩, ?_⟩
  unfold World.frozen? at hf ⊢
  rw [e] at hf ⊢
  rw [hk]
  exact hf
theorem facts_some {S : Nat → Prop} {w : World} {A : Option Addr} {m d : Nat} {fs : List Fa} (h : FactsV S w (.slice A m d) fs) (hm : 0 < m) : ∃ ad, A = some ad := by
  obtain ⟨ys, ⟨A', c, e, hr, _⟩, _⟩ := h
  injection e with e1 e2 _
  subst e1
  rw [← e2] at hr
  obtain ⟨ad, e, _⟩ := hr.2 hm
  exact ⟨ad, e⟩
/-- a row of entries of the call's own, the first k of them written over -/
def Scr (B g N ns k : Nat) (zs : List (Value × En)) (wC w : World) : Prop :=
  (∃ cur : Array Value, Blk w g 65 cur ∧ cur.size = N ∧ ∀ j z, k ≤ j → zs[j]? = some z → cur[j * 6 + 5]? = some z.1) ∧ (∀ z ∈ zs, ∀ ad m d, z.1 = .slice (some ad) m d → 0 < m → Wri w ad (m * 2) ∧ B ≤ ad.block ∧ ad.block ≠ g) ∧ Below B wC w ∧ B ≤ g ∧ ns * 6 ≤ N
theorem Scr.fact {B g N ns k : Nat} {zs : List (Value × En)} {wC w : World} {z : Value × En} {ad : Addr} {m d i : Nat} (h : Scr B g N ns k zs wC w) (hz : z ∈ zs) (e : z.1 = .slice (some ad) m d) (hm : 0 < m) : Scr B g N ns k zs wC (over2 w (ad.add i)) := by
  obtain ⟨⟨cur, h1, h2, h3⟩, h4, h5, h6, h7⟩ := h
  obtain ⟨h8, h9, h10⟩ := h4 z hz ad m d e hm
  have hF := over2_fr w (ad.add i)
  have e2 := block_of_add ad i
  refine ⟨⟨cur, (hF.block g h1.lt fun e => h10 (by rw [e2] at e; exact e.symm)).trans h1, h2, h3⟩, fun z hz ad m d e hm => ⟨over2_wri (h4 z hz ad m d e hm).1, (h4 z hz ad m d e hm).2⟩, h5.trans ?_, h6, h7⟩
  unfold over2
  exact ((Below.refl B w).setCell (by rw [e2]; exact h9) _).setCell (by rw [e2]; exact h9) _
theorem Scr.entry {B g N ns k : Nat} {zs : List (Value × En)} {wC w : World} (h : Scr B g N ns k zs wC w) : Scr B g N ns (k + 1) zs wC (over6 w g (k * 6)) := by
  obtain ⟨⟨cur, h1, h2, h3⟩, h4, h5, h6, h7⟩ := h
  refine ⟨⟨_, (((((h1.set_ _ _).set_ _ _).set_ _ _).set_ _ _).set_ _ _).set_ _ _, by simp only [Array.size_setIfInBounds]; exact h2, fun j z hj hz => ?_⟩, fun z hz ad m d e hm => ⟨((((((h4 z hz ad m d e hm).1.set _ _).set _ _).set _ _).set _ _).set _ _).set _ _, (h4 z hz ad m d e hm).2⟩, h5.trans ?_, h6, h7⟩
  · have := h3 j z (by omega) hz
    rw [Array.getElem?_setIfInBounds_ne (by omega), Array.getElem?_setIfInBounds_ne (by omega), Array.getElem?_setIfInBounds_ne (by omega), Array.getElem?_setIfInBounds_ne (by omega), Array.getElem?_setIfInBounds_ne (by omega), Array.getElem?_setIfInBounds_ne (by omega)]
    exact this
  · unfold over6
    exact ((((((Below.refl B w).setCell h6 _).setCell h6 _).setCell h6 _).setCell h6 _).setCell h6 _).setCell h6 _
theorem scr_start {B g cap ns : Nat} {zs : List (Value × En)} {cur : Array Value} {w : World} (hd : DeepE (NewIn TD B w) w zs) (hb : B ≤ g) (hc : Blk w g 65 cur) (hs : cur.size = cap * 6) (hn : ns ≤ cap) (hx : cur.toList.take (ns * 6) = zs.flatMap enC) : Scr B g (cap * 6) ns 0 zs w w := by
  refine ⟨⟨cur, hc, hs, fun j z _ hz => ?_⟩, fun z hz ad m d e hm => ?_, Below.refl _ _, hb, Nat.mul_le_mul_right 6 hn⟩
  · have h1 := flat_at enC_len (j := 5) (by omega) hz
    rw [← hx, List.getElem?_take] at h1
    split at h1
    · rw [Array.getElem?_toList] at h1
      exact h1
    · cases h1
  · have h1 := hd z hz
    rw [e] at h1
    obtain ⟨h2, h3, cs, T, h4, h5⟩ := facts_wri h1 hm
    refine ⟨h2, h3, fun e2 => ?_⟩
    rw [e2] at h4
    unfold Blk at hc
    rw [hc] at h4
    injection h4 with h4
    injection h4 with _ h4 _
    subst h4
    exact absurd h5 (by decide)
set_option maxRecDepth 100000 in
set_option maxHeartbeats 4000000 in
theorem trackOwns_any {A : Option Addr} {n c : Nat} {rs : List Dr} {w : World} (hD : DdsV w.heap.size w A n rs) :
    Calls Try.prog 14 #[.slice A n c] w fun e w' => e = .returned (.bool true) ∧ Below w.heap.size w w' := by
  have h1 := tnew_ok lv_j w
  go_enter Try.func14, Try.ntmps14
  go_wp2_with fail
  refine h1.mono ?_
  rintro e w1 ⟨rfl, hk1, hb1⟩
  have h2 := rnew_ok lv_j w1
  go_wp2_with fail
  refine h2.mono ?_
  rintro e w2 ⟨rfl, hk2, hb2⟩
  have hP := two_new lv_j hb1 hk1 hb2 hk2
  have hb02 := below_then hb1 hb2 (Nat.le_refl _)
  clear h1 h2 hk1 hk2 hb1 hb2
  generalize w1.heap.size = gr at *
  obtain ⟨z, hz⟩ : ∃ z, w.heap.size = z := ⟨_, rfl⟩
  rw [hz] at hP hD hb02 ⊢
  go_wp2_with fail
  go_loopw [5] (fun i' wr => ∃ (k : Nat) (t' : Trk) (M : Nat), k ≤ n ∧ k ≤ 25 ∧ i' = .int .i64 k ∧ Two z M wr z gr t' t' ∧ t'.L.length ≤ 20 * k ∧ Below z w wr) (fun i' _ => 25 - (intOf i').toNat)
  case atStart => exact ⟨0, _, _, Nat.zero_le _, Nat.zero_le _, rfl, hP, Nat.le_refl _, hb02⟩
  case round =>
    clear hP hb02
    obtain ⟨k, t, M, hk, hk4, rfl, hP, hL, hbw⟩ := hrel
    by_cases hlt : k < n ∧ k < 25
    · obtain ⟨hlt, hl4⟩ := hlt
      obtain ⟨ad, ⟨x, V, m, d, Al, q, cl, ys⟩, rfl, hr, hv, c0, c1, c2, c3, c4, c5, c6, c7⟩ := (hD.below hbw).at_ hlt
      have hmeas := Lib.hid (show 25 - (k + 1) < 25 - k by omega)
      dsimp only at hv c0 c1 c2 c3 c4 c5 c6 c7
      clear hr
      have hzw := hP.zw
      -- x in its box
      have hbA : Below wr.heap.size wr (wr.alloc (.cells #[.int .i64 x.kind, .int .i64 x.idx, .int .i64 x.term, .int .i64 x.cmd.op, .int .i64 x.cmd.sess, .int .i64 x.cmd.seq, .slice V m d, .slice Al q cl] 55)) := (Below.refl _ _).alloc (Nat.le_refl _) _
      have hbx := Blk.new wr 55 #[.int .i64 x.kind, .int .i64 x.idx, .int .i64 x.term, .int .i64 x.cmd.op, .int .i64 x.cmd.sess, .int .i64 x.cmd.seq, .slice V m d, .slice Al q cl]
      obtain ⟨w1, hw1⟩ : ∃ w1, wr.alloc (.cells #[.int .i64 x.kind, .int .i64 x.idx, .int .i64 x.term, .int .i64 x.cmd.op, .int .i64 x.cmd.sess, .int .i64 x.cmd.seq, .slice V m d, .slice Al q cl] 55) = w1 := ⟨_, rfl⟩
      rw [hw1] at hbA hbx
      have x0 := hbx.cell 0
      have x1 := hbx.cell 1
      have x2 := hbx.cell 2
      have x3 := hbx.cell 3
      have x4 := hbx.cell 4
      have x5 := hbx.cell 5
      have x6 := hbx.cell 6
      have x7 := hbx.cell 7
      simp only [List.getElem?_toArray, List.getElem?_cons_zero, List.getElem?_cons_succ] at x0 x1 x2 x3 x4 x5 x6 x7
      have hv1 := hv.below (hbA.mono hzw)
      obtain ⟨hr1, hd1, hl1, hkc1, ha1⟩ := hv1.few
      have hP1 := hP.k.below hbA
      have hfew := few_tany Al q cl w1 hv.kc.1
      go_wp2_with fail
      refine hfew.mono ?_
      rintro e w1' ⟨rfl, rfl⟩
      have hq2 : min q 12 ≤ 12 := Nat.min_le_right _ _
      have hkc2 := hv.kc.2
      generalize min q 12 = q2 at *
      have hone := hd1.one
      have hgx : wr.heap.size < w1.heap.size := hbx.lt
      have hq9 : 0 + q2 ≤ 1000000000 := by omega
      have hown0 : w1.ownsRow w1.heap.size 65 6 (.slice none 0 0) 0 (([] : List (Value × En)).flatMap enC) := own_nil _ _
      clear hfew c0 c1 c2 c3 c4 c5 c6 c7
      go_wp2_with (first
        | (at_builtin; refine wpList_append_es rfl (.tmp 41) (.tmp 44) rfl w1.heap.size rfl hown0 rfl hr1 hone hq9 (Nat.le_refl _) ?_; intro A9 c9 w3 hown9 hfr9 hb9 hrow9
           simp only [Nat.zero_add, List.nil_append] at hown9 ⊢
           have hb13 := hb9
           have hbx3 := hbx.kept hb9
           have y0 := hbx3.cell 0
           have y1 := hbx3.cell 1
           have y2 := hbx3.cell 2
           have y3 := hbx3.cell 3
           have y4 := hbx3.cell 4
           have y5 := hbx3.cell 5
           have y6 := hbx3.cell 6
           have y7 := hbx3.cell 7
           simp only [List.getElem?_toArray, List.getElem?_cons_zero, List.getElem?_cons_succ] at y0 y1 y2 y3 y4 y5 y6 y7
           clear x0 x1 x2 x3 x4 x5 x6 x7 hfr9 hrow9 hr1)
        | fail)
      -- the track takes what is the call's own
      have hbY : Below w3.heap.size w3 (w3.alloc (.cells #[.int .i64 x.kind, .int .i64 x.idx, .int .i64 x.term, .int .i64 x.cmd.op, .int .i64 x.cmd.sess, .int .i64 x.cmd.seq, .slice V m d, .slice A9 q2 c9] 55)) := (Below.refl _ _).alloc (Nat.le_refl _) _
      generalize w3.alloc (.cells #[.int .i64 x.kind, .int .i64 x.idx, .int .i64 x.term, .int .i64 x.cmd.op, .int .i64 x.cmd.sess, .int .i64 x.cmd.seq, .slice V m d, .slice A9 q2 c9] 55) = wy at *
      have hbwy : Below wr.heap.size wr wy := below_then (below_then hbA hb13 (Nat.le_refl _)) hbY (Nat.le_refl _)
      have hb1y := below_then hb13 hbY (Nat.le_refl _)
      have hTy := hP.k.fresh hbwy
      have hownY := own_below hown9 hbY
      have hc9 := own_bounds hown9
      have hd9 := hd1.keep (Stay.below (S := fun j => j < z) hb1y)
      have hbxy := hbx3.kept hbY
      have hvy := hv1.below (hb1y.mono (by have := hbA.size; omega))
      have hztr := hTy.lt
      have hPlt := hP.k.lt
      have htake := twok_take x.idx x.term A9 q2 c9 (ys.take 12) hTy (by omega) (Rds.of_own hownY) hd9 (by omega) hc9.1 hc9.2 (fun _ j hj => by have := (own_fresh hownY hj).1; omega)
      rw [hl1] at htake
      obtain ⟨⟨⟨r1, r2⟩, t1⟩, hr⟩ : ∃ r, t.takeF x.idx x.term (x.L.take 12) = r := ⟨_, rfl⟩
      have hlen1 := takeF_len t x.idx x.term (x.L.take 12)
      rw [hr] at htake hlen1
      have hlen1 : t1.L.length ≤ t.L.length + 12 := Nat.le_trans hlen1 (by rw [List.length_take]; omega)
      clear y0 y1 y2 y3 y4 y5 y6 y7
      refine htake.mono ?_
      rintro e w5 ⟨rfl, hT5, hb5, hs5, hF5⟩
      have hbzy : Below z wr wy := hbwy.mono hzw
      have hbx5 : Blk w5 wr.heap.size _ _ := (hF5.block _ hbxy.lt fun h => h (.inr ⟨Nat.le_refl _, hbxy.lt⟩)).trans hbxy
      have y1 := hbx5.cell 1
      have y2 := hbx5.cell 2
      have y7 := hbx5.cell 7
      simp only [List.getElem?_toArray, List.getElem?_cons_zero, List.getElem?_cons_succ] at y1 y2 y7
      have k1 := keep_cell (gs := [wr.heap.size]) y1 (by simp)
      have k2 := keep_cell (gs := [wr.heap.size]) y2 (by simp)
      have k7 := keep_cell (gs := [wr.heap.size]) y7 (by simp)
      have hbd5 : Below w5.heap.size w5 w5.drew := (Below.refl _ _).drew
      have hv5 := (hvy.below hb5).below (hbd5.mono hT5.zw)
      have hT5d := hT5.below hbd5
      obtain ⟨hr6, hd6, hl6, hkc6, ha6⟩ := hv5.few
      have hq26 : min q 12 = q2 := by
        have e1 := hr6.len
        have e2 := RdE.len (Rds.of_own hownY)
        omega
      rw [hq26] at hr6 hkc6 ha6
      have hfew := few_tany Al q cl w5.drew hv.kc.1
      rw [hq26] at hfew
      have hrtake := twok_rtake x.idx x.term Al q2 cl (ys.take 12) hT5d (by omega) hr6 hd6 (by omega) hkc6 hkc2 ha6
      rw [hl6, hr] at hrtake
      clear htake y1 y2 y7
      go_wp2_with fail
      refine wp_region_mix (C := keepW [wr.heap.size] w5) [([0, 1, 2, 3, 4, 5, 6], 7), ([], 8)] [9, 10, 11, 12, 13] (by kernel_rfl) (by kernel_rfl) (fun _ _ _ _ e h => ⟨e.symm.trans h.1, h.2⟩) keepW_refl ?_
      refine wpSegs_step fun K1 hK1 => ?_
      simp only [pickL, List.getElem?_cons_zero, List.getElem?_cons_succ]
      repeat (go_big_quiet_step (fail))
      refine wpQuiet_nil ?_
      go_wp2_with fail
      refine hfew.mono ?_
      rintro e w6 ⟨rfl, rfl⟩
      go_wp2_with fail
      refine ⟨keepW_of (fun _ _ => rfl), hK1 _ _ ?_⟩
      refine wpSegs_step fun K2 hK2 => ?_
      simp only [pickL, List.getElem?_cons_zero, List.getElem?_cons_succ]
      repeat (go_big_quiet_step (fail))
      refine wpQuiet_nil ?_
      go_wp2_with fail
      refine hrtake.mono ?_
      rintro e w6 ⟨rfl, hT6, hb6, hs6, hF6r, hF6⟩
      have hbx6 : Blk w6 wr.heap.size _ _ := (hF6.block _ hbx5.lt fun h => h (.inr ⟨Nat.le_refl _, hbxy.lt⟩)).trans hbx5
      go_wp2_with fail
      refine ⟨keepW_of (by simp; exact hbx6.trans hbx5.symm), hK2 _ _ ?_⟩
      refine wpSegs_last ?_
      simp only [pickL, List.getElem?_cons_zero, List.getElem?_cons_succ]
      repeat (go_big_quiet_step (fail))
      refine wpQuiet_nil ?_
      -- one more is put
      have y2 := hbx6.cell 2
      have y3 := hbx6.cell 3
      have y4 := hbx6.cell 4
      have y5 := hbx6.cell 5
      have y6 := hbx6.cell 6
      simp only [List.getElem?_toArray, List.getElem?_cons_zero, List.getElem?_cons_succ] at y2 y3 y4 y5 y6
      have hv6 := hv5.below hb6
      have hput := twok_put x.term x.cmd V m d hT6 (by omega) hv6.f (by have := hv.md; omega)
      obtain ⟨⟨⟨y, r3⟩, t2⟩, hr3⟩ : ∃ r, t1.putF x.term x.cmd = r := ⟨_, rfl⟩
      have hlen2 := putF_len t1 x.term x.cmd
      rw [hr3] at hput hlen2
      have hlen2 : t2.L.length ≤ t1.L.length + 1 := hlen2
      have hlen3 : t2.L.length ≤ 20 * (k + 1) := by omega
      have hlen4 : t2.L.length ≤ 1000000 := by omega
      unfold cmdV at hput
      clear hrtake hfew
      go_wp2_with fail
      refine hput.mono ?_
      rintro e w7 ⟨vy, M7, rfl, hf7, hM7, hT7, hb7, hs7, hF7⟩
      obtain ⟨B7, m7, d7, hv7, l1, l2, l3⟩ := hf7.form
      obtain rfl : vy = _ := hv7
      have hbx7 : Blk w7 wr.heap.size _ _ := (hF7.block _ hbx6.lt fun h => h (.inr ⟨Nat.le_refl _, hbxy.lt⟩)).trans hbx6
      have z2 := hbx7.cell 2
      have z3 := hbx7.cell 3
      have z4 := hbx7.cell 4
      have z5 := hbx7.cell 5
      have z6 := hbx7.cell 6
      simp only [List.getElem?_toArray, List.getElem?_cons_zero, List.getElem?_cons_succ] at z2 z3 z4 z5 z6
      have hx7 := hbx7.lt
      have hbE : Below w7.heap.size w7 (w7.alloc (.cells #[.int .i64 y.idx, .int .i64 y.term, .int .i64 y.op, .int .i64 y.sess, .int .i64 y.seq, .slice B7 m7 d7] 65)) := (Below.refl _ _).alloc (Nat.le_refl _) _
      have hbe := Blk.new w7 65 #[.int .i64 y.idx, .int .i64 y.term, .int .i64 y.op, .int .i64 y.sess, .int .i64 y.seq, .slice B7 m7 d7]
      have hT8 := hT7.fresh hbE
      have hv8 := (hv6.below hb7).below (hbE.mono hT7.zw)
      have hf8 := hf7.move (TStay.below hbE)
      have hrput := twok_rput x.term x.cmd V m d hT8 (by omega) hv8.f (by have := hv.md; omega)
      rw [hr3] at hrput
      unfold cmdV at hrput
      unfold enV
      dsimp only
      clear hput y2 y3 y4 y5 y6
      go_wp2_with fail
      generalize w7.alloc (.cells #[.int .i64 y.idx, .int .i64 y.term, .int .i64 y.op, .int .i64 y.sess, .int .i64 y.seq, .slice B7 m7 d7] 65) = w8 at *
      have he8 := hbe.lt
      generalize hge : w7.heap.size = ge at *
      refine hrput.mono ?_
      rintro e w9 ⟨vy9, rfl, hf9, hT9, hb9z, hs9, hF9r, hF9⟩
      obtain ⟨B9, m9, d9, hv9, _, _, _⟩ := hf9.form
      obtain rfl : vy9 = _ := hv9
      have hbe9 : Blk w9 ge _ _ := (hF9.block _ he8 fun h => h (.inr ⟨Nat.le_refl _, he8⟩)).trans hbe
      have hf10 := hf8.move (hs9.sub TD_sub)
      unfold enV
      dsimp only
      clear hrput z2 z3 z4 z5 z6
      go_wp2_with fail
      have hbE9 : Below w9.heap.size w9 (w9.alloc (.cells #[.int .i64 y.idx, .int .i64 y.term, .int .i64 y.op, .int .i64 y.sess, .int .i64 y.seq, .slice B9 m9 d9] 65)) := (Below.refl _ _).alloc (Nat.le_refl _) _
      generalize w9.alloc (.cells #[.int .i64 y.idx, .int .i64 y.term, .int .i64 y.op, .int .i64 y.sess, .int .i64 y.seq, .slice B9 m9 d9] 65) = wA at *
      generalize hge2 : w9.heap.size = ge2 at *
      have hsz0 : wr.heap.size < wy.heap.size := hbxy.lt
      have hkeep : ∀ j, wr.heap.size ≤ j → j < wy.heap.size → wA.heap[j]? = wy.heap[j]? := fun j h1 h2 => by
        have s5 := hF5.size
        have s6 := hF6.size
        have s7 := hF7.size
        have s8 := hbE.size
        have s9 := hF9.size
        have i5 : w5.drew.heap.size = w5.heap.size := rfl
        have e5 := hF5.block j h2 fun h => h (.inr ⟨h1, h2⟩)
        have e6 := hF6.block j (by omega) fun h => h (.inr ⟨h1, h2⟩)
        have e7 := hF7.block j (by omega) fun h => h (.inr ⟨h1, h2⟩)
        have e8 := hbE.block j (by omega)
        have e9 := hF9.block j (by omega) fun h => h (.inl (.inr ⟨h1, h2⟩))
        have eA := hbE9.block j (by omega)
        exact ((((eA.trans e9).trans e8).trans e7).trans e6).trans e5
      have hTA := (hT9.below (w' := wA) (by rw [hge2]; exact hbE9))
      have hfA := hf10.move (TStay.below (w' := wA) (by rw [hge2]; exact hbE9))
      have hzwA := hTA.zw
      have hb0A : Below z w wA := (((((((hbw.trans hbzy).trans hb5).trans (hbd5.mono hT5.zw)).trans hb6).trans hb7).trans (hbE.mono (by rw [← hge]; exact hT7.zw))).trans hb9z).trans (hbE9.mono (by rw [← hge2]; exact hT9.zw))
      have hbeA : Blk wA ge 65 #[.int .i64 y.idx, .int .i64 y.term, .int .i64 y.op, .int .i64 y.sess, .int .i64 y.seq, .slice B7 m7 d7] := (hbE9.block ge (by have := hbe9.lt; omega)).trans hbe9
      have hzM : z ≤ M7 := Nat.le_trans hT6.zw hM7
      have hTA := hTA.facts hzM
      have hownA : ∃ xs, wA.ownsRow w1.heap.size 65 6 (.slice A9 q2 c9) q2 xs := ⟨_, own_keep hownY fun j hj hl => hkeep j (by have := (own_fresh hownY hj).1; omega) (own_fresh hownY hj).2⟩
      have hgeA : wy.heap.size ≤ ge := by
        have s5 := hF5.size
        have s6 := hF6.size
        have s7 := hF7.size
        have i5 : w5.drew.heap.size = w5.heap.size := rfl
        omega
      have hyM : wy.heap.size ≤ M7 := by
        have s5 := hF5.size
        have s6 := hF6.size
        have i5 : w5.drew.heap.size = w5.heap.size := rfl
        omega
      have hrow9 : ∀ j, rowOf A9 j → wr.heap.size ≤ j ∧ j < wy.heap.size := fun j hj => ⟨by have := (own_fresh hownY hj).1; omega, (own_fresh hownY hj).2⟩
      clear hf7 hf8 hf9 hf10 hbe hbe9 hT5 hT6 hT7 hT8 hT9 hF5 hF6 hF7 hF9 hF6r hF9r hs5 hs6 hs7 hs9 hkeep hv1 hv5 hv6 hv8 hvy hown9 hown0 hownY hbx hbx3 hbx5 hbx6 hbx7 hbxy hP1 hTy hT5d k1 k2 k7 hbd5 hbE hbE9 hd1 hd6 hd9 hone hr6 ha1 ha6 hl1 hl6 hr hr3
      go_loopw [17] (fun i' wi => ∃ k' : Nat, k' ≤ q2 ∧ i' = .int .i64 k' ∧ (∃ xs, wi.ownsRow w1.heap.size 65 6 (.slice A9 q2 c9) q2 xs) ∧ Fr (rowOf A9) wA wi) (fun i' _ => q2 - (intOf i').toNat)
      case atStart => exact ⟨0, Nat.zero_le _, rfl, hownA, Fr.refl _ _⟩
      case round =>
        clear hownA
        obtain ⟨k', hk', rfl, ⟨xs, hown⟩, hFr⟩ := hrel
        rename World => wi
        by_cases hlk : k' < q2
        · rcases hown.2 with ⟨hnil, h0⟩ | ⟨g, cap, cur, hsl, hgb, hcur, hnc, hcm, hcs, hxs⟩
          · omega
          · injection hsl with hA9 _ hcc
            subst hA9
            subst hcc
            have hmeas' := Lib.hid (show q2 - (k' + 1) < q2 - k' by omega)
            have hBl : Blk wi g 65 cur := hcur
            have hlt6 : ∀ j, j < 6 → ∃ v, wi.cell? ⟨g, k' * 6 + j, none⟩ = some v := fun j hj => ⟨_, (hBl.cell _).trans (Array.getElem?_eq_getElem (show k' * 6 + j < cur.size by omega))⟩
            obtain ⟨v0, c0⟩ := hlt6 0 (by omega)
            obtain ⟨v1, c1⟩ := hlt6 1 (by omega)
            obtain ⟨v2, c2⟩ := hlt6 2 (by omega)
            obtain ⟨v3, c3⟩ := hlt6 3 (by omega)
            obtain ⟨v4, c4⟩ := hlt6 4 (by omega)
            obtain ⟨v5, c5⟩ := hlt6 5 (by omega)
            rw [Nat.add_zero] at c0
            have f0 := hBl.free (k' * 6)
            have f1 := hBl.free (k' * 6 + 1)
            have f2 := hBl.free (k' * 6 + 2)
            have f3 := hBl.free (k' * 6 + 3)
            have f4 := hBl.free (k' * 6 + 4)
            have f5 := hBl.free (k' * 6 + 5)
            have hfin := Lib.hid (over6_own (k := k' * 6) ⟨xs, hown⟩)
            have hfin2 : Fr (rowOf (some ⟨g, 0, none⟩)) wA (over6 wi g (k' * 6)) := hFr.trans ((over6_fr wi g (k' * 6)).mono fun j hj => ⟨_, rfl, hj.symm⟩) fun _ h => .inl h
            clear hBl hlt6 hcur hcs hxs hown hFr
            go_wp2_with fail
            exact ⟨⟨k' + 1, hlk, by go_num, hfin.out, hfin2⟩, by simp [intOf]; have := hmeas'.out; omega⟩
        · have hWr := hTA.write (hFr.mono fun j hj => .inl (.inl (.inr (hrow9 j hj))))
          obtain ⟨hTi, hbAi⟩ := hWr
          have hbei : Blk wi ge _ _ := (hFr.block ge hbeA.lt fun hj => by have := (hrow9 _ hj).2; omega).trans hbeA
          clear hown hTA
          have z5 := hbei.cell 5
          simp only [List.getElem?_toArray, List.getElem?_cons_zero, List.getElem?_cons_succ] at z5
          have hwri : ∀ a7, B7 = some a7 → 0 < m7 → Wri wi a7 (m7 * 2) ∧ M7 ≤ a7.block ∧ NewIn TD M7 wA a7.block := fun a7 e h0 => by
            subst e
            obtain ⟨g1, g2, cs, T, g3, g4⟩ := facts_wri hfA h0
            have hl7 := lt_of_heap g3
            exact ⟨g1.keep (hFr.block _ hl7 fun hj => by have := (hrow9 _ hj).2; omega), g2, g2, cs, (), T, g3, g4⟩
          have hsome : 0 < m7 → ∃ a7, B7 = some a7 := fun h0 => facts_some hfA h0
          have hm7 : m7 ≤ 9223372036854775807 := Nat.le_trans (Nat.le_trans l1 l2) (by unfold maxLen; omega)
          go_wp2_with fail
          go_loopw [18] (fun i' wj => ∃ k' : Nat, k' ≤ m7 ∧ i' = .int .i64 k' ∧ (∀ a7, B7 = some a7 → 0 < m7 → Wri wj a7 (m7 * 2)) ∧ Fr (NewIn TD M7 wA) wi wj) (fun i' _ => m7 - (intOf i').toNat)
          case atStart => exact ⟨0, Nat.zero_le _, rfl, fun a7 h1 h2 => (hwri a7 h1 h2).1, Fr.refl _ _⟩
          case round =>
            obtain ⟨k', hk', rfl, hWj, hFj⟩ := hrel
            rename World => wj
            have hbej : Blk wj ge _ _ := (hFj.block ge hbei.lt fun hj => by obtain ⟨_, cs, _, T, e1, e2⟩ := hj; exact blk_apart hbeA e1 (fun e => absurd (e ▸ e2) (by decide)) rfl).trans hbei
            have y5 := hbej.cell 5
            simp only [List.getElem?_toArray, List.getElem?_cons_zero, List.getElem?_cons_succ] at y5
            by_cases hlk : k' < m7
            · obtain ⟨a7, hB7⟩ := hsome (by omega)
              subst hB7
              have hW := hWj a7 rfl (by omega)
              obtain ⟨v0, v1, c0, c1, f0, f1, c2⟩ := wri_two hW hlk
              have c2 := c2 (.slice none 0 0)
              have hmeas' := Lib.hid (show m7 - (k' + 1) < m7 - k' by omega)
              have hfin := Lib.hid (over2_wri (p := a7.add (k' * 2)) hW)
              have hfin2 := Lib.hid (hFj.trans ((over2_fr wj (a7.add (k' * 2))).mono (X' := NewIn TD M7 wA) fun j hj => by rw [hj, block_of_add]; exact (hwri a7 rfl (by omega)).2.2) fun _ h => .inl h)
              clear hWj hW
              go_wp2_with fail
              exact ⟨⟨k' + 1, hlk, by go_num, fun a e _ => by injection e with e; subst e; exact hfin.out, hfin2.out⟩, by simp [intOf]; have := hmeas'.out; omega⟩
            · obtain ⟨hTj, hbj⟩ := hTi.write (hFj.mono fun j hj => .inr hj)
              have hP2 := hTj.two
              have hzwj := hTj.zw
              obtain ⟨S, At, n1, ct, zs, A2, n2, c2', zs2, h1, h2, _⟩ := id hP2
              have hsl := tslice_any 1 100 h1 (h1.nlen hlen4)
              have hk7 : ¬ (k' : Int) < m7 := by omega
              clear hWj
              go_wp2_with fail
              refine hsl.mono ?_
              rintro e wC ⟨AS, nS, cS, zS, rfl, hES, hbS⟩
              have hPC := hP2.below hbS
              have hb0C := ((hb0A.trans hbAi).trans hbj).trans (hbS.mono hzwj)
              obtain ⟨hownS, hdS, hmS⟩ := hES
              have hlS := flat_len enC_len zS
              rw [hownS.1] at hlS
              have hboS := own_bounds hownS
              clear hsl h1 h2
              rcases hownS.2 with ⟨hnil, h0⟩ | ⟨gS, capS, curS, hslS, hgS, hcurS, hncS, hcmS, hcsS, hxS⟩
              · injection hnil with e1 e2 e3
                subst e1
                subst e3
                subst h0
                go_wp2_with fail
                go_loopw [20] (fun i' wi => i' = .int .i64 0 ∧ wi = wC) (fun _ _ => 0)
                case atStart => exact ⟨rfl, rfl⟩
                case round =>
                  obtain ⟨rfl, rfl⟩ := hrel
                  go_wp2_with fail
                  go_roundw
                  case rel => exact ⟨k + 1, _, _, hlt, hl4, by go_num, hPC, hlen3, hb0C⟩
                  case measure => simp [intOf]; have := hmeas.out; omega
              · injection hslS with e1 _ e3
                subst e1
                subst e3
                obtain ⟨N, hScr⟩ : ∃ N, Scr wj.heap.size gS N nS 0 zS wC wC := ⟨_, scr_start hdS hgS hcurS hcsS hncS hxS⟩
                have hzl : zS.length = nS := by omega
                have hnS : nS ≤ 9223372036854775807 := Nat.le_trans (Nat.le_trans hboS.1 hboS.2) (by unfold maxLen; omega)
                clear hcurS hxS hcsS hownS
                go_wp2_with fail
                go_loopw [20] (fun i' wi => ∃ k2 : Nat, k2 ≤ nS ∧ i' = .int .i64 k2 ∧ Scr wj.heap.size gS N nS k2 zS wC wi) (fun i' _ => nS - (intOf i').toNat)
                case atStart => exact ⟨0, Nat.zero_le _, rfl, hScr⟩
                case round =>
                  clear hScr
                  obtain ⟨k2, hk2, rfl, hScr⟩ := hrel
                  rename World => wk
                  by_cases hlk2 : k2 < nS
                  · have hzz : zS[k2]? = some (zS[k2]'(by omega)) := List.getElem?_eq_getElem _
                    obtain ⟨zz, hzq⟩ : ∃ zz, zz = zS[k2]'(by omega) := ⟨_, rfl⟩
                    rw [← hzq] at hzz
                    have hzm := List.mem_of_getElem? hzz
                    have hfz := hdS _ hzm
                    obtain ⟨Bk, mk, dk, hvk, lk1, lk2, lk3⟩ := hfz.form
                    have hmk : mk ≤ 9223372036854775807 := Nat.le_trans (Nat.le_trans lk1 lk2) (by unfold maxLen; omega)
                    rw [hvk] at hfz
                    have hsk := fun h0 : 0 < mk => facts_some hfz h0
                    have hmeas2 := Lib.hid (show nS - (k2 + 1) < nS - k2 by omega)
                    clear hfz hzq
                    go_wp2_with fail
                    go_loopw [21] (fun j' wl => ∃ j2 : Nat, j2 ≤ mk ∧ j' = .int .i64 j2 ∧ Scr wj.heap.size gS N nS k2 zS wC wl) (fun j' _ => mk - (intOf j').toNat)
                    case atStart => exact ⟨0, Nat.zero_le _, rfl, hScr⟩
                    case round =>
                      clear hScr
                      obtain ⟨j2, hj2, rfl, hScr⟩ := hrel
                      rename World => wl
                      obtain ⟨⟨cur, g1, g2, g3⟩, g4, g5, g6, g7⟩ := id hScr
                      have cS5 := (g1.cell (k2 * 6 + 5)).trans (g3 k2 zz (Nat.le_refl _) hzz)
                      rw [hvk] at cS5
                      by_cases hlj : j2 < mk
                      · obtain ⟨ak, hak⟩ := hsk (by omega)
                        subst hak
                        obtain ⟨v0, v1, c0, c1, f0, f1, c2⟩ := wri_two (g4 zz hzm ak mk dk hvk (by omega)).1 hlj
                        have c2 := c2 (.slice none 0 0)
                        have hfin := Lib.hid (hScr.fact (i := j2 * 2) hzm hvk (by omega))
                        have hmeas3 := Lib.hid (show mk - (j2 + 1) < mk - j2 by omega)
                        clear g1 g2 g3 g4 g5 hScr
                        go_wp2_with fail
                        exact ⟨⟨j2 + 1, hlj, by go_num, hfin.out⟩, by simp [intOf]; have := hmeas3.out; omega⟩
                      · have hlt6 : ∀ j, j < 6 → ∃ v, wl.cell? ⟨gS, k2 * 6 + j, none⟩ = some v := fun j hj => ⟨_, (g1.cell _).trans (Array.getElem?_eq_getElem (show k2 * 6 + j < cur.size by omega))⟩
                        obtain ⟨v0, c0⟩ := hlt6 0 (by omega)
                        obtain ⟨v1, c1⟩ := hlt6 1 (by omega)
                        obtain ⟨v2, c2⟩ := hlt6 2 (by omega)
                        obtain ⟨v3, c3⟩ := hlt6 3 (by omega)
                        obtain ⟨v4, c4⟩ := hlt6 4 (by omega)
                        rw [Nat.add_zero] at c0
                        have f0 := g1.free (k2 * 6)
                        have f1 := g1.free (k2 * 6 + 1)
                        have f2 := g1.free (k2 * 6 + 2)
                        have f3 := g1.free (k2 * 6 + 3)
                        have f4 := g1.free (k2 * 6 + 4)
                        have f5 := g1.free (k2 * 6 + 5)
                        have hfin := Lib.hid hScr.entry
                        have hlj' : ¬ (j2 : Int) < mk := by omega
                        clear g1 g2 g3 g4 g5 hScr hlt6
                        go_wp2_with fail
                        go_roundw
                        case rel => exact ⟨k2 + 1, hlk2, by go_num, hfin.out⟩
                        case measure => simp [intOf]; have := hmeas2.out; omega
                  · have hlk2' : ¬ (k2 : Int) < nS := by omega
                    have hbC := hScr.2.2.1
                    go_wp2_with fail
                    go_roundw
                    case rel => exact ⟨k + 1, _, _, hlt, hl4, by go_num, hP2.below (hbS.trans hbC), hlen3, ((hb0A.trans hbAi).trans hbj).trans ((hbS.trans hbC).mono hzwj)⟩
                    case measure => simp [intOf]; have := hmeas.out; omega
    · rcases (show ¬ k < n ∨ (k < n ∧ ¬ k < 25) by omega) with h | ⟨h, h'⟩
      all_goals
        clear hlt
        have hlike := tlike_any hP (by omega)
        go_wp2_with fail
        refine hlike.mono ?_
        rintro e w4 ⟨rfl, hb4⟩
        go_wp2_with fail
        refine (tlives_any w4).mono ?_
        rintro e w5 ⟨rfl, hb5⟩
        go_wp2_with fail
        go_ret
        exact ⟨rfl, by rw [hz]; exact (hbw.trans (hb4.mono hP.zw)).trans (hb5.mono (by have := hb4.size; have := hP.zw; omega))⟩
end Go.Proofs.Ytojmkbhihnnmaaa
