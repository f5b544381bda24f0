/-
  The track: Put.
-/
import Derived.Test.YtojmkbhihnnmaaaT15
namespace Go.Proofs.Ytojmkbhihnnmaaa
open Go.RowKit

theorem keepW_two {a b : Nat} {w w' : World} (h1 : w'.heap[a]? = w.heap[a]?) (h2 : w'.heap[b]? = w.heap[b]?) : keepW [a, b] w w' := keepW_of fun q hq => by
  simp only [List.mem_cons, List.not_mem_nil, or_false] at hq
  rcases hq with rfl | rfl
  · exact h1
  · exact h2
/-- what an act leaves of a track: a track, its facts in blocks that it had or that are new (below M) -/
def PostT (B : Nat) (S : Nat → Prop) (w : World) (g : Nat) (A : Option Addr) (t' : Trk) (M : Nat) (w' : World) : Prop :=
  ∃ (A' : Option Addr) (n' c' : Nat) (zs' : List (Value × En)) (S' : Nat → Prop), TrkIn B S' w' g t' A' n' c' zs' ∧ (∀ j, S' j → S j ∨ (w.heap.size ≤ j ∧ j < M)) ∧ (∀ j, rowOf A' j → rowOf A j ∨ w.heap.size ≤ j) ∧ M ≤ w'.heap.size ∧ Fr (fun j => j = g ∨ rowOf A j) w w'
section
variable {B : Nat} {S : Nat → Prop} {w w' : World} {g n c : Nat} {t : Trk} {A : Option Addr} {zs : List (Value × En)}
theorem PostT.same (h : TrkIn B S w g t A n c zs) (hb : Below w.heap.size w w') : PostT B S w g A t w'.heap.size w' :=
  ⟨A, n, c, zs, S, h.below hb, fun _ h => .inl h, fun _ h => .inl h, Nat.le_refl _, Fr.of_below hb⟩
theorem putF_full {tm : Int} {x : En} (h : 1099511627776 ≤ t.lastF.1) : t.putF tm x = ((En0, 41), t) := if_pos h
theorem putF_arg {tm : Int} {x : En} (h : ¬ 1099511627776 ≤ t.lastF.1) (h2 : tm < t.lastF.2 ∨ plainB (mkE (t.lastF.1 + 1) tm x) = false) : t.putF tm x = ((En0, 1), t) := by unfold Trk.putF; rw [if_neg h, if_pos h2]
theorem putF_ok {tm : Int} {x : En} (h : ¬ 1099511627776 ≤ t.lastF.1) (h1 : ¬ tm < t.lastF.2) (h2 : plainB (mkE (t.lastF.1 + 1) tm x) = true) : t.putF tm x = ((mkE (t.lastF.1 + 1) tm x, 0), { t with L := t.L ++ [mkE (t.lastF.1 + 1) tm x] }) := by
  unfold Trk.putF
  rw [if_neg h, if_neg (by rintro (h' | h'); exact h1 h'; rw [h2] at h'; cases h')]
theorem TrkIn.moveT {X : Nat → Prop} (h : TrkIn B S w g t A n c zs) (hF : Fr X w w') (hg : ¬ X g) (hr : ∀ j, rowOf A j → ¬ X j) (hT : TStay TD w w') : TrkIn B S w' g t A n c zs :=
  h.keep fun j hj hl => by
    rcases hj with rfl | hj | hj
    · exact hF.block _ hl hg
    · exact hF.block _ hl (hr j hj)
    · exact hT j (h.s j hj)
theorem Fr.set6 (w : World) (g : Nat) (z : Value × En) : Fr (fun j => j = g) w (set6 w g z) :=
  have k : ∀ j, j = g → j = g ∨ w.heap.size ≤ j := fun _ h => .inl h
  have e : ∀ {a b : World}, Fr (fun j => j = g) w a → Fr (fun j => j = g) a b → Fr (fun j => j = g) w b := fun h h' => h.trans h' k
  e (e (e (e (e (Fr.set g 0 _) (Fr.set g 1 _)) (Fr.set g 2 _)) (Fr.set g 3 _)) (Fr.set g 4 _)) (Fr.set g 5 _)
/-- another row is laid into a track -/
theorem TrkIn.setRow {S7 : Nat → Prop} {w7 : World} {A7 : Option Addr} {n7 c7 : Nat} {zs7 : List (Value × En)} {L7 : List En} (hg : B ≤ g) (hk : Blk w7 g 93 #[.int .i64 t.index, .int .i64 t.term, .slice A n c])
    (ho : w7.ownsRow B 65 6 (.slice A7 n7 c7) n7 (zs7.flatMap enC)) (hd : DeepE S7 w7 zs7) (hl : zs7.map (·.2) = L7) (hi : Trk.Inv { t with L := L7 }) (hs : ∀ j, S7 j → TyIn TD w7 j) :
    TrkIn B S7 (w7.setCell ⟨g, 2, none⟩ (.slice A7 n7 c7)) g { t with L := L7 } A7 n7 c7 zs7 where
  b := by simpa using hk.set_ 2 (.slice A7 n7 c7)
  o := own_keep ho fun j hj hl => (Fr.set g 2 _).block j hl fun e => by
    obtain ⟨_, _, cs, h⟩ := own_row_blk ho A7 c7 rfl j hj
    rw [e] at h
    unfold Blk at hk
    rw [hk] at h
    injection h with h
    injection h with _ h
    exact absurd h (by decide)
  d := hd.keep fun j hj hl => TStay.set (L := TD) hk (by decide) j (hs j hj)
  l := hl
  i := hi
  g := hg
  s := fun j hj => (hs j hj).move (TStay.set hk (by decide))
set_option maxRecDepth 100000 in
theorem tput_any (S2 : Nat → Prop) (tm : Int) (x : En) (V : Option Addr) (m d : Nat) (h : TrkIn B S w g t A n c zs) (hn : n ≤ 1000000) (hB : B ≤ w.heap.size) (hf : FactsV S2 w (.slice V m d) x.facts) (hm : m ≤ maxLen) (hS2 : ∀ j, S2 j → ¬ (j = g ∨ rowOf A j)) :
    Calls Try.prog 44 #[.pointer (some ⟨g, 0, none⟩), .int .i64 tm, cmdV x (.slice V m d)] w fun e w' => ∃ vy, e = .returned (.tuple #[enV (t.putF tm x).1.1 vy, .int .i64 (t.putF tm x).1.2]) ∧ ∃ M, FactsV (NewIn TD M w') w' vy (t.putF tm x).1.1.facts ∧ w.heap.size ≤ M ∧ PostT B S w g A (t.putF tm x).2 M w' := by
  have hla := h.i.last
  have hb := h.i.b
  have hr := h.i.room
  rw [← h.len.1] at hla hr
  have hlb := h.i.lastB
  have hfull := Lib.hid (fun h1 => putF_full (t := t) (tm := tm) (x := x) h1)
  have harg := Lib.hid (fun h1 h2 => putF_arg (t := t) (tm := tm) (x := x) h1 h2)
  have hok := Lib.hid (fun h1 h2 h3 => putF_ok (t := t) (tm := tm) (x := x) h1 h2 h3)
  have hput := Lib.hid (fun p q r => h.i.put (x := mkE (t.lastF.1 + 1) tm x) p q r)
  obtain ⟨hbA, hk1, hk2⟩ := two_box w 52 65 #[.int .i64 x.op, .int .i64 x.sess, .int .i64 x.seq, .slice V m d] #[.int .i64 0, .int .i64 0, .int .i64 0, .int .i64 0, .int .i64 0, .slice none 0 0]
  have hA := h.below hbA
  have hfA := hf.keep (Stay.below (S := S2) hbA)
  have hend := tend_below hA hn
  obtain ⟨l2, hl2⟩ : ∃ l2, t.lastF.2 = l2 := ⟨_, rfl⟩
  obtain ⟨l1, hl1⟩ : ∃ l1, t.lastF.1 = l1 := ⟨_, rfl⟩
  rw [hl1] at hla hfull harg hok hput
  rw [hl2] at hlb harg hok hput
  rw [hl1, hl2] at hend
  have hl1b : 0 ≤ l1 ∧ l1 ≤ 1099511627776 := by omega
  clear hl1 hl2 hla hr
  unfold cmdV
  go_enter Try.func44, Try.ntmps44
  go_wp2_with fail
  generalize (w.alloc (.cells #[.int .i64 x.op, .int .i64 x.sess, .int .i64 x.seq, .slice V m d] 52)).alloc (.cells #[.int .i64 0, .int .i64 0, .int .i64 0, .int .i64 0, .int .i64 0, .slice none 0 0] 65) = w1 at *
  refine hend.mono ?_
  rintro e w2 ⟨rfl, hb2⟩
  clear hend
  have h2 := hA.below hb2
  have hf2 := hfA.keep (Stay.below (S := S2) hb2)
  have hb02 := below_then hbA hb2 (Nat.le_refl _)
  have b1 := hk1.kept hb2
  have b2 := hk2.kept hb2
  have c0 := b1.cell 0
  have c1 := b1.cell 1
  have c2 := b1.cell 2
  have c3 := b1.cell 3
  simp only [List.getElem?_toArray, List.getElem?_cons_zero, List.getElem?_cons_succ] at c0 c1 c2 c3
  have hs1 := b2.lt
  clear hA hfA hk1 hk2 hb2 b1
  have hbA3 : Below w2.heap.size w2 (w2.alloc (.cells #[.int .i64 (l1 + 1), .int .i64 tm, .int .i64 x.op, .int .i64 x.sess, .int .i64 x.seq, .slice V m d] 65)) := (Below.refl _ _).alloc (Nat.le_refl _) _
  have b3 := Blk.new w2 65 #[.int .i64 (l1 + 1), .int .i64 tm, .int .i64 x.op, .int .i64 x.sess, .int .i64 x.seq, .slice V m d]
  have b2 := b2.kept hbA3
  have h3 := h2.below hbA3
  have hf3 := hf2.keep (Stay.below (S := S2) hbA3)
  have hb03 := below_then hb02 hbA3 (Nat.le_refl _)
  go_upto_block 0 with fail
  generalize hw3 : w2.alloc (.cells #[.int .i64 (l1 + 1), .int .i64 tm, .int .i64 x.op, .int .i64 x.sess, .int .i64 x.seq, .slice V m d] 65) = w3 at *
  clear hw3 hbA3 h2 hf2 c0 c1 c2 c3
  have hx3 : w.heap.size + 1 ≠ w2.heap.size := by omega
  have hx4 : w.heap.size ≤ w2.heap.size := by omega
  generalize w2.heap.size = g3 at *
  clear hb02 hs1
  have hgl := h.b.lt
  have hrl : ∀ j, rowOf A j → j < w.heap.size := fun j hj => (own_row_blk h.o A c rfl j hj).1
  have fin : ∀ (w5 w6 : World) (y : En) (v : Value), Below w.heap.size w w5 → Blk w5 (w.heap.size + 1) 65 #[.int .i64 0, .int .i64 0, .int .i64 0, .int .i64 0, .int .i64 0, .slice none 0 0] → set6 w5 (w.heap.size + 1) (v, y) = w6 →
      Blk w6 (w.heap.size + 1) 65 #[.int .i64 y.idx, .int .i64 y.term, .int .i64 y.op, .int .i64 y.sess, .int .i64 y.seq, v] ∧ TStay TD w5 w6 ∧ Below w.heap.size w w6 ∧ Fr (fun j => j = w.heap.size + 1) w5 w6 := fun w5 w6 y v hb hk e => by
    subst e
    obtain ⟨s1, s2, s3⟩ := set6_spec (v, y) hk rfl
    exact ⟨s1, s2 _ (by decide), hb.trans (s3 _ (by omega)), Fr.set6 _ _ _⟩
  have finE : ∀ (w5 w6 : World) (k : Int), TrkIn B S w5 g t A n c zs → Below w.heap.size w w5 → Blk w5 (w.heap.size + 1) 65 #[.int .i64 0, .int .i64 0, .int .i64 0, .int .i64 0, .int .i64 0, .slice none 0 0] → set6 w5 (w.heap.size + 1) (.slice none 0 0, En0) = w6 → t.putF tm x = ((En0, k), t) →
      Blk w6 (w.heap.size + 1) 65 #[.int .i64 0, .int .i64 0, .int .i64 0, .int .i64 0, .int .i64 0, .slice none 0 0] ∧
      ∃ vy, Ending.returned (.tuple #[.agg #[.int .i64 0, .int .i64 0, .int .i64 0, .int .i64 0, .int .i64 0, .slice none 0 0], .int .i64 k]) = .returned (.tuple #[enV (t.putF tm x).1.1 vy, .int .i64 (t.putF tm x).1.2]) ∧ ∃ M, FactsV (NewIn TD M w6) w6 vy (t.putF tm x).1.1.facts ∧ w.heap.size ≤ M ∧ PostT B S w g A (t.putF tm x).2 M w6 := fun w5 w6 k h5 hb hk e he => by
    obtain ⟨s1, s2, s3, s4⟩ := fin w5 w6 En0 _ hb hk e
    rw [he]
    refine ⟨s1, .slice none 0 0, rfl, w6.heap.size, FactsV.nil _ _, s3.size, A, n, c, zs, S, ?_, fun _ h => .inl h, fun _ h => .inl h, Nat.le_refl _, Fr.of_below s3⟩
    exact h5.moveT s4 (by omega) (fun j hj => by have := hrl j hj; omega) s2
  have d0 := b2.cell 0
  have d1 := b2.cell 1
  have d2 := b2.cell 2
  have d3 := b2.cell 3
  have d4 := b2.cell 4
  have d5 := b2.cell 5
  have f0 := b2.free 0
  have f1 := b2.free 1
  have f2 := b2.free 2
  have f3 := b2.free 3
  have f4 := b2.free 4
  have f5 := b2.free 5
  simp only [List.getElem?_toArray, List.getElem?_cons_zero, List.getElem?_cons_succ] at d0 d1 d2 d3 d4 d5
  by_cases i1 : 1099511627776 ≤ l1
  · have he := hfull.out i1
    have hfin := finE w3 _ 41 h3 hb03 b2 rfl he
    have hfin := Lib.hid hfin
    clear he finE fin hrl
    go_wp2_with fail
    replace hfin := hfin.out
    show bodyPost _ _ _ _ _ (set6 w3 (w.heap.size + 1) (.slice none 0 0, En0))
    generalize set6 w3 (w.heap.size + 1) (.slice none 0 0, En0) = w9 at *
    obtain ⟨q, hfin⟩ := hfin
    have r0 := q.cell 0
    have r1 := q.cell 1
    have r2 := q.cell 2
    have r3 := q.cell 3
    have r4 := q.cell 4
    have r5 := q.cell 5
    simp only [List.getElem?_toArray, List.getElem?_cons_zero, List.getElem?_cons_succ] at r0 r1 r2 r3 r4 r5
    exact bodyPost_ret (v := .tuple #[.agg #[.int .i64 0, .int .i64 0, .int .i64 0, .int .i64 0, .int .i64 0, .slice none 0 0], .int .i64 41]) (by simp [results, Try.results44, go_sem, r0, r1, r2, r3, r4, r5]) rfl hfin
  · by_cases i2 : tm < l2
    · have he := harg.out (by omega) (.inl i2)
      have hfin := finE w3 _ 1 h3 hb03 b2 rfl he
      have hfin := Lib.hid hfin
      clear he finE fin hrl
      go_wp2_with fail
      replace hfin := hfin.out
      show bodyPost _ _ _ _ _ (set6 w3 (w.heap.size + 1) (.slice none 0 0, En0))
      generalize set6 w3 (w.heap.size + 1) (.slice none 0 0, En0) = w9 at *
      obtain ⟨q, hfin⟩ := hfin
      have r0 := q.cell 0
      have r1 := q.cell 1
      have r2 := q.cell 2
      have r3 := q.cell 3
      have r4 := q.cell 4
      have r5 := q.cell 5
      simp only [List.getElem?_toArray, List.getElem?_cons_zero, List.getElem?_cons_succ] at r0 r1 r2 r3 r4 r5
      exact bodyPost_ret (v := .tuple #[.agg #[.int .i64 0, .int .i64 0, .int .i64 0, .int .i64 0, .int .i64 0, .slice none 0 0], .int .i64 1]) (by simp [results, Try.results44, go_sem, r0, r1, r2, r3, r4, r5]) rfl hfin
    · have hcall := tplain_any S2 (mkE (l1 + 1) tm x) V m d w3 hf3 hm
      obtain ⟨bp, hbp⟩ : ∃ bp, plainB (mkE (l1 + 1) tm x) = bp := ⟨_, rfl⟩
      rw [hbp] at hcall
      unfold enV mkE at hcall
      dsimp only at hcall
      have a0 := b3.cell 0
      have a1 := b3.cell 1
      have a2 := b3.cell 2
      have a3 := b3.cell 3
      have a4 := b3.cell 4
      have a5 := b3.cell 5
      simp only [List.getElem?_toArray, List.getElem?_cons_zero, List.getElem?_cons_succ] at a0 a1 a2 a3 a4 a5
      go_wp2_with fail
      refine hcall.mono ?_
      rintro e w4 ⟨rfl, hb4⟩
      have b2 := b2.kept hb4
      have b3 := b3.kept hb4
      have h4 := h3.below hb4
      have hf4 := hf3.keep (Stay.below (S := S2) hb4)
      have hb04 := below_then hb03 hb4 (Nat.le_refl _)
      clear h3 hf3 hb4 hb03 hcall d0 d1 d2 d3 d4 d5 f0 f1 f2 f3 f4 f5 a0 a1 a2 a3 a4 a5
      have d0 := b2.cell 0
      have d1 := b2.cell 1
      have d2 := b2.cell 2
      have d3 := b2.cell 3
      have d4 := b2.cell 4
      have d5 := b2.cell 5
      have f0 := b2.free 0
      have f1 := b2.free 1
      have f2 := b2.free 2
      have f3 := b2.free 3
      have f4 := b2.free 4
      have f5 := b2.free 5
      have a0 := b3.cell 0
      have a1 := b3.cell 1
      have a2 := b3.cell 2
      have a3 := b3.cell 3
      have a4 := b3.cell 4
      have a5 := b3.cell 5
      simp only [List.getElem?_toArray, List.getElem?_cons_zero, List.getElem?_cons_succ] at d0 d1 d2 d3 d4 d5 a0 a1 a2 a3 a4 a5
      cases bp with
      | false =>
        have he := harg.out (by omega) (.inr hbp)
        have hfin := finE w4 _ 1 h4 hb04 b2 rfl he
        have hfin := Lib.hid hfin
        clear he finE fin hrl hbp
        go_wp2_with fail
        replace hfin := hfin.out
        show bodyPost _ _ _ _ _ (set6 w4 (w.heap.size + 1) (.slice none 0 0, En0))
        generalize set6 w4 (w.heap.size + 1) (.slice none 0 0, En0) = w9 at *
        obtain ⟨q, hfin⟩ := hfin
        have r0 := q.cell 0
        have r1 := q.cell 1
        have r2 := q.cell 2
        have r3 := q.cell 3
        have r4 := q.cell 4
        have r5 := q.cell 5
        simp only [List.getElem?_toArray, List.getElem?_cons_zero, List.getElem?_cons_succ] at r0 r1 r2 r3 r4 r5
        exact bodyPost_ret (v := .tuple #[.agg #[.int .i64 0, .int .i64 0, .int .i64 0, .int .i64 0, .int .i64 0, .slice none 0 0], .int .i64 1]) (by simp [results, Try.results44, go_sem, r0, r1, r2, r3, r4, r5]) rfl hfin
      | true =>
        have he := Lib.hid (hok.out (by omega) (by omega) hbp)
        have hsm := plain_small hbp
        have hbp := Lib.hid hbp
        have hcall := own_any S2 (mkE (l1 + 1) tm x) V m d w4 hf4 hsm
        unfold enV mkE at hcall
        dsimp only at hcall
        have kg := keep_cell (gs := [g, g3]) h4.cells.2.2 (by simp)
        have k0 := keep_cell (gs := [g, g3]) a0 (by simp)
        have k1 := keep_cell (gs := [g, g3]) a1 (by simp)
        have k2 := keep_cell (gs := [g, g3]) a2 (by simp)
        have k3 := keep_cell (gs := [g, g3]) a3 (by simp)
        have k4 := keep_cell (gs := [g, g3]) a4 (by simp)
        have k5 := keep_cell (gs := [g, g3]) a5 (by simp)
        have hgl4 := h4.b.lt
        have hgl3 := b3.lt
        have hgs : ∀ q ∈ [g, g3], q < w4.heap.size := by simp; exact ⟨hgl4, hgl3⟩
        clear finE d0 d1 d2 d3 d4 d5 f0 f1 f2 f3 f4 f5 hfull harg hok
        have hcall : Calls Try.prog 71 #[.agg #[.int .i64 (l1 + 1), .int .i64 tm, .int .i64 x.op, .int .i64 x.sess, .int .i64 x.seq, .slice V m d]] w4.drew fun e w' => ∃ A' c', e = .returned (.agg #[.int .i64 (l1 + 1), .int .i64 tm, .int .i64 x.op, .int .i64 x.sess, .int .i64 x.seq, .slice A' m c']) ∧ FactsV (NewIn TD w4.heap.size w') w' (.slice A' m c') x.facts ∧ Below w4.heap.size w4 w' :=
          (own_any S2 (mkE (l1 + 1) tm x) V m d w4.drew hf4 hsm).mono fun e w' h => by
            obtain ⟨A', c', h1, h2, h3⟩ := h
            exact ⟨A', c', h1, h2, (below_drewN (Below.refl w4.heap.size w4) 1).trans h3⟩
        clear a0 a1 a2 a3 a4 a5
        go_wp2_with fail
        refine wp_region_mixE (C := keepW [g, g3] w4) [([0, 1, 2, 3, 4, 5], 6), ([], 7), ([], 8)] ([9, 10], 11) (by kernel_rfl) (by kernel_rfl) (fun _ _ _ _ e h => ⟨e.symm.trans h.1, h.2⟩) keepW_refl ?_
        refine wpSegsE_step fun K1 hK1 => ?_
        simp only [pickL, List.getElem?_cons_zero, List.getElem?_cons_succ]
        repeat (go_big_quiet_step (fail))
        refine wpQuiet_nil ?_
        go_wp2_with fail
        refine hcall.mono ?_
        rintro e w5 ⟨A5, d5, rfl, hf5, hb5⟩
        clear hcall
        go_wp2_with fail
        refine ⟨keepW_below hgs hb5, hK1 _ _ ?_⟩
        have hbB : Below w5.heap.size w5 (w5.alloc (.cells #[.int .i64 (l1 + 1), .int .i64 tm, .int .i64 x.op, .int .i64 x.sess, .int .i64 x.seq, .slice A5 m d5] 65)) := (Below.refl _ _).alloc (Nat.le_refl _) _
        have hblk : Blk (w5.alloc (.cells #[.int .i64 (l1 + 1), .int .i64 tm, .int .i64 x.op, .int .i64 x.sess, .int .i64 x.seq, .slice A5 m d5] 65)) w5.heap.size 65 (enC (.slice A5 m d5, mkE (l1 + 1) tm x)).toArray := Blk.new w5 65 (enC (.slice A5 m d5, mkE (l1 + 1) tm x)).toArray
        have hb46 := below_then hb5 hbB (Nat.le_refl _)
        have h6 := h4.below hb46
        have hn1 : n + 1 ≤ 1000000000 := by omega
        have hB6 : B ≤ (w5.alloc (.cells #[.int .i64 (l1 + 1), .int .i64 tm, .int .i64 x.op, .int .i64 x.sess, .int .i64 x.seq, .slice A5 m d5] 65)).heap.size := by have := hb46.size; have := hb04.size; omega
        refine wpSegsE_step fun K2 hK2 => ?_
        simp only [pickL, List.getElem?_cons_zero, List.getElem?_cons_succ]
        repeat (go_big_quiet_step (fail))
        refine wpQuiet_nil ?_
        go_wp2_with fail
        refine ⟨keepW_below hgs hb46, hK2 _ _ ?_⟩
        refine wpSegsE_step fun K3 hK3 => ?_
        simp only [pickL, List.getElem?_cons_zero, List.getElem?_cons_succ]
        repeat (go_big_quiet_step (fail))
        refine wpQuiet_nil ?_
        go_wp2_with (at_builtin; refine wpList_append_es rfl (.tmp 39) (.tmp 42) rfl B rfl h6.o rfl (RdE.one hblk) (fun y hy => by rw [List.mem_singleton.1 hy]; rfl) hn1 hB6 ?_; intro A7 c7 w7 hown7 hfr7 hb7 hrow7)
        obtain ⟨w6, hw6⟩ : ∃ w6, w5.alloc (.cells #[.int .i64 (l1 + 1), .int .i64 tm, .int .i64 x.op, .int .i64 x.sess, .int .i64 x.seq, .slice A5 m d5] 65) = w6 := ⟨_, rfl⟩
        rw [hw6] at hbB hblk hb46 h6 hfr7 hrow7 hB6
        have hng : ¬ rowOf A g := fun hj => by
          obtain ⟨_, _, cs, h⟩ := own_row_blk h4.o A c rfl g hj
          have hk := h4.b
          unfold Blk at hk
          rw [hk] at h
          injection h with h
          injection h with _ h
          exact absurd h (by decide)
        have hng3 : ¬ rowOf A g3 := fun hj => by have := hrl _ hj; omega
        have hs6 := hb46.size
        have hk7 : Blk w7 g 93 #[.int .i64 t.index, .int .i64 t.term, .slice A n c] := (hfr7.block g h6.b.lt hng).trans h6.b
        have hx7 : Blk w7 g3 65 #[.int .i64 (l1 + 1), .int .i64 tm, .int .i64 x.op, .int .i64 x.sess, .int .i64 x.seq, .slice V m d] := (hfr7.block g3 (by omega) hng3).trans (b3.kept hb46)
        have hs1 : w.heap.size + 1 < w4.heap.size := b2.lt
        have hz7 : Blk w7 (w.heap.size + 1) 65 #[.int .i64 0, .int .i64 0, .int .i64 0, .int .i64 0, .int .i64 0, .slice none 0 0] := (hfr7.block _ (by omega) fun hj => by have := hrl _ hj; omega).trans (b2.kept hb46)
        refine ⟨keepW_two (Eq.trans hk7 h4.b.symm) (Eq.trans hx7 b3.symm), hK3 _ _ ?_⟩
        have hst67 : TStay TD w6 w7 := TStay.row h6.o hfr7 (by decide)
        have hf7 : FactsV (NewIn TD w4.heap.size w7) w7 (.slice A5 m d5) x.facts := (hf5.move (TStay.below hbB)).move hst67
        have hS8 : ∀ j, (S j ∨ NewIn TD w4.heap.size w7 j) → TyIn TD w7 j := fun j hj => hj.elim (fun hj => (h6.s j hj).move hst67) (fun hj => hj.2)
        have hd8 : DeepE (fun j => S j ∨ NewIn TD w4.heap.size w7 j) w7 (zs ++ [(.slice A5 m d5, mkE (l1 + 1) tm x)]) :=
          ((h6.d.keep fun j hj _ => hst67 j (h6.s j hj)).mono fun j _ hj => .inl hj).append fun z hz => by
            rw [List.mem_singleton.1 hz]
            exact hf7.mono fun j _ hj => .inr hj
        have hB4 : B ≤ g := h4.g
        have h8 := TrkIn.setRow (t := t) hB4 hk7 hown7 hd8 (L7 := t.L ++ [mkE (l1 + 1) tm x]) (by rw [List.map_append, h4.l]; rfl) (hput.out rfl hbp.out i2) hS8
        have hfr68 : Fr (fun j => j = g ∨ rowOf A j) w6 (w7.setCell ⟨g, 2, none⟩ (.slice A7 (n + 1) c7)) := (hfr7.mono fun j hj => .inr hj).trans (Fr.set g 2 _) fun j hj => .inl (.inl hj)
        have hfr08 : Fr (fun j => j = g ∨ rowOf A j) w (w7.setCell ⟨g, 2, none⟩ (.slice A7 (n + 1) c7)) := (Fr.of_below (below_then hb04 hb46 (Nat.le_refl _))).trans hfr68 fun j hj => .inl hj
        have hf8 : FactsV S2 (w7.setCell ⟨g, 2, none⟩ (.slice A7 (n + 1) c7)) (.slice V m d) x.facts := hf4.keep fun j hj hl => (hfr68.block j (by omega) (hS2 j hj)).trans (hb46.block j hl)
        have hx8 := hx7.far (p := ⟨g, 2, none⟩) (show g3 ≠ g from fun e => by rw [e] at hx7; unfold Blk at hx7 hk7; rw [hk7] at hx7; injection hx7 with hx7; injection hx7 with _ hx7; exact absurd hx7 (by decide)) (.slice A7 (n + 1) c7)
        have hz8 := hz7.far (p := ⟨g, 2, none⟩) (show w.heap.size + 1 ≠ g by omega) (.slice A7 (n + 1) c7)
        have hrow8 : ∀ j, rowOf A7 j → rowOf A j ∨ w.heap.size ≤ j := fun j hj => (hrow7 j hj).imp_right fun h => by have := hb04.size; omega
        have hM : ∀ j, (S j ∨ NewIn TD w4.heap.size w7 j) → S j ∨ (w.heap.size ≤ j ∧ j < w7.heap.size) := fun j hj => hj.imp_right fun hj => by
          obtain ⟨h1, cs, fz, ty, h2, _⟩ := hj
          have h3 := lt_of_heap h2
          have := hb04.size
          exact ⟨by omega, h3⟩
        have hsz8 : (w7.setCell ⟨g, 2, none⟩ (.slice A7 (n + 1) c7)).heap.size = w7.heap.size := by simp [World.setCell]
        have fg2 := hk7.free 2
        have cg2 := hk7.cell 2
        simp only [List.getElem?_toArray, List.getElem?_cons_zero, List.getElem?_cons_succ] at cg2
        have hcall : Calls Try.prog 71 #[.agg #[.int .i64 (l1 + 1), .int .i64 tm, .int .i64 x.op, .int .i64 x.sess, .int .i64 x.seq, .slice V m d]] (w7.setCell ⟨g, 2, none⟩ (.slice A7 (n + 1) c7)) fun e w' => ∃ A' c', e = .returned (.agg #[.int .i64 (l1 + 1), .int .i64 tm, .int .i64 x.op, .int .i64 x.sess, .int .i64 x.seq, .slice A' m c']) ∧ FactsV (NewIn TD w7.heap.size w') w' (.slice A' m c') x.facts ∧ Below w7.heap.size (w7.setCell ⟨g, 2, none⟩ (.slice A7 (n + 1) c7)) w' := by
          rw [← hsz8]
          exact own_any S2 (mkE (l1 + 1) tm x) V m d _ hf8 hsm
        have e0 := hx7.cell 0
        have e1 := hx7.cell 1
        have e2 := hx7.cell 2
        have e3 := hx7.cell 3
        have e4 := hx7.cell 4
        have e5 := hx7.cell 5
        simp only [List.getElem?_toArray, List.getElem?_cons_zero, List.getElem?_cons_succ] at e0 e1 e2 e3 e4 e5
        have hne : ¬ g3 = g := by omega
        refine wpSegsE_last ?_
        simp only [pickL, List.getElem?_cons_zero, List.getElem?_cons_succ]
        repeat (go_big_quiet_step (fail))
        refine wpQuiet_nil ?_
        go_wp2_with fail
        refine hcall.mono ?_
        rintro e w9 ⟨A9, d9, rfl, hf9, hb9⟩
        have hb9 : Below (w7.setCell ⟨g, 2, none⟩ (.slice A7 (n + 1) c7)).heap.size (w7.setCell ⟨g, 2, none⟩ (.slice A7 (n + 1) c7)) w9 := by rw [hsz8]; exact hb9
        have h9 := h8.below hb9
        have hz9 := hz8.kept hb9
        have hfr09 := hfr08.trans (Fr.of_below (X := fun _ => False) hb9) fun _ h => h.elim
        have hbel : Below w.heap.size w9 w9 := Below.refl _ _
        have hA9 : ∀ j, rowOf A7 j → j ≠ w.heap.size + 1 := fun j hj e => by
          obtain ⟨_, _, cs, h⟩ := own_row_blk h9.o A7 c7 rfl j hj
          rcases hrow7 j hj with h' | h'
          · have := hrl j h'; omega
          · omega
        have hM9 : w7.heap.size ≤ w9.heap.size := by rw [← hsz8]; exact hb9.size
        obtain ⟨s1, s2, s3⟩ := set6_spec (.slice A9 m d9, mkE (l1 + 1) tm x) hz9 rfl
        have s4 := Fr.set6 w9 (w.heap.size + 1) (.slice A9 m d9, mkE (l1 + 1) tm x)
        have h10 := h9.moveT s4 (show ¬ g = w.heap.size + 1 by omega) (fun j hj e => hA9 j hj e) (s2 _ (by decide))
        have hf10 := hf9.move (s2 _ (by decide))
        have hfr10 := hfr09.trans s4 fun j hj => .inr (by omega)
        have hM10 : w7.heap.size ≤ (set6 w9 (w.heap.size + 1) (.slice A9 m d9, mkE (l1 + 1) tm x)).heap.size := Nat.le_trans hM9 s4.size
        have hM0 : w.heap.size ≤ w7.heap.size := by have := hfr68.size; have := hb04.size; omega
        have hPost := Lib.hid (show PostT B S w g A { t with L := t.L ++ [mkE (l1 + 1) tm x] } w7.heap.size (set6 w9 (w.heap.size + 1) (.slice A9 m d9, mkE (l1 + 1) tm x)) from
          ⟨A7, n + 1, c7, _, _, h10, hM, hrow8, hM10, hfr10⟩)
        clear h10 h9 hM hrow8 hfr10 hfr09 h8 hd8 hS8 hcall
        have d0 := hz9.cell 0
        have d1 := hz9.cell 1
        have d2 := hz9.cell 2
        have d3 := hz9.cell 3
        have d4 := hz9.cell 4
        have d5 := hz9.cell 5
        have f0 := hz9.free 0
        have f1 := hz9.free 1
        have f2 := hz9.free 2
        have f3 := hz9.free 3
        have f4 := hz9.free 4
        have f5 := hz9.free 5
        simp only [List.getElem?_toArray, List.getElem?_cons_zero, List.getElem?_cons_succ] at d0 d1 d2 d3 d4 d5
        go_wp2_with fail
        show bodyPost _ _ _ _ _ (set6 w9 (w.heap.size + 1) (.slice A9 m d9, mkE (l1 + 1) tm x))
        generalize set6 w9 (w.heap.size + 1) (.slice A9 m d9, mkE (l1 + 1) tm x) = w10 at *
        have r0 := s1.cell 0
        have r1 := s1.cell 1
        have r2 := s1.cell 2
        have r3 := s1.cell 3
        have r4 := s1.cell 4
        have r5 := s1.cell 5
        simp only [enC, vi, mkE, List.getElem?_toArray, List.getElem?_cons_zero, List.getElem?_cons_succ] at r0 r1 r2 r3 r4 r5
        exact bodyPost_ret (v := .tuple #[.agg #[.int .i64 (l1 + 1), .int .i64 tm, .int .i64 x.op, .int .i64 x.sess, .int .i64 x.seq, .slice A9 m d9], .int .i64 0]) (by simp [results, Try.results44, go_sem, r0, r1, r2, r3, r4, r5]) rfl ⟨.slice A9 m d9, by rw [he.out]; rfl, w7.heap.size, by rw [he.out]; exact hf10, hM0, by rw [he.out]; exact hPost.out⟩
end
end Go.Proofs.Ytojmkbhihnnmaaa
