/-
  The answer's track: Put.
-/
import Derived.Test.YtojmkbhihnnmaaaT21
namespace Go.Proofs.Ytojmkbhihnnmaaa
open Go.RowKit

/-- what an act leaves of the answer's track -/
def PostR (S : Nat → Prop) (w : World) (g : Nat) (A : Option Addr) (t' : Trk) (w' : World) : Prop :=
  ∃ (A' : Option Addr) (n' c' : Nat) (zs' : List (Value × En)), RefIn S w' g t' A' n' c' zs' ∧ (∀ j, rowOf A' j → rowOf A j ∨ w.heap.size ≤ j) ∧ Fr (fun j => j = g) w w'
section
variable {S : Nat → Prop} {w w' : World} {g n c : Nat} {t : Trk} {A : Option Addr} {zs : List (Value × En)}
theorem PostR.same (h : RefIn S w g t A n c zs) (hb : Below w.heap.size w w') : PostR S w g A t w' := ⟨A, n, c, zs, h.below hb, fun _ h => .inl h, Fr.of_below hb⟩
theorem RefIn.moveF {X : Nat → Prop} (h : RefIn S w g t A n c zs) (hF : Fr X w w') (hX : ∀ j, (j = g ∨ rowOf A j ∨ S j) → j < w.heap.size → ¬ X j) : RefIn S w' g t A n c zs := h.keep fun j hj hl => hF.block j hl (hX j hj hl)
theorem RefIn.rowlt (h : RefIn S w g t A n c zs) : ∀ j, rowOf A j → j < w.heap.size := fun j hj => (own_row_blk h.o A c rfl j hj).1
theorem RefIn.apart (h : RefIn S w g t A n c zs) : ∀ j, rowOf A j → j ≠ g := fun j hj => by
  obtain ⟨_, _, cs, h1⟩ := own_row_blk h.o A c rfl j hj
  exact blk_apart h.b h1 (by decide)
/-- another row is laid into the answer's track -/
theorem RefIn.setRow {w7 : World} {A7 : Option Addr} {n7 c7 : Nat} {zs7 : List (Value × En)} {L7 : List En} {base : Nat} (hk : Blk w7 g 78 #[.int .i64 t.index, .int .i64 t.term, .slice A n c])
    (ho : w7.ownsRow base 65 6 (.slice A7 n7 c7) n7 (zs7.flatMap enC)) (hd : DeepE S w7 zs7) (hl : zs7.map (·.2) = L7) (hi : Trk.Inv { t with L := L7 }) (hS : ∀ j, S j → j ≠ g) :
    RefIn S (w7.setCell ⟨g, 2, none⟩ (.slice A7 n7 c7)) g { t with L := L7 } A7 n7 c7 zs7 where
  b := by simpa using hk.set_ 2 (.slice A7 n7 c7)
  o := own_keep (own_mono ho (Nat.zero_le _)) fun j hj hl => (Fr.set g 2 _).block j hl fun e => by
    obtain ⟨_, _, cs, h⟩ := own_row_blk ho A7 c7 rfl j hj
    exact blk_apart hk h (by decide) e
  d := hd.keep fun j hj hl => (Fr.set g 2 _).block j hl (hS j hj)
  l := hl
  i := hi
theorem rput_tail {w7 : World} {A7 : Option Addr} {c7 base g3 : Nat} {v : Value} {e : En} {cs0 : Array Value} (h : RefIn S w g t A n c zs) (hb07 : Below w.heap.size w w7) (hown7 : w7.ownsRow base 65 6 (.slice A7 (n + 1) c7) (n + 1) ((zs ++ [(v, e)]).flatMap enC))
    (hbase : w.heap.size + 1 < base) (hf : FactsV S w v e.facts) (hz7 : Blk w7 (w.heap.size + 1) 65 cs0) (hc0 : cs0.size = 6) (hx7 : Blk w7 g3 65 (enC (v, e)).toArray) (hg3 : w.heap.size ≤ g3) (hS : ∀ j, S j → j < w.heap.size ∧ j ≠ g) (hinv : Trk.Inv { t with L := t.L ++ [e] }) :
    Blk w7 g 78 #[.int .i64 t.index, .int .i64 t.term, .slice A n c] ∧ Blk (w7.setCell ⟨g, 2, none⟩ (.slice A7 (n + 1) c7)) (w.heap.size + 1) 65 cs0 ∧ Blk (w7.setCell ⟨g, 2, none⟩ (.slice A7 (n + 1) c7)) g3 65 (enC (v, e)).toArray ∧
      Blk (set6 (w7.setCell ⟨g, 2, none⟩ (.slice A7 (n + 1) c7)) (w.heap.size + 1) (v, e)) (w.heap.size + 1) 65 (enC (v, e)).toArray ∧
      FactsV S (set6 (w7.setCell ⟨g, 2, none⟩ (.slice A7 (n + 1) c7)) (w.heap.size + 1) (v, e)) v e.facts ∧ PostR S w g A { t with L := t.L ++ [e] } (set6 (w7.setCell ⟨g, 2, none⟩ (.slice A7 (n + 1) c7)) (w.heap.size + 1) (v, e)) := by
  have hgl := h.b.lt
  have h4' : Blk w7 g 78 #[.int .i64 t.index, .int .i64 t.term, .slice A n c] := (hb07.block g hgl).trans h.b
  have hf7 : FactsV S w7 v e.facts := hf.keep (Stay.below (S := S) hb07)
  have hd7 : DeepE S w7 (zs ++ [(v, e)]) := (h.d.keep (Stay.below (S := S) hb07)).append fun z hz => by
    rw [List.mem_singleton.1 hz]
    exact hf7
  have h8 := RefIn.setRow (t := t) h4' hown7 hd7 (L7 := t.L ++ [e]) (by rw [List.map_append, h.l]; rfl) hinv fun j hj => (hS j hj).2
  have hfr08 : Fr (fun j => j = g) w (w7.setCell ⟨g, 2, none⟩ (.slice A7 (n + 1) c7)) := (Fr.of_below (X := fun j => j = g) hb07).trans (Fr.set g 2 _) fun _ h => .inl h
  have hrA : ∀ j, rowOf A7 j → rowOf A j ∨ w.heap.size ≤ j := fun j hj => .inr (by have := (own_row_blk hown7 A7 c7 rfl j hj).2.1; omega)
  have hx8 := hx7.far (p := ⟨g, 2, none⟩) (show g3 ≠ g by omega) (.slice A7 (n + 1) c7)
  have hz8 := hz7.far (p := ⟨g, 2, none⟩) (show w.heap.size + 1 ≠ g by omega) (.slice A7 (n + 1) c7)
  obtain ⟨s1, s2, s3⟩ := set6_spec (v, e) hz8 hc0
  have s4 := Fr.set6 (w7.setCell ⟨g, 2, none⟩ (.slice A7 (n + 1) c7)) (w.heap.size + 1) (v, e)
  have h10 := h8.moveF s4 fun j hj _ => by
    rcases hj with rfl | hj | hj
    · omega
    · have h0 := (own_row_blk hown7 A7 c7 rfl j hj).2.1
      omega
    · have := (hS j hj).1; omega
  exact ⟨h4', hz8, hx8, s1, (hf7.keep ((Fr.set (w := w7) g 2 (.slice A7 (n + 1) c7)).stay fun j hj _ => (hS j hj).2)).keep (s4.stay fun j hj _ => by have := (hS j hj).1; omega),
      A7, n + 1, c7, _, h10, hrA, hfr08.trans s4 fun j hj => .inr (by omega)⟩
set_option maxRecDepth 100000 in
set_option maxHeartbeats 4000000 in
theorem rput_any (tm : Int) (x : En) (V : Option Addr) (m d : Nat) (h : RefIn S w g t A n c zs) (hn : n ≤ 1000000) (hf : FactsV S w (.slice V m d) x.facts) (hm : m ≤ maxLen) (hS : ∀ j, S j → j < w.heap.size ∧ j ≠ g) :
    Calls Try.prog 52 #[.pointer (some ⟨g, 0, none⟩), .int .i64 tm, cmdV x (.slice V m d)] w fun e w' => ∃ vy, e = .returned (.tuple #[enV (t.putF tm x).1.1 vy, .int .i64 (t.putF tm x).1.2]) ∧ FactsV S w' vy (t.putF tm x).1.1.facts ∧ PostR S w g A (t.putF tm x).2 w' := by
  have hla := h.i.last
  have hb := h.i.b
  have hr := h.i.room
  rw [← h.len.1] at hla hr
  have hlb := h.i.lastB
  have hfull := Lib.hid (fun h1 => putF_full (t := t) (tm := tm) (x := x) h1)
  have harg := Lib.hid (fun h1 h2 => putF_arg (t := t) (tm := tm) (x := x) h1 h2)
  have hok := Lib.hid (fun h1 h2 h3 => putF_ok (t := t) (tm := tm) (x := x) h1 h2 h3)
  have hput := Lib.hid (fun p q r => h.i.put (x := mkE (t.lastF.1 + 1) tm x) p q r)
  obtain ⟨hbA, hk1, hk2⟩ := two_box w 52 65 #[.int .i64 x.op, .int .i64 x.sess, .int .i64 x.seq, .slice V m d] #[.int .i64 0, .int .i64 0, .int .i64 0, .int .i64 0, .int .i64 0, .slice none 0 0]
  have hA := h.below hbA
  have hfA := hf.keep (Stay.below (S := S) hbA)
  have hend := rend_any hA hn
  obtain ⟨l2, hl2⟩ : ∃ l2, t.lastF.2 = l2 := ⟨_, rfl⟩
  obtain ⟨l1, hl1⟩ : ∃ l1, t.lastF.1 = l1 := ⟨_, rfl⟩
  rw [hl1] at hla hfull harg hok hput
  rw [hl2] at hlb harg hok hput
  rw [hl1, hl2] at hend
  have hl1b : 0 ≤ l1 ∧ l1 ≤ 1099511627776 := by omega
  clear hl1 hl2 hla hr
  unfold cmdV
  go_enter Try.func52, Try.ntmps52
  go_wp2_with fail
  generalize (w.alloc (.cells #[.int .i64 x.op, .int .i64 x.sess, .int .i64 x.seq, .slice V m d] 52)).alloc (.cells #[.int .i64 0, .int .i64 0, .int .i64 0, .int .i64 0, .int .i64 0, .slice none 0 0] 65) = w1 at *
  refine hend.mono ?_
  rintro e w2 ⟨rfl, hb2⟩
  clear hend
  have h2 := hA.below hb2
  have hf2 := hfA.keep (Stay.below (S := S) hb2)
  have hb02 := below_then hbA hb2 (Nat.le_refl _)
  have b1 := hk1.kept hb2
  have b2 := hk2.kept hb2
  have c0 := b1.cell 0
  have c1 := b1.cell 1
  have c2 := b1.cell 2
  have c3 := b1.cell 3
  simp only [List.getElem?_toArray, List.getElem?_cons_zero, List.getElem?_cons_succ] at c0 c1 c2 c3
  have hs1 := b2.lt
  clear hA hfA hk1 hk2 hb2 b1
  have hgl := h.b.lt
  have hrl := h.rowlt
  have fin : ∀ (w5 w6 : World) (y : En) (v : Value), Below w.heap.size w w5 → Blk w5 (w.heap.size + 1) 65 #[.int .i64 0, .int .i64 0, .int .i64 0, .int .i64 0, .int .i64 0, .slice none 0 0] → set6 w5 (w.heap.size + 1) (v, y) = w6 →
      Blk w6 (w.heap.size + 1) 65 #[.int .i64 y.idx, .int .i64 y.term, .int .i64 y.op, .int .i64 y.sess, .int .i64 y.seq, v] ∧ Below w.heap.size w w6 ∧ Fr (fun j => j = w.heap.size + 1) w5 w6 := fun w5 w6 y v hb hk e => by
    subst e
    obtain ⟨s1, s2, s3⟩ := set6_spec (v, y) hk rfl
    exact ⟨s1, hb.trans (s3 _ (by omega)), Fr.set6 _ _ _⟩
  have finE : ∀ (w5 w6 : World) (k : Int), RefIn S w5 g t A n c zs → Below w.heap.size w w5 → Blk w5 (w.heap.size + 1) 65 #[.int .i64 0, .int .i64 0, .int .i64 0, .int .i64 0, .int .i64 0, .slice none 0 0] → set6 w5 (w.heap.size + 1) (.slice none 0 0, En0) = w6 → t.putF tm x = ((En0, k), t) →
      Blk w6 (w.heap.size + 1) 65 #[.int .i64 0, .int .i64 0, .int .i64 0, .int .i64 0, .int .i64 0, .slice none 0 0] ∧
      ∃ vy, Ending.returned (.tuple #[.agg #[.int .i64 0, .int .i64 0, .int .i64 0, .int .i64 0, .int .i64 0, .slice none 0 0], .int .i64 k]) = .returned (.tuple #[enV (t.putF tm x).1.1 vy, .int .i64 (t.putF tm x).1.2]) ∧ FactsV S w6 vy (t.putF tm x).1.1.facts ∧ PostR S w g A (t.putF tm x).2 w6 := fun w5 w6 k h5 hb hk e he => by
    obtain ⟨s1, s3, s4⟩ := fin w5 w6 En0 _ hb hk e
    rw [he]
    refine ⟨s1, .slice none 0 0, rfl, FactsV.nil _ _, A, n, c, zs, ?_, fun _ h => .inl h, Fr.of_below s3⟩
    exact h5.moveF s4 fun j hj _ => by
      rcases hj with rfl | hj | hj
      · omega
      · have := hrl j hj; omega
      · have := (hS j hj).1; omega
  by_cases i1 : l1 = 1099511627776
  · have he := hfull.out (by omega)
    have d0 := b2.cell 0
    have d1 := b2.cell 1
    have d2 := b2.cell 2
    have d3 := b2.cell 3
    have d4 := b2.cell 4
    have d5 := b2.cell 5
    have f0 := b2.free 0
    have f1 := b2.free 1
    have f2 := b2.free 2
    have f3 := b2.free 3
    have f4 := b2.free 4
    have f5 := b2.free 5
    simp only [List.getElem?_toArray, List.getElem?_cons_zero, List.getElem?_cons_succ] at d0 d1 d2 d3 d4 d5
    have hfin := Lib.hid (finE w2 _ 41 h2 hb02 b2 rfl he)
    subst i1
    clear he finE fin hrl hfull harg hok hput
    go_wp2_with fail
    replace hfin := hfin.out
    show bodyPost _ _ _ _ _ (set6 w2 (w.heap.size + 1) (.slice none 0 0, En0))
    generalize set6 w2 (w.heap.size + 1) (.slice none 0 0, En0) = w9 at *
    obtain ⟨q, hfin⟩ := hfin
    have r0 := q.cell 0
    have r1 := q.cell 1
    have r2 := q.cell 2
    have r3 := q.cell 3
    have r4 := q.cell 4
    have r5 := q.cell 5
    simp only [List.getElem?_toArray, List.getElem?_cons_zero, List.getElem?_cons_succ] at r0 r1 r2 r3 r4 r5
    exact bodyPost_ret (v := .tuple #[.agg #[.int .i64 0, .int .i64 0, .int .i64 0, .int .i64 0, .int .i64 0, .slice none 0 0], .int .i64 41]) (by simp [results, Try.results52, go_sem, r0, r1, r2, r3, r4, r5]) rfl hfin
  · have i1b : (l1 == 1099511627776) = false := beq_eq_false_iff_ne.2 i1
    have hbA3 : Below w2.heap.size w2 (w2.alloc (.cells #[.int .i64 (l1 + 1), .int .i64 tm, .int .i64 x.op, .int .i64 x.sess, .int .i64 x.seq, .slice V m d] 65)) := (Below.refl _ _).alloc (Nat.le_refl _) _
    have b3 := Blk.new w2 65 #[.int .i64 (l1 + 1), .int .i64 tm, .int .i64 x.op, .int .i64 x.sess, .int .i64 x.seq, .slice V m d]
    have b2 := b2.kept hbA3
    have h3 := h2.below hbA3
    have hf3 := hf2.keep (Stay.below (S := S) hbA3)
    have hb03 := below_then hb02 hbA3 (Nat.le_refl _)
    obtain ⟨bp, hbp⟩ : ∃ bp, plainB (mkE (l1 + 1) tm x) = bp := ⟨_, rfl⟩
    have hcall := rplain_any S (mkE (l1 + 1) tm x) V m d _ hf3 hm
    rw [hbp] at hcall
    unfold enV mkE at hcall
    dsimp only at hcall
    have hl2b : l1 ≤ 1099511627775 := by omega
    go_wp2_with fail
    generalize hw3 : w2.alloc (.cells #[.int .i64 (l1 + 1), .int .i64 tm, .int .i64 x.op, .int .i64 x.sess, .int .i64 x.seq, .slice V m d] 65) = w3 at *
    clear hw3 hbA3 h2 hf2 c0 c1 c2 c3
    have hx3 : w.heap.size + 1 ≠ w2.heap.size := by omega
    have hx4 : w.heap.size ≤ w2.heap.size := by omega
    generalize w2.heap.size = g3 at *
    clear hb02 hs1
    refine hcall.mono ?_
    rintro e w4 ⟨rfl, hb4⟩
    have b2 := b2.kept hb4
    have b3 := b3.kept hb4
    have h4 := h3.below hb4
    have hf4 := hf3.keep (Stay.below (S := S) hb4)
    have hb04 := below_then hb03 hb4 (Nat.le_refl _)
    clear h3 hf3 hb4 hb03 hcall
    have hno : (tm < l2 ∨ (l2 ≤ tm ∧ bp = false)) ∨ (l2 ≤ tm ∧ bp = true) := by
      by_cases h0 : tm < l2
      · exact .inl (.inl h0)
      · cases bp
        · exact .inl (.inr ⟨by omega, rfl⟩)
        · exact .inr ⟨by omega, rfl⟩
    have d0 := b2.cell 0
    have d1 := b2.cell 1
    have d2 := b2.cell 2
    have d3 := b2.cell 3
    have d4 := b2.cell 4
    have d5 := b2.cell 5
    have f0 := b2.free 0
    have f1 := b2.free 1
    have f2 := b2.free 2
    have f3 := b2.free 3
    have f4 := b2.free 4
    have f5 := b2.free 5
    simp only [List.getElem?_toArray, List.getElem?_cons_zero, List.getElem?_cons_succ] at d0 d1 d2 d3 d4 d5
    rcases hno with hno | ⟨i2, hno⟩
    · have he := harg.out (by omega) (hno.imp_right fun h => by rw [hbp]; exact h.2)
      have hfin := Lib.hid (finE w4 _ 1 h4 hb04 b2 rfl he)
      clear he finE fin hrl hfull harg hok hput hbp
      rcases hno with hno | ⟨i2, hno⟩
      all_goals
        first
          | subst hno
          | skip
        go_wp2_with fail
        replace hfin := hfin.out
        show bodyPost _ _ _ _ _ (set6 w4 (w.heap.size + 1) (.slice none 0 0, En0))
        generalize set6 w4 (w.heap.size + 1) (.slice none 0 0, En0) = w9 at *
        obtain ⟨q, hfin⟩ := hfin
        have r0 := q.cell 0
        have r1 := q.cell 1
        have r2 := q.cell 2
        have r3 := q.cell 3
        have r4 := q.cell 4
        have r5 := q.cell 5
        simp only [List.getElem?_toArray, List.getElem?_cons_zero, List.getElem?_cons_succ] at r0 r1 r2 r3 r4 r5
        exact bodyPost_ret (v := .tuple #[.agg #[.int .i64 0, .int .i64 0, .int .i64 0, .int .i64 0, .int .i64 0, .slice none 0 0], .int .i64 1]) (by simp [results, Try.results52, go_sem, r0, r1, r2, r3, r4, r5]) rfl hfin
    · subst hno
      have hz4 := b2.lt
      have hg3 := b3.lt
      have he := Lib.hid (hok.out (by omega) (by omega) hbp)
      have hinv := Lib.hid (hput.out rfl hbp (by show l2 ≤ tm; omega))
      clear finE hfull harg hok hput hbp d0 d1 d2 d3 d4 d5 f0 f1 f2 f3 f4 f5
      have q2 := h4.cells.2.2
      have a0 := b3.cell 0
      have a1 := b3.cell 1
      have a2 := b3.cell 2
      have a3 := b3.cell 3
      have a4 := b3.cell 4
      have a5 := b3.cell 5
      simp only [List.getElem?_toArray, List.getElem?_cons_zero, List.getElem?_cons_succ] at a0 a1 a2 a3 a4 a5
      have hown4 : w4.ownsRow w4.heap.size 65 6 (.slice none 0 0) 0 (([] : List (Value × En)).flatMap enC) := own_nil _ _
      have hone := h4.d.one
      have hr4 := h4.r
      have hn1 : n + 1 ≤ 1000000000 := by omega
      go_wp2_with (first
        | (at_builtin; refine wpList_append_es rfl (.tmp 36) (.tmp 40) rfl w4.heap.size rfl hown4 rfl (ys := zs) hr4 hone (by omega) (Nat.le_refl _) ?_; intro A5 c5 w5 hown5 hfr5 hb5 hrow5
           simp only [Nat.zero_add, List.nil_append] at hown5 ⊢
           replace b2 := b2.kept hb5
           replace b3 := b3.kept hb5
           have h5 := h4.below hb5
           have hb05 := below_then hb04 hb5 (Nat.le_refl _)
           clear a0 a1 a2 a3 a4 a5 q2 hr4
           have a0 := b3.cell 0
           have a1 := b3.cell 1
           have a2 := b3.cell 2
           have a3 := b3.cell 3
           have a4 := b3.cell 4
           have a5 := b3.cell 5
           simp only [List.getElem?_toArray, List.getElem?_cons_zero, List.getElem?_cons_succ] at a0 a1 a2 a3 a4 a5
           have hbB : Below w5.heap.size w5 (w5.alloc (.cells #[.int .i64 (l1 + 1), .int .i64 tm, .int .i64 x.op, .int .i64 x.sess, .int .i64 x.seq, .slice V m d] 65)) := (Below.refl _ _).alloc (Nat.le_refl _) _
           have hblk : Blk (w5.alloc (.cells #[.int .i64 (l1 + 1), .int .i64 tm, .int .i64 x.op, .int .i64 x.sess, .int .i64 x.seq, .slice V m d] 65)) w5.heap.size 65 (enC (.slice V m d, mkE (l1 + 1) tm x)).toArray := Blk.new w5 65 (enC (.slice V m d, mkE (l1 + 1) tm x)).toArray
           have hown6 := own_below hown5 hbB
           have hB6 : w4.heap.size ≤ (w5.alloc (.cells #[.int .i64 (l1 + 1), .int .i64 tm, .int .i64 x.op, .int .i64 x.sess, .int .i64 x.seq, .slice V m d] 65)).heap.size := by have := hbB.size; have := hb5.size; omega)
        | (at_builtin; refine wpList_append_es rfl (.tmp 42) (.tmp 44) rfl w4.heap.size rfl hown6 rfl (RdE.one hblk) (fun y hy => by rw [List.mem_singleton.1 hy]; rfl) hn1 hB6 ?_; intro A7 c7 w7 hown7 hfr7 hb7 hrow7
           obtain ⟨w6, hw6⟩ : ∃ w6, w5.alloc (.cells #[.int .i64 (l1 + 1), .int .i64 tm, .int .i64 x.op, .int .i64 x.sess, .int .i64 x.seq, .slice V m d] 65) = w6 := ⟨_, rfl⟩
           rw [hw6] at hbB hblk hown6 hfr7 hb7 hrow7 hB6
           clear hw6 a0 a1 a2 a3 a4 a5 hown4
           have hb06 := below_then hb05 hbB (Nat.le_refl _)
           have hb07 : Below w.heap.size w w7 := hb06.trans (hb7.mono (by have := hb04.size; omega))
           have hz7 : Blk w7 (w.heap.size + 1) 65 #[.int .i64 0, .int .i64 0, .int .i64 0, .int .i64 0, .int .i64 0, .slice none 0 0] := (hb7.block _ hz4).trans (b2.kept hbB)
           have hx7 : Blk w7 g3 65 #[.int .i64 (l1 + 1), .int .i64 tm, .int .i64 x.op, .int .i64 x.sess, .int .i64 x.seq, .slice V m d] := (hb7.block g3 hg3).trans (b3.kept hbB)
           obtain ⟨h4', hz8, hx8, s1, hP⟩ := rput_tail h hb07 hown7 hz4 hf hz7 rfl hx7 hx4 hS hinv.out
           have hx8 : Blk (w7.setCell ⟨g, 2, none⟩ (.slice A7 (n + 1) c7)) g3 65 #[.int .i64 (l1 + 1), .int .i64 tm, .int .i64 x.op, .int .i64 x.sess, .int .i64 x.seq, .slice V m d] := hx8
           have hP := Lib.hid hP
           have s1 := Lib.hid s1
           have fg := h4'.free 2
           have cg := h4'.cell 2
           have d0 := hz8.cell 0
           have d1 := hz8.cell 1
           have d2 := hz8.cell 2
           have d3 := hz8.cell 3
           have d4 := hz8.cell 4
           have d5 := hz8.cell 5
           have f0 := hz8.free 0
           have f1 := hz8.free 1
           have f2 := hz8.free 2
           have f3 := hz8.free 3
           have f4 := hz8.free 4
           have f5 := hz8.free 5
           have a0 := hx8.cell 0
           have a1 := hx8.cell 1
           have a2 := hx8.cell 2
           have a3 := hx8.cell 3
           have a4 := hx8.cell 4
           have a5 := hx8.cell 5
           have hgg3 : ¬ g3 = g := by omega
           have hgz : ¬ w.heap.size + 1 = g := by omega
           have hzg3 : ¬ g3 = w.heap.size + 1 := by omega
           simp only [List.getElem?_toArray, List.getElem?_cons_zero, List.getElem?_cons_succ] at cg d0 d1 d2 d3 d4 d5 a0 a1 a2 a3 a4 a5
           clear hown7 hfr7 hrow7 hown6 hown5 hfr5 hrow5)
        | fail)
      show bodyPost _ _ _ _ _ (set6 (w7.setCell ⟨g, 2, none⟩ (.slice A7 (n + 1) c7)) (w.heap.size + 1) (.slice V m d, mkE (l1 + 1) tm x))
      clear d0 d1 d2 d3 d4 d5 a0 a1 a2 a3 a4 a5 f0 f1 f2 f3 f4 f5 hz8 hx8
      replace s1 := s1.out
      replace hP := hP.out
      generalize set6 (w7.setCell ⟨g, 2, none⟩ (.slice A7 (n + 1) c7)) (w.heap.size + 1) (.slice V m d, mkE (l1 + 1) tm x) = w10 at *
      have r0 := s1.cell 0
      have r1 := s1.cell 1
      have r2 := s1.cell 2
      have r3 := s1.cell 3
      have r4 := s1.cell 4
      have r5 := s1.cell 5
      simp only [enC, vi, mkE, List.getElem?_toArray, List.getElem?_cons_zero, List.getElem?_cons_succ] at r0 r1 r2 r3 r4 r5
      exact bodyPost_ret (v := .tuple #[.agg #[.int .i64 (l1 + 1), .int .i64 tm, .int .i64 x.op, .int .i64 x.sess, .int .i64 x.seq, .slice V m d], .int .i64 0]) (by simp [results, Try.results52, go_sem, r0, r1, r2, r3, r4, r5]) rfl ⟨.slice V m d, by rw [he.out]; rfl, by rw [he.out]; exact hP.1, by rw [he.out]; exact hP.2⟩
end
end Go.Proofs.Ytojmkbhihnnmaaa
