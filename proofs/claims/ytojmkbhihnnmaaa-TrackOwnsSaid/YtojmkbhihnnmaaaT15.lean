/-
  The track: Slice.
-/
import Derived.Test.YtojmkbhihnnmaaaT14
namespace Go.Proofs.Ytojmkbhihnnmaaa
open Go.RowKit

theorem take_next {α : Type} {l : List α} {i : Nat} {x : α} (h : l[i]? = some x) : l.take (i + 1) = l.take i ++ [x] := by rw [List.take_add_one, h]; rfl
section
variable {B : Nat} {S : Nat → Prop} {w : World} {g n c : Nat} {t : Trk} {A : Option Addr} {zs : List (Value × En)}
theorem tend_below (h : TrkIn B S w g t A n c zs) (hn : n ≤ 1000000) : Calls Try.prog 43 #[.pointer (some ⟨g, 0, none⟩)] w fun e w' => e = .returned (.tuple #[.int .i64 t.lastF.1, .int .i64 t.lastF.2]) ∧ Below w.heap.size w w' :=
  (tend_any h hn).mono (by rintro e w' ⟨rfl, q, rfl⟩; exact ⟨rfl, below_drewN (Below.refl _ _) q⟩)
theorem tterm_below (i : Int) (h : TrkIn B S w g t A n c zs) (hn : n ≤ 1000000) : Calls Try.prog 46 #[.pointer (some ⟨g, 0, none⟩), .int .i64 i] w fun e w' => e = .returned (.tuple #[.int .i64 (t.termF i).1, .int .i64 (t.termF i).2]) ∧ Below w.heap.size w w' :=
  (tterm_any i h hn).mono (by rintro e w' ⟨rfl, q, rfl⟩; exact ⟨rfl, below_drewN (Below.refl _ _) q⟩)
/-- entries, in rows of the call's own, deep -/
def EsNew (B : Nat) (w : World) (A : Option Addr) (n c : Nat) (zs : List (Value × En)) (L : List En) : Prop :=
  w.ownsRow B 65 6 (.slice A n c) n (zs.flatMap enC) ∧ DeepE (NewIn TD B w) w zs ∧ zs.map (·.2) = L
theorem EsNew.below {w' : World} {L : List En} (h : EsNew B w A n c zs L) (hb : Below w.heap.size w w') : EsNew B w' A n c zs L := ⟨own_below h.1 hb, h.2.1.move (TStay.below hb), h.2.2⟩
theorem EsNew.mono {B' : Nat} {L : List En} (h : EsNew B w A n c zs L) (hb : B' ≤ B) : EsNew B' w A n c zs L := ⟨own_mono h.1 hb, h.2.1.mono (NewIn.wide (fun _ h => h) hb), h.2.2⟩
theorem EsNew.nil (B : Nat) (w : World) : EsNew B w none 0 0 [] [] := ⟨own_nil _ _, fun z hz => (by cases hz), rfl⟩
theorem EsNew.len {L : List En} (h : EsNew B w A n c zs L) : zs.length = n ∧ L.length = n := by
  have h1 := h.1.1
  rw [flat_len enC_len] at h1
  have h2 := congrArg List.length h.2.2
  rw [List.length_map] at h2
  omega
set_option maxRecDepth 100000 in
theorem tslice_any (i m : Int) (h : TrkIn B S w g t A n c zs) (hn : n ≤ 1000000) : Calls Try.prog 41 #[.pointer (some ⟨g, 0, none⟩), .int .i64 i, .int .i64 m] w fun e w' => ∃ A' n' c' zs', e = .returned (.slice A' n' c') ∧ EsNew w.heap.size w' A' n' c' zs' (t.sliceF i m) ∧ Below w.heap.size w w' := by
  have hla := h.i.last
  have hb := h.i.b
  have hr := h.i.room
  rw [← h.len.1] at hla hr
  have hl := Lib.hid h.len.1
  have hend := tend_below h hn
  rw [hla] at hend
  clear hla
  go_enter Try.func41, Try.ntmps41
  go_wp2_with fail
  refine hend.mono ?_
  rintro e w1 ⟨rfl, hb1⟩
  have h1 := h.below hb1
  obtain ⟨q0, q1, q2⟩ := h1.cells
  by_cases i1 : i ≤ t.index
  · have he := Lib.hid (show t.sliceF i m = [] from if_pos (.inl i1))
    go_wp2_with fail
    go_ret
    exact ⟨none, 0, 0, [], rfl, by rw [he.out]; exact EsNew.nil _ _, hb1⟩
  · by_cases i2 : t.index + n < i
    · have he := Lib.hid (show t.sliceF i m = [] by
        unfold Trk.sliceF
        split
        · rfl
        · rw [List.drop_eq_nil_of_le (by rw [← hl.out]; omega), List.take_nil])
      go_wp2_with fail
      go_ret
      exact ⟨none, 0, 0, [], rfl, by rw [he.out]; exact EsNew.nil _ _, hb1⟩
    · by_cases i3 : m < 1
      · have he := Lib.hid (show t.sliceF i m = [] from if_pos (.inr i3))
        go_wp2_with fail
        go_ret
        exact ⟨none, 0, 0, [], rfl, by rw [he.out]; exact EsNew.nil _ _, hb1⟩
      · obtain ⟨k, hk⟩ : ∃ k : Nat, i - t.index - 1 = k := ⟨(i - t.index - 1).toNat, by omega⟩
        have hkn : k < n := by omega
        obtain ⟨mm, hmm⟩ : ∃ mm : Nat, m = mm := ⟨m.toNat, by omega⟩
        subst hmm
        have he := Lib.hid (show t.sliceF i mm = (t.L.drop k).take mm by
          unfold Trk.sliceF
          rw [if_neg (by omega), hk]; rfl)
        obtain ⟨hnc, hcm⟩ := own_bounds h1.o
        obtain ⟨ad, v0, x0, rfl, _⟩ := h1.at_ hkn
        obtain ⟨p, hp⟩ : ∃ p : Nat, min mm (n - k) = p := ⟨_, rfl⟩
        have hpi : min (mm : Int) ((n - k : Nat) : Int) = (p : Int) := by omega
        have hpc : p ≤ c - k := by omega
        have hpn : p ≤ n - k := by omega
        have hck : ¬ c = k := by omega
        have hpp := Lib.hid hp
        have hrow : RdE w1 (some (ad.add (k * 6))) (n - k) (zs.drop k) := by
          have := Rds.cut (size := 6) h1.rd (k := k) (by omega) hnc
          rw [if_neg hck] at this
          rw [← flat_drop enC_len] at this
          exact this
        have hdeep : DeepE S w1 (zs.drop k) := h1.d.sub fun y hy => List.mem_of_mem_drop hy
        have hzl := Lib.hid (show (zs.drop k).map (·.2) = t.L.drop k by rw [List.map_drop, h1.l])
        have hplain := Lib.hid (show ∀ z ∈ zs.drop k, SmallF z.2.facts from fun z hz => plain_small (h1.i.plain _ (by rw [← h1.l]; exact List.mem_map_of_mem (List.mem_of_mem_drop hz))))
        generalize zs.drop k = ys at *
        clear hp hend
        unfold maxLen at hcm
        go_wp2_with fail
        go_quiet (fail)
        go_wp2_with fail
        clear q0 q1 q2
        obtain ⟨w2, hw2⟩ : ∃ w2, w1.drewN nq = w2 := ⟨_, rfl⟩
        rw [hw2]
        have hb2 : Below w.heap.size w w2 := by rw [← hw2]; exact below_drewN hb1 _
        have hrow : RdE w2 (some (ad.add (k * 6))) (n - k) ys := by rw [← hw2]; exact hrow
        have hdeep : DeepE S w2 ys := by rw [← hw2]; exact hdeep
        clear hw2 h1 hb1
        go_loopw [10, 52] (fun o i' wr => ∃ (j : Nat) (A' : Option Addr) (c' : Nat) (zs' : List (Value × En)), j ≤ p ∧ i' = .int .i64 j ∧ o = .slice A' j c' ∧ EsNew w2.heap.size wr A' j c' zs' ((t.L.drop k).take j) ∧ Below w2.heap.size w2 wr) (fun _ i' _ => p - (intOf i').toNat)
        case atStart => exact ⟨0, none, 0, [], Nat.zero_le _, rfl, rfl, EsNew.nil _ _, Below.refl _ _⟩
        case round =>
          obtain ⟨j, A', c', zs', hj, rfl, rfl, hE, hbw⟩ := hrel
          by_cases hlt : j < p
          · obtain ⟨cd, v1, x, hcd, hx, c0, c1, c2, c3, c4, c5⟩ := (hrow.below hbw).at_ (show j < n - k by omega)
            obtain rfl : ad.add (k * 6) = cd := Option.some.inj hcd
            have f1 := (hdeep _ (List.mem_of_getElem? hx)).keep (Stay.below (S := S) hbw)
            have hsm := hplain.out _ (List.mem_of_getElem? hx)
            obtain ⟨B1, m1, d1, hv1, l1, l2, l3⟩ := f1.form
            obtain rfl : v1 = _ := hv1
            have htk := Lib.hid (take_next (show (t.L.drop k)[j]? = some x by rw [← hzl.out, List.getElem?_map, hx]; rfl))
            have hmeas := Lib.hid (show p - (j + 1) < p - j by omega)
            have hbA : Below wr.heap.size wr (wr.alloc (.cells #[.int .i64 x.idx, .int .i64 x.term, .int .i64 x.op, .int .i64 x.sess, .int .i64 x.seq, .slice B1 m1 d1] 65)) := (Below.refl _ _).alloc (Nat.le_refl _) _
            have f2 := f1.keep (Stay.below (S := S) hbA)
            have hcall := own_any S x B1 m1 d1 _ f2 hsm
            unfold enV at hcall
            have hE1 := hE.below hbA
            have hbw1 := below_then hbw hbA (Nat.le_refl _)
            clear hx f1 f2 hcd hE hbw
            go_wp2_with fail
            generalize wr.alloc (.cells #[.int .i64 x.idx, .int .i64 x.term, .int .i64 x.op, .int .i64 x.sess, .int .i64 x.seq, .slice B1 m1 d1] 65) = w3 at *
            refine hcall.mono ?_
            rintro e w4 ⟨A4, d4, rfl, hf4, hb4⟩
            have hE4 := hE1.below hb4
            have hbw4 := below_then hbw1 hb4 (Nat.le_refl _)
            have hf4 := hf4.mono (NewIn.wide (L := TD) (fun _ h => h) hbw1.size)
            have hbB : Below w4.heap.size w4 (w4.alloc (.cells #[.int .i64 x.idx, .int .i64 x.term, .int .i64 x.op, .int .i64 x.sess, .int .i64 x.seq, .slice A4 m1 d4] 65)) := (Below.refl _ _).alloc (Nat.le_refl _) _
            have hblk := Blk.new w4 65 (enC (.slice A4 m1 d4, x)).toArray
            have hE5 := hE4.below hbB
            have hf5 := hf4.move (TStay.below hbB)
            have hbw5 := below_then hbw4 hbB (Nat.le_refl _)
            have hj6 : j + 1 ≤ 1000000000 := by omega
            clear hE1 hE4 hf4 hbw4 hbw1 hcall
            go_wp2_with (at_builtin; refine wpList_append_es rfl (.tmp 56) (.tmp 59) rfl w2.heap.size rfl hE5.1 rfl (RdE.one hblk) (fun y hy => by rw [List.mem_singleton.1 hy]; rfl) hj6 hbw5.size ?_; intro A6 c6 w6 hown6 hfr6 hb6 hrow6)
            have hD : DeepE (NewIn TD w2.heap.size w6) w6 (zs' ++ [(.slice A4 m1 d4, x)]) := (hE5.2.1.append fun z hz => by rw [List.mem_singleton.1 hz]; exact hf5).move (TStay.row hE5.1 hfr6 (by decide))
            have hM : (zs' ++ [((.slice A4 m1 d4 : Value), x)]).map (·.2) = (t.L.drop k).take (j + 1) := by rw [List.map_append, hE5.2.2, htk.out]; rfl
            go_roundw
            case rel => exact ⟨j + 1, A6, c6, _, hlt, by go_num, rfl, ⟨hown6, hD, hM⟩, hbw5.trans hb6⟩
            case measure => simp [intOf]; exact hmeas.out
          · obtain rfl : j = p := by omega
            go_wp2_with fail
            go_ret
            refine ⟨A', j, c', zs', rfl, ?_, below_then hb2 hbw (Nat.le_refl _)⟩
            have he2 : t.sliceF i mm = (t.L.drop k).take j := by
              rw [he.out, ← hpp.out]
              rw [show (t.L.drop k).take mm = (t.L.drop k).take (min mm (n - k)) by
                rw [← List.take_take, List.take_of_length_le (i := n - k) (by rw [List.length_drop, ← hl.out]; exact Nat.le_refl _)]]
            rw [he2]
            exact hE.mono hb2.size
end
end Go.Proofs.Ytojmkbhihnnmaaa
