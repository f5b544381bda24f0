/-
  The track: facts copied.
-/
import Derived.Test.YtojmkbhihnnmaaaT10
import Derived.Test.YtojmkbhihnnmaaaMix3
import Derived.Lib.SliceRun
namespace Go.Proofs.Ytojmkbhihnnmaaa
open Go.RowKit

/-- blocks of some types -/
def TyIn (L : List TypeId) (w : World) (j : Nat) : Prop := ∃ (cs : Array Value) (_ : Unit) (ty : TypeId), w.heap[j]? = some (.cells cs ty (0, 0)) ∧ ty ∈ L
/-- new ones -/
def NewIn (L : List TypeId) (B : Nat) (w : World) (j : Nat) : Prop := B ≤ j ∧ TyIn L w j
/-- what lies below an entry -/
def TD : List TypeId := [84, 23, 9, 3]
def TStay (L : List TypeId) (w w' : World) : Prop := ∀ j, TyIn L w j → w'.heap[j]? = w.heap[j]?
section
variable {L L' : List TypeId} {B B' : Nat} {w w' w'' : World} {S : Nat → Prop}
theorem TStay.refl (L : List TypeId) (w : World) : TStay L w w := fun _ _ => rfl
theorem TyIn.move {j : Nat} (h : TyIn L w j) (hk : TStay L w w') : TyIn L w' j := by
  obtain ⟨cs, fz, ty, h1, h2⟩ := id h
  exact ⟨cs, fz, ty, (hk j h).trans h1, h2⟩
theorem TStay.trans (h : TStay L w w') (h' : TStay L w' w'') : TStay L w w'' := fun j hj => (h' j (hj.move h)).trans (h j hj)
theorem TStay.below (h : Below w.heap.size w w') : TStay L w w' := fun j hj => by
  obtain ⟨cs, fz, ty, h1, _⟩ := hj
  exact h.block _ (lt_of_heap h1)
theorem TStay.grown {base size n c : Nat} {e : TypeId} {A : Option Addr} {xs : List Value} (h : w.ownsRow base e size (.slice A n c) n xs) (hg : w.grownBy w' (Value.slice A n c).ownBlock) (he : e ∉ L) : TStay L w w' := fun j hj => by
  obtain ⟨cs, fz, ty, h1, h2⟩ := hj
  refine hg.block j (lt_of_heap h1) fun ho => ?_
  rcases h.2 with ⟨h0, _⟩ | ⟨g', cap', cur', h0, _, h3', _⟩
  · rw [h0] at ho; cases ho
  · rw [h0] at ho
    injection ho with ho
    rw [show j = g' from ho, h3'] at h1
    injection h1 with h1
    injection h1 with _ h1
    exact he (h1 ▸ h2)
theorem TStay.set {g i : Nat} {T : TypeId} {cs : Array Value} {u : Value} (hb : Blk w g T cs) (hT : T ∉ L) : TStay L w (w.setCell ⟨g, i, none⟩ u) := fun j hj => by
  obtain ⟨ds, fz, ty, h1, h2⟩ := hj
  refine Below.heap_setCell w _ u j fun e => ?_
  have e : j = g := e
  unfold Blk at hb
  rw [e, hb] at h1
  injection h1 with h1
  injection h1 with _ h1
  exact hT (h1 ▸ h2)
theorem NewIn.stay (h : TStay L w w') : Stay (NewIn L B w) w w' := fun j hj _ => h j hj.2
theorem NewIn.moved (h : TStay L w w') : ∀ j, j < w'.heap.size → NewIn L B w j → NewIn L B w' j := fun _ _ hj => ⟨hj.1, hj.2.move h⟩
theorem NewIn.wide (hL : ∀ t ∈ L, t ∈ L') (hB : B' ≤ B) : ∀ j, j < w.heap.size → NewIn L B w j → NewIn L' B' w j := fun _ _ hj => ⟨Nat.le_trans hB hj.1, by
  obtain ⟨cs, fz, ty, h1, h2⟩ := hj.2
  exact ⟨cs, fz, ty, h1, hL _ h2⟩⟩
theorem PathV.move {v : Value} {p : List ByteArray} (h : PathV (NewIn L B w) w v p) (hk : TStay L w w') : PathV (NewIn L B w') w' v p := (h.keep (NewIn.stay hk)).mono (NewIn.moved hk)
theorem IntsV.move {v : Value} {p : List Int} (h : IntsV (NewIn L B w) w v p) (hk : TStay L w w') : IntsV (NewIn L B w') w' v p := (h.keep (NewIn.stay hk)).mono (NewIn.moved hk)
theorem PathsV.move {v : Value} {p : List (List ByteArray)} (h : PathsV (NewIn L B w) w v p) (hk : TStay L w w') : PathsV (NewIn L B w') w' v p := (h.keep (NewIn.stay hk)).mono (NewIn.moved hk)
theorem FactsV.move {v : Value} {p : List Fa} (h : FactsV (NewIn L B w) w v p) (hk : TStay L w w') : FactsV (NewIn L B w') w' v p := (h.keep (NewIn.stay hk)).mono (NewIn.moved hk)
theorem DeepE.move {zs : List (Value × En)} (h : DeepE (NewIn L B w) w zs) (hk : TStay L w w') : DeepE (NewIn L B w') w' zs := fun z hz => (h z hz).move hk
theorem Sl.of_new {base size n c : Nat} {e : TypeId} {A : Option Addr} {xs : List Value} (h : w.ownsRow base e size (.slice A n c) n xs) (he : e ∈ L) : Sl (NewIn L base w) w size (.slice A n c) n xs :=
  Sl.of_own h fun _ h1 _ ⟨cs, h2⟩ => ⟨h1, cs, (), e, h2, he⟩
end
theorem own_stay {L : List TypeId} {base size n : Nat} {e : TypeId} {v : Value} {xs : List Value} {w w' : World} (h : w.ownsRow base e size v n xs) (he : e ∈ L) (hk : TStay L w w') : w'.ownsRow base e size v n xs := by
  refine ⟨h.1, ?_⟩
  rcases h.2 with h0 | ⟨g, cap, cur, h1, h2, h3, h4⟩
  · exact .inl h0
  · exact .inr ⟨g, cap, cur, h1, h2, (hk g ⟨cur, (), e, h3, he⟩).trans h3, h4⟩
theorem Blk.stay {L : List TypeId} {g : Nat} {T : TypeId} {cs : Array Value} {w w' : World} (h : Blk w g T cs) (hT : T ∈ L) (hk : TStay L w w') : Blk w' g T cs := (hk g ⟨cs, (), T, h, hT⟩).trans h
theorem Rds.one (w : World) (T : TypeId) (v : Value) : Rds (w.alloc (.cells #[v] T)) 1 (some ⟨w.heap.size, 0, none⟩) 1 [v] := by
  refine ⟨rfl, fun _ => ⟨_, rfl, fun j u hu => ?_⟩⟩
  match j with
  | 0 =>
    simp only [List.getElem?_cons_zero, Option.some.injEq] at hu
    subst hu
    rw [add_nought]
    exact cell_of_row _ _ 0 _ _ _ (heap_alloc_new w _)
  | j + 1 => simp at hu
theorem str_info : (Try.prog.info? 9).map (fun i => (i.zero, i.size, i.bytes)) = some (some (.string ByteArray.empty), 1, 16) := by kernel_rfl
theorem strs_info : (Try.prog.info? 23).map (fun i => (i.zero, i.size, i.bytes)) = some (some (.slice none 0 0), 1, 24) := by kernel_rfl
theorem fact_info : (Try.prog.info? 84).map (fun i => (i.zero, i.size, i.bytes)) = some (some (.agg #[.slice none 0 0, .slice none 0 0]), 2, 48) := by kernel_rfl
theorem cloneI_any (A : Option Addr) (n c : Nat) (l : List Int) (w : World) (hr : RdI w A n l) (hn : n ≤ 1000000) :
    Calls Try.prog 58 #[.slice A n c] w fun e w' => ∃ A' c', e = .returned (.slice A' n c') ∧
      w'.ownsRow w.heap.size 3 1 (.slice A' n c') n (l.map vi) ∧ Below w.heap.size w w' := by
  have q30 : ∀ (w : World) (a : Option Addr) (n c n' c' : Nat), (binOp .eql 30 (.slice a n c) (.slice none n' c')).run Try.prog w = .ok (.bool a.isNone) w := fun w a n c n' c' => Lib.run_eql_slice_nil w _ _ a n c n' c' Try.underlying30
  rcases A with _ | ad
  · have h0 : n = 0 := by
      rcases Nat.eq_zero_or_pos n with h | h
      · exact h
      · obtain ⟨ad, e, _⟩ := hr.at_ h
        cases e
    subst h0
    have hl : l = [] := List.eq_nil_of_length_eq_zero hr.len
    subst hl
    go_enter Try.func58, Try.ntmps58
    go_wp2
    go_ret
    exact ⟨none, 0, rfl, own_nil _ _, Below.refl _ _⟩
  · have hb1 : Below w.heap.size w (w.alloc (.cells #[] 3)) := (Below.refl _ _).alloc (Nat.le_refl _) _
    have hown : (w.alloc (.cells #[] 3)).ownsRow w.heap.size 3 1 (.slice (some ⟨w.heap.size, 0, none⟩) 0 0) 0 (([] : List Int).map vi) := own_new _ [] 0 rfl (Nat.zero_le _)
    go_enter Try.func58, Try.ntmps58
    go_wp2_with (first
        | (at_builtin; refine wpList_append_is rfl (.tmp 5) (.tmp 6) rfl w.heap.size rfl hown rfl (hr.alloc _) (by omega) hb1.size ?_; intro A3 c3 w3 hown3 hg3 hb3; clear hg3)
        | fail)
    go_ret
    simp only [Nat.zero_add, List.nil_append] at hown3
    exact ⟨A3, c3, rfl, hown3, hb1.trans hb3⟩
theorem vst_one (l : List ByteArray) (u : Value) (h : u ∈ l.map vst) : u.oneCell' = true := by
  obtain ⟨b, _, rfl⟩ := List.mem_map.1 h
  rfl
theorem cloneS_any (A : Option Addr) (n c : Nat) (l : List ByteArray) (w : World) (hr : RdT w A n l) (hn : n ≤ 1000000) :
    Calls Try.prog 90 #[.slice A n c] w fun e w' => ∃ A' c', e = .returned (.slice A' n c') ∧
      w'.ownsRow w.heap.size 9 1 (.slice A' n c') n (l.map vst) ∧ Below w.heap.size w w' := by
  have q30 : ∀ (w : World) (a : Option Addr) (n c n' c' : Nat), (binOp .eql 23 (.slice a n c) (.slice none n' c')).run Try.prog w = .ok (.bool a.isNone) w := fun w a n c n' c' => Lib.run_eql_slice_nil w _ _ a n c n' c' Try.underlying23
  obtain ⟨i0, hi0, hz0, hz1, hz2⟩ := info_parts str_info
  rcases A with _ | ad
  · have h0 : n = 0 := by
      rcases Nat.eq_zero_or_pos n with h | h
      · exact h
      · obtain ⟨ad, _, e, _⟩ := hr.at_ h
        cases e
    subst h0
    have hl : l = [] := List.eq_nil_of_length_eq_zero hr.len
    subst hl
    go_enter Try.func90, Try.ntmps90
    go_wp2
    go_ret
    exact ⟨none, 0, rfl, own_nil _ _, Below.refl _ _⟩
  · have hb1 : Below w.heap.size w (w.alloc (.cells #[] 9)) := (Below.refl _ _).alloc (Nat.le_refl _) _
    have hown : (w.alloc (.cells #[] 9)).ownsRow w.heap.size 9 1 (.slice (some ⟨w.heap.size, 0, none⟩) 0 0) 0 [] := own_new _ [] 0 rfl (Nat.zero_le _)
    have hr1 : Rds (w.alloc (.cells #[] 9)) 1 (some ad) n (l.map vst) := Rds.alloc hr _
    go_enter Try.func90, Try.ntmps90
    go_wp2_with (first
        | (at_builtin; refine wpList_append_any _ rfl (.tmp 5) (.tmp 6) 23 rfl w.heap.size 9 i0 _ 1 16 Try.underlying23 hi0 hz0 hz1 hz2 rfl (by omega) _ 0 [] rfl hown (some ad) n c _ rfl hr1 (vst_one l) (by unfold maxLen; omega) (by omega) hb1.size ?_; intro A3 c3 w3 hown3 hg3 _)
        | fail)
    have hb3 := below_own hown hg3 hb1.size
    simp only [Nat.zero_add, List.nil_append] at hown3
    clear hg3
    go_ret
    exact ⟨A3, c3, rfl, hown3, hb1.trans hb3⟩
def TP3 : List TypeId := [23, 9, 3]
def TS1 : List TypeId := [9]
def TI1 : List TypeId := [3]
/-- facts copied so far, in rows of the call's own -/
def OwnF (B : Nat) (w : World) (A : Option Addr) (k c : Nat) (fs : List Fa) : Prop :=
  ∃ ys : List (Value × Value), w.ownsRow B 84 2 (.slice A k c) k (ys.flatMap faC) ∧ ys.length = k ∧ fs.length = k ∧ ∀ (i : Nat) f, fs[i]? = some f → ∃ y, ys[i]? = some y ∧ PathsV (NewIn TP3 B w) w y.1 f.paths ∧ IntsV (NewIn TP3 B w) w y.2 f.vals
def OwnP (B B' : Nat) (w : World) (A : Option Addr) (k c : Nat) (ps : List (List ByteArray)) : Prop :=
  ∃ vs : List Value, w.ownsRow B 23 1 (.slice A k c) k vs ∧ ps.length = k ∧ ∀ (i : Nat) p, ps[i]? = some p → ∃ u, vs[i]? = some u ∧ PathV (NewIn TS1 B' w) w u p
section
variable {B B' : Nat} {w w' : World} {A : Option Addr} {k c : Nat}
theorem OwnF.below {fs : List Fa} (h : OwnF B w A k c fs) (hb : Below w.heap.size w w') : OwnF B w' A k c fs := by
  obtain ⟨ys, h1, h2, h3, h4⟩ := h
  refine ⟨ys, own_below h1 hb, h2, h3, fun i f hf => ?_⟩
  obtain ⟨y, h5, h6, h7⟩ := h4 i f hf
  exact ⟨y, h5, h6.move (TStay.below hb), h7.move (TStay.below hb)⟩
theorem OwnP.below {ps : List (List ByteArray)} (h : OwnP B B' w A k c ps) (hb : Below w.heap.size w w') : OwnP B B' w' A k c ps := by
  obtain ⟨vs, h1, h3, h4⟩ := h
  refine ⟨vs, own_below h1 hb, h3, fun i f hf => ?_⟩
  obtain ⟨u, h5, h6⟩ := h4 i f hf
  exact ⟨u, h5, h6.move (TStay.below hb)⟩
theorem OwnP.stay {ps : List (List ByteArray)} (h : OwnP B B' w A k c ps) (h1 : TStay [23] w w') (h2 : TStay TS1 w w') : OwnP B B' w' A k c ps := by
  obtain ⟨vs, h3, h4, h5⟩ := h
  refine ⟨vs, own_stay h3 (by decide) h1, h4, fun i f hf => ?_⟩
  obtain ⟨u, h6, h7⟩ := h5 i f hf
  exact ⟨u, h6, h7.move h2⟩
theorem OwnP.paths {ps : List (List ByteArray)} (h : OwnP B B w A k c ps) : PathsV (NewIn TP3 B w) w (.slice A k c) ps := by
  obtain ⟨vs, h1, h3, h4⟩ := h
  refine ⟨vs, ?_, fun i p hp => ?_⟩
  · subst h3
    exact Sl.of_new (L := TP3) h1 (by decide)
  · obtain ⟨u, h5, h6⟩ := h4 i p hp
    exact ⟨u, h5, h6.mono (NewIn.wide (by decide) (Nat.le_refl _))⟩
theorem OwnF.facts {fs : List Fa} (h : OwnF B w A k c fs) : FactsV (NewIn TD B w) w (.slice A k c) fs := by
  obtain ⟨ys, h1, h2, h3, h4⟩ := h
  refine ⟨ys, ?_, by omega, fun i f hf => ?_⟩
  · subst h3
    exact Sl.of_new (L := TD) h1 (by decide)
  · obtain ⟨y, h5, h6, h7⟩ := h4 i f hf
    exact ⟨y, h5, h6.mono (NewIn.wide (by decide) (Nat.le_refl _)), h7.mono (NewIn.wide (by decide) (Nat.le_refl _))⟩
end
set_option maxRecDepth 100000 in
set_option maxHeartbeats 2000000 in
theorem copy_any (S : Nat → Prop) (A : Option Addr) (n c : Nat) (fs : List Fa) (w : World) (hf : FactsV S w (.slice A n c) fs) (hn : n ≤ 100000) (hsm : ∀ f ∈ fs, f.paths.length ≤ 100000 ∧ f.vals.length ≤ 100000 ∧ ∀ p ∈ f.paths, p.length ≤ 100000) :
    Calls Try.prog 84 #[.slice A n c] w fun e w' => ∃ A' c', e = .returned (.slice A' n c') ∧ OwnF w.heap.size w' A' n c' fs ∧ Below w.heap.size w w' := by
  have H1 := Lib.hid (facts_len hf)
  have Hsm := Lib.hid hsm
  clear hsm
  go_enter Try.func84, Try.ntmps84
  go_wp2_with fail
  go_loopw [3, 11] (fun o i wr => ∃ (k : Nat) (A' : Option Addr) (c' : Nat), k ≤ n ∧ i = .int .i64 k ∧ o = .slice A' k c' ∧ OwnF w.heap.size wr A' k c' (fs.take k) ∧ Below w.heap.size w wr) (fun _ i _ => n - (intOf i).toNat)
  case atStart => exact ⟨0, none, 0, Nat.zero_le _, rfl, rfl, ⟨[], own_nil _ _, rfl, rfl, fun i f h => by cases h⟩, Below.refl _ _⟩
  case round =>
    obtain ⟨k, A', c', hk, rfl, rfl, hO, hb⟩ := hrel
    by_cases hlt : k < n
    · obtain ⟨ad, f, B, mp, d, C, mv, r, rfl, hfk, c0, c1, hp, hvl, hmd, hdm, hpl, hmr, hrm, hvll⟩ := (hf.keep (Stay.below (S := S) hb)).at_ hlt
      have hsf := Hsm.out f (List.mem_of_getElem? hfk)
      have Hpl := Lib.hid hpl
      have Hvl := Lib.hid hvll
      have hmp : mp ≤ 100000 := by rw [← hpl]; exact hsf.1
      have hmv : mv ≤ 100000 := by rw [← hvll]; exact hsf.2.1
      have Hsp := Lib.hid hsf.2.2
      have Htk := Lib.hid (show fs.take (k + 1) = fs.take k ++ [f] by rw [List.take_add_one, hfk]; rfl)
      have hmeas := Lib.hid (show n - (k + 1) < n - k by omega)
      clear hpl hvll hsf hfk
      have hbA : Below wr.heap.size wr (wr.alloc (.cells #[.slice B mp d, .slice C mv r] 84)) := (Below.refl _ _).alloc (Nat.le_refl _) _
      have hblk := Blk.new wr 84 #[.slice B mp d, .slice C mv r]
      have hp1 := hp.keep (Stay.below (S := S) hbA)
      have hv1 := hvl.keep (Stay.below (S := S) hbA)
      have hb01 := below_then hb hbA (Nat.le_refl _)
      have hO1 := hO.below hbA
      go_wp2_with fail
      generalize wr.alloc (.cells #[.slice B mp d, .slice C mv r] 84) = w2 at *
      generalize wr.heap.size = g at *
      refine (cloneI_any _ _ _ _ _ hv1.rd (by omega)).mono ?_
      rintro e w3 ⟨A3, c3, rfl, hown3, hb3⟩
      have hc0 := (hblk.kept hb3).cell 0
      simp only [List.getElem?_toArray, List.getElem?_cons_zero] at hc0
      have hp3 := hp1.keep (Stay.below (S := S) hb3)
      have hO3 := hO1.below hb3
      have hb03 := below_then hb01 hb3 (Nat.le_refl _)
      have hgl := Nat.lt_of_lt_of_le hblk.lt hb3.size
      have hw2 := hb01.size
      clear hO hO1 hp hp1 hb hb01
      go_wp2_with fail
      have hg6 : w3.heap.size = w3.heap.size := rfl
      have hb4 : Below w3.heap.size w3 (w3.alloc (.cells #[.slice none 0 0, .slice A3 mv c3] 84)) := (Below.refl _ _).alloc (Nat.le_refl _) _
      have hk4 := Blk.new w3 84 #[.slice none 0 0, .slice A3 mv c3]
      clear hg6
      generalize hgg0 : w3.heap.size = g6 at *
      have hgg := Lib.hid hgg0
      clear hgg0
      go_loopw [22] (fun i wr' => ∃ (j : Nat) (A6 : Option Addr) (c6 : Nat), j ≤ mp ∧ i = .int .i64 j ∧ Blk wr' g6 84 #[.slice A6 j c6, .slice A3 mv c3] ∧ OwnP g6 g6 wr' A6 j c6 (f.paths.take j) ∧ Below g6 w3 wr') (fun i _ => mp - (intOf i).toNat)
      case atStart => exact ⟨0, none, 0, Nat.zero_le _, rfl, hk4, ⟨[], own_nil _ _, rfl, fun i p h => by cases h⟩, hb4⟩
      case round =>
        obtain ⟨j, A6, c6, hj, rfl, hk6, hP, hb'⟩ := hrel
        have hg6l := hk6.lt
        by_cases hlt' : j < mp
        · obtain ⟨cd, p, C1, s1, t1, rfl, hq1, c2, z1, z2, z3, z4⟩ := (hp3.keep (Stay.below (S := S) (by rw [hgg.out]; exact hb'))).at_ hlt'
          have hs1 : s1 ≤ 100000 := by rw [← z4]; exact Hsp.out p (List.mem_of_getElem? hq1)
          have Htk' := Lib.hid (show f.paths.take (j + 1) = f.paths.take j ++ [p] by rw [List.take_add_one, hq1]; rfl)
          have hmeas' := Lib.hid (show mp - (j + 1) < mp - j by omega)
          clear hq1
          have q0 := hk6.cell 0
          simp only [List.getElem?_toArray, List.getElem?_cons_zero] at q0
          have k0 := keep_cell (gs := [g6]) q0 (by simp)
          go_wp2_with fail
          refine wp_region_mixE (C := keepW [g6] wr) [([0, 1, 2], 3), ([], 4), ([], 5)] ([6], 7) (by kernel_rfl) (by kernel_rfl) (fun _ _ _ _ e h => ⟨e.symm.trans h.1, h.2⟩) keepW_refl ?_
          refine wpSegsE_step fun K1 hK1 => ?_
          simp only [pickL, List.getElem?_cons_zero, List.getElem?_cons_succ]
          repeat (go_big_quiet_step (fail))
          refine wpQuiet_nil ?_
          go_wp2_with fail
          refine (cloneS_any (w := wr.drew) _ _ _ _ z1.rd (by omega)).mono ?_
          rintro e w5 ⟨A8, c8, rfl, hown8, hb5⟩
          have hb5 : Below wr.heap.size wr w5 := (below_drewN (Below.refl wr.heap.size wr) 1).trans hb5
          go_wp2_with fail
          refine ⟨keepW_below (by simp; exact hg6l) hb5, hK1 _ _ ?_⟩
          have hb6 : Below w5.heap.size w5 (w5.alloc (.cells #[.slice A8 s1 c8] 23)) := (Below.refl _ _).alloc (Nat.le_refl _) _
          have hk8 := Rds.one w5 23 (.slice A8 s1 c8)
          have hb06 := below_then hb5 hb6 (Nat.le_refl _)
          have hP6 := hP.below hb06
          have hown9 := own_below hown8 hb6
          have hk9 := hk6.kept hb06
          have hsz6 : g6 ≤ (w5.alloc (.cells #[.slice A8 s1 c8] 23)).heap.size := by have := hb06.size; omega
          refine wpSegsE_step fun K2 hK2 => ?_
          simp only [pickL, List.getElem?_cons_zero, List.getElem?_cons_succ]
          repeat (go_big_quiet_step (fail))
          refine wpQuiet_nil ?_
          go_wp2_with fail
          refine ⟨keepW_below (by simp; exact hg6l) hb06, hK2 _ _ ?_⟩
          generalize w5.alloc (.cells #[.slice A8 s1 c8] 23) = w6 at *
          obtain ⟨vs6, hrow, hlp, hin⟩ := hP6
          obtain ⟨i0, hi0, hz0, hz1, hz2⟩ := info_parts strs_info
          have Hi0 := Lib.hid hi0
          have Hz0 := Lib.hid hz0
          have Hz1 := Lib.hid hz1
          have Hz2 := Lib.hid hz2
          clear hi0 hz0 hz1 hz2
          have hj1 : j + 1 ≤ 1000000 := by omega
          refine wpSegsE_step fun K3 hK3 => ?_
          simp only [pickL, List.getElem?_cons_zero, List.getElem?_cons_succ]
          repeat (go_big_quiet_step (fail))
          refine wpQuiet_nil ?_
          go_wp2_with (at_builtin; refine wpList_append_any _ rfl (.tmp 27) (.tmp 30) 82 rfl g6 23 i0 _ 1 24 Try.underlying82 Hi0.out Hz0.out Hz1.out Hz2.out rfl (by omega) (.slice A6 j c6) j vs6 rfl hrow (some ⟨w5.heap.size, 0, none⟩) 1 1 [.slice A8 s1 c8] rfl hk8 (fun u hu => by rw [List.mem_singleton.1 hu]; rfl) (by unfold maxLen; omega) (by omega) hsz6 ?_; intro A9 c9 w9 hown9' hg9 _)
          have hk10 : Blk w9 g6 84 #[.slice A6 j c6, .slice A3 mv c3] := hk9.stay (L := [84]) (by decide) (TStay.grown hrow hg9 (by decide))
          have hst := TStay.grown (L := TS1) hrow hg9 (by decide)
          have hP9 : OwnP g6 g6 w9 A9 (j + 1) c9 (f.paths.take (j + 1)) := by
            refine ⟨_, hown9', by rw [Htk'.out, List.length_append, hlp]; rfl, fun i q hq => ?_⟩
            have hvl6 : vs6.length = j := by have := hrow.1; omega
            rw [Htk'.out] at hq
            rcases Nat.lt_or_ge i j with hi | hi
            · rw [List.getElem?_append_left (by omega)] at hq
              obtain ⟨u, hu, hpu⟩ := hin i q hq
              exact ⟨u, by rw [List.getElem?_append_left (by omega)]; exact hu, hpu.move hst⟩
            · rw [List.getElem?_append_right (by omega), hlp] at hq
              have hi0 : i = j := by
                rcases Nat.eq_zero_or_pos (i - j) with h' | h'
                · omega
                · rw [List.getElem?_eq_none (by simp; omega)] at hq; cases hq
              subst hi0
              simp only [Nat.sub_self, List.getElem?_cons_zero, Option.some.injEq] at hq
              subst hq
              refine ⟨_, by rw [List.getElem?_append_right (by omega), hvl6, Nat.sub_self]; rfl, ?_⟩
              have h1 := Sl.of_new (L := TS1) hown9 (by decide)
              rw [← z4] at h1
              have h2 : PathV (NewIn TS1 g6 w6) w6 (.slice A8 s1 c8) p := Sl.mono (by rw [← z4]; exact h1) (by omega) (NewIn.wide (fun _ h => h) (by show g6 ≤ wr.heap.size; omega))
              exact h2.move hst
          have hb69 : Below g6 w6 w9 := below_own hrow hg9 hsz6
          have hb09 : Below g6 w3 w9 := (hb'.trans (hb06.mono (by omega))).trans hb69
          go_wp2_with fail
          refine ⟨keepW_of (fun q hq => by rw [List.mem_singleton.1 hq]; exact Eq.trans hk10 hk6.symm), hK3 _ _ ?_⟩
          have f0 := hk10.free 0
          have r0 := hk10.cell 0
          simp only [List.getElem?_toArray, List.getElem?_cons_zero] at r0
          clear hg9 hown9' hrow hin
          have hfin : Blk (w9.setCell ⟨g6, 0, none⟩ (.slice A9 (j + 1) c9)) g6 84 #[.slice A9 (j + 1) c9, .slice A3 mv c3] ∧ OwnP g6 g6 (w9.setCell ⟨g6, 0, none⟩ (.slice A9 (j + 1) c9)) A9 (j + 1) c9 (f.paths.take (j + 1)) ∧ Below g6 w3 (w9.setCell ⟨g6, 0, none⟩ (.slice A9 (j + 1) c9)) :=
            ⟨by simpa using hk10.set_ 0 (.slice A9 (j + 1) c9), hP9.stay (TStay.set hk10 (by decide)) (TStay.set hk10 (by decide)), hb09.setCell (Nat.le_refl _) _⟩
          have hfin := Lib.hid hfin
          clear hP9 hb09 hst
          refine wpSegsE_last ?_
          simp only [pickL, List.getElem?_cons_zero, List.getElem?_cons_succ]
          repeat (go_big_quiet_step (fail))
          refine wpQuiet_nil ?_
          go_wp2_with fail
          refine ⟨⟨j + 1, A9, c9, hlt', by go_num, hfin.out.1, hfin.out.2.1, hfin.out.2.2⟩, by simp [intOf]; exact hmeas'.out⟩
        · obtain rfl : j = mp := by omega
          obtain ⟨w4, rfl⟩ : ∃ wo : World, wo = wr := ⟨_, rfl⟩
          rw [List.take_of_length_le (by rw [Hpl.out]; omega)] at hP
          have hb34 : Below w3.heap.size w3 w4 := by rw [hgg.out]; exact hb'
          have hown4 := own_below hown3 hb34
          have hO4 := hO3.below hb34
          have hpv := hP.paths
          have hiv := Sl.of_new (L := TP3) hown4 (by decide)
          have r0 := hk6.cell 0
          have r1 := hk6.cell 1
          simp only [List.getElem?_toArray, List.getElem?_cons_zero, List.getElem?_cons_succ] at r0 r1
          have hb04 := below_then hb03 hb34 (Nat.le_refl _)
          have hg6b : w.heap.size ≤ g6 := by rw [← hgg.out]; exact hb03.size
          have hbx : Below w4.heap.size w4 (w4.alloc (.cells #[.slice A6 j c6, .slice A3 mv c3] 84)) := (Below.refl _ _).alloc (Nat.le_refl _) _
          have hbk := Blk.new w4 84 #[.slice A6 j c6, .slice A3 mv c3]
          have hO5 := hO4.below hbx
          have hpv5 := hpv.move (TStay.below hbx)
          have hiv5 : IntsV (NewIn TP3 w2.heap.size w4) w4 (.slice A3 mv c3) f.vals := by
            show Sl _ _ _ _ _ _
            rw [Hvl.out]; exact hiv
          have hiv5 := hiv5.move (TStay.below hbx)
          have hb05 := below_then hb04 hbx (Nat.le_refl _)
          have hrd5 : Rds (w4.alloc (.cells #[.slice A6 j c6, .slice A3 mv c3] 84)) 2 (some ⟨w4.heap.size, 0, none⟩) 1 [.slice A6 j c6, .slice A3 mv c3] := ⟨rfl, fun _ => ⟨_, rfl, fun q u hu => by
            have e : (⟨w4.heap.size, 0, none⟩ : Addr).add q = ⟨w4.heap.size, q, none⟩ := by unfold Addr.add; split <;> simp [*]
            rw [e, hbk.cell q, ← hu]
            simp⟩⟩
          obtain ⟨ys, hrow, hly, hlf, hin⟩ := hO5
          obtain ⟨i0, hi0, hz0, hz1, hz2⟩ := info_parts fact_info
          clear hO3 hO4 hown3 hown4 hpv hiv hP hb'
          go_wp2_with (at_builtin; refine wpList_append_any _ rfl (.tmp 34) (.tmp 36) 50 rfl w.heap.size 84 i0 _ 2 48 Try.underlying50 hi0 hz0 hz1 hz2 rfl (by omega) (.slice A' k c') k _ rfl hrow (some ⟨w4.heap.size, 0, none⟩) 1 1 _ rfl hrd5 (fun u hu => by simp at hu; rcases hu with rfl | rfl <;> rfl) (by unfold maxLen; omega) (by omega) hb05.size ?_; intro A9 c9 w9 hown9 hg9 _)
          have hst := TStay.grown (L := TP3) hrow hg9 (by decide)
          refine ⟨⟨k + 1, A9, c9, hlt, by go_num, rfl, ⟨ys ++ [(.slice A6 j c6, .slice A3 mv c3)], ?_, by simp [hly], by rw [Htk.out, List.length_append, hlf]; rfl, fun i q hq => ?_⟩, hb05.trans (below_own hrow hg9 hb05.size)⟩, by simp [intOf]; exact hmeas.out⟩
          · rw [List.flatMap_append]
            exact hown9
          · rw [Htk.out] at hq
            rcases Nat.lt_or_ge i k with hi | hi
            · rw [List.getElem?_append_left (by omega)] at hq
              obtain ⟨y, hy, h1, h2⟩ := hin i q hq
              exact ⟨y, by rw [List.getElem?_append_left (by omega)]; exact hy, h1.move hst, h2.move hst⟩
            · rw [List.getElem?_append_right (by omega), hlf] at hq
              have hi0 : i = k := by
                rcases Nat.eq_zero_or_pos (i - k) with h' | h'
                · omega
                · rw [List.getElem?_eq_none (by simp; omega)] at hq; cases hq
              subst hi0
              simp only [Nat.sub_self, List.getElem?_cons_zero, Option.some.injEq] at hq
              subst hq
              exact ⟨_, by rw [List.getElem?_append_right (by omega), hly, Nat.sub_self]; rfl, (hpv5.mono (NewIn.wide (fun _ h => h) hg6b)).move hst, (hiv5.mono (NewIn.wide (fun _ h => h) hw2)).move hst⟩
    · obtain rfl : k = n := by omega
      rw [List.take_of_length_le (by rw [H1.out]; omega)] at hO
      go_wp2_with fail
      go_ret
      exact ⟨A', c', rfl, hO, hb⟩
/-- what is plain is small -/
def SmallF (fs : List Fa) : Prop := fs.length ≤ 100000 ∧ ∀ f ∈ fs, f.paths.length ≤ 100000 ∧ f.vals.length ≤ 100000 ∧ ∀ p ∈ f.paths, p.length ≤ 100000
theorem putE_small {fs : List Fa} (h : putE fs = 0) : SmallF fs := by
  unfold putE at h
  by_cases h8 : 8 < fs.length
  · rw [if_pos h8] at h; cases h
  · rw [if_neg h8] at h
    cases ha : fs.any fun f => !plainF f with
    | true => rw [ha] at h; cases h
    | false =>
      rw [List.any_eq_false] at ha
      refine ⟨by omega, fun f hf => ?_⟩
      have hp : plainF f = true := by have := ha f hf; simpa using this
      obtain ⟨h1, h2, h3⟩ := plainF_parts hp
      exact ⟨by omega, by omega, fun p hp => by have := mayP_len (h1 p hp); omega⟩
theorem cmdE_small {x : En} (h : cmdE x = 0) : SmallF x.facts := by
  unfold cmdE at h
  split at h
  · cases h
  · split at h
    · cases h
    · exact putE_small h
theorem plain_small {x : En} (h : plainB x = true) : SmallF x.facts := by
  have h : entE x = 0 := of_decide_eq_true h
  unfold entE at h
  split at h
  · cases h
  · exact cmdE_small h
/-- six cells written, one by one -/
def set6 (w : World) (g : Nat) (z : Value × En) : World :=
  (((((w.setCell ⟨g, 0, none⟩ (vi z.2.idx)).setCell ⟨g, 1, none⟩ (vi z.2.term)).setCell ⟨g, 2, none⟩ (vi z.2.op)).setCell ⟨g, 3, none⟩ (vi z.2.sess)).setCell ⟨g, 4, none⟩ (vi z.2.seq)).setCell ⟨g, 5, none⟩ z.1
theorem set6_spec {w : World} {g : Nat} {T : TypeId} {cs : Array Value} (z : Value × En) (h : Blk w g T cs) (hc : cs.size = 6) :
    Blk (set6 w g z) g T (enC z).toArray ∧ (∀ L, T ∉ L → TStay L w (set6 w g z)) ∧ ∀ B, B ≤ g → Below B w (set6 w g z) := by
  have h0 := h.set_ 0 (vi z.2.idx)
  have h1 := h0.set_ 1 (vi z.2.term)
  have h2 := h1.set_ 2 (vi z.2.op)
  have h3 := h2.set_ 3 (vi z.2.sess)
  have h4 := h3.set_ 4 (vi z.2.seq)
  have h5 := h4.set_ 5 z.1
  refine ⟨?_, fun L hL => ?_, fun B hB => ?_⟩
  · have e : ((((((cs.setIfInBounds 0 (vi z.2.idx)).setIfInBounds 1 (vi z.2.term)).setIfInBounds 2 (vi z.2.op)).setIfInBounds 3 (vi z.2.sess)).setIfInBounds 4 (vi z.2.seq)).setIfInBounds 5 z.1) = (enC z).toArray := by
      apply Array.ext
      · simp [hc, enC]
      · intro i hi1 hi2
        simp [enC] at hi2
        rcases (show i = 0 ∨ i = 1 ∨ i = 2 ∨ i = 3 ∨ i = 4 ∨ i = 5 by omega) with rfl | rfl | rfl | rfl | rfl | rfl <;> simp [hc, enC]
    rw [← e]
    exact h5
  · exact (((((TStay.set h hL).trans (TStay.set h0 hL)).trans (TStay.set h1 hL)).trans (TStay.set h2 hL)).trans (TStay.set h3 hL)).trans (TStay.set h4 hL)
  · exact ((((((Below.refl B w).setCell hB _).setCell hB _).setCell hB _).setCell hB _).setCell hB _).setCell hB _
/-- an entry in memory of its own -/
theorem own_any (S : Nat → Prop) (x : En) (A : Option Addr) (n c : Nat) (w : World) (hf : FactsV S w (.slice A n c) x.facts) (hs : SmallF x.facts) :
    Calls Try.prog 71 #[enV x (.slice A n c)] w fun e w' => ∃ A' c', e = .returned (enV x (.slice A' n c')) ∧ FactsV (NewIn TD w.heap.size w') w' (.slice A' n c') x.facts ∧ Below w.heap.size w w' := by
  have hn : n ≤ 100000 := by rw [← facts_len hf]; exact hs.1
  unfold enV
  obtain ⟨hbA, hk1, hk2⟩ := two_box w 65 65 #[.int .i64 x.idx, .int .i64 x.term, .int .i64 x.op, .int .i64 x.sess, .int .i64 x.seq, .slice A n c] #[.int .i64 0, .int .i64 0, .int .i64 0, .int .i64 0, .int .i64 0, .slice none 0 0]
  have g1 := hf.keep (Stay.below (S := S) hbA)
  go_enter Try.func71, Try.ntmps71
  go_wp2_with fail
  generalize (w.alloc (.cells #[.int .i64 x.idx, .int .i64 x.term, .int .i64 x.op, .int .i64 x.sess, .int .i64 x.seq, .slice A n c] 65)).alloc (.cells #[.int .i64 0, .int .i64 0, .int .i64 0, .int .i64 0, .int .i64 0, .slice none 0 0] 65) = w1 at *
  refine (copy_any S _ _ _ _ _ g1 hn hs.2).mono ?_
  rintro e w2 ⟨A2, c2, rfl, hO, hb2⟩
  have b1 := hk1.kept hb2
  have b2 := hk2.kept hb2
  have a0 := b1.cell 0
  have a1 := b1.cell 1
  have a2 := b1.cell 2
  have a3 := b1.cell 3
  have a4 := b1.cell 4
  have a5 := b1.cell 5
  have f5 := b1.free 5
  have d0 := b2.cell 0
  have d1 := b2.cell 1
  have d2 := b2.cell 2
  have d3 := b2.cell 3
  have d4 := b2.cell 4
  have d5 := b2.cell 5
  have f0 := b2.free 0
  have f1 := b2.free 1
  have f2 := b2.free 2
  have f3 := b2.free 3
  have f4 := b2.free 4
  have f6 := b2.free 5
  simp only [List.getElem?_toArray, List.getElem?_cons_zero, List.getElem?_cons_succ] at a0 a1 a2 a3 a4 a5 d0 d1 d2 d3 d4 d5
  go_wp2_with fail
  have hne : w.heap.size + 1 ≠ w.heap.size := by omega
  obtain ⟨s1, s2, s3⟩ := set6_spec (.slice A2 n c2, x) (b2.far (p := ⟨w.heap.size, 5, none⟩) hne (.slice A2 n c2)) rfl
  have hFin : FactsV (NewIn TD w.heap.size (set6 (w2.setCell ⟨w.heap.size, 5, none⟩ (.slice A2 n c2)) (w.heap.size + 1) (.slice A2 n c2, x))) (set6 (w2.setCell ⟨w.heap.size, 5, none⟩ (.slice A2 n c2)) (w.heap.size + 1) (.slice A2 n c2, x)) (.slice A2 n c2) x.facts :=
    (hO.facts.mono (NewIn.wide (fun _ h => h) hbA.size)).move ((TStay.set b1 (by decide)).trans (s2 _ (by decide)))
  have hBel : Below w.heap.size w (set6 (w2.setCell ⟨w.heap.size, 5, none⟩ (.slice A2 n c2)) (w.heap.size + 1) (.slice A2 n c2, x)) :=
    ((below_then hbA hb2 (Nat.le_refl _)).setCell (Nat.le_refl _) _).trans (s3 _ (by omega))
  show bodyPost _ _ _ _ _ (set6 (w2.setCell ⟨w.heap.size, 5, none⟩ (.slice A2 n c2)) (w.heap.size + 1) (.slice A2 n c2, x))
  generalize set6 (w2.setCell ⟨w.heap.size, 5, none⟩ (.slice A2 n c2)) (w.heap.size + 1) (.slice A2 n c2, x) = w9 at *
  have r0 := s1.cell 0
  have r1 := s1.cell 1
  have r2 := s1.cell 2
  have r3 := s1.cell 3
  have r4 := s1.cell 4
  have r5 := s1.cell 5
  simp only [enC, vi, List.getElem?_toArray, List.getElem?_cons_zero, List.getElem?_cons_succ] at r0 r1 r2 r3 r4 r5
  exact bodyPost_ret (v := .agg #[.int .i64 x.idx, .int .i64 x.term, .int .i64 x.op, .int .i64 x.sess, .int .i64 x.seq, .slice A2 n c2]) (by simp [results, Try.results71, go_sem, r0, r1, r2, r3, r4, r5]) rfl ⟨A2, c2, rfl, hFin, hBel⟩
end Go.Proofs.Ytojmkbhihnnmaaa
