/-
  A region that draws its order and holds calls, some of which may come up in whatever order: calm stretches, and groups of forced operations.
-/
import Derived.Test.YtojmkbhihnnmaaaMix
namespace Go.Proofs.Ytojmkbhihnnmaaa
open Go.RowKit

section
variable {P : Program} {l : List Oper} {C : World → Prop} {Q : Exit → Act → World → Prop}

/-- the operations of a group, in whatever order -/
def wpGrp (P : Program) (l : List Oper) (C : World → Prop) (Q : Exit → Act → World → Prop) (next : Act → World → Prop) : Nat → List Nat → Act → World → Prop
  | 0, _, a, w => next a w
  | n + 1, g, a, w => ∀ i ∈ g, wpList P l.toArray (mixExit C (wpGrp P l C Q next n (g.erase i)) Q) (pickL l [i]) a w
def wpGrps (P : Program) (l : List Oper) (C : World → Prop) (Q : Exit → Act → World → Prop) : List (List Nat × List Nat) → List Nat → Act → World → Prop
  | [], last, a, w => wpQuiet P l.toArray C (fun a' => Q .normal a' w) (pickL l last) a
  | (seg, g) :: more, last, a, w => wpQuiet P l.toArray C (fun a' => wpGrp P l C Q (wpGrps P l C Q more last) g.length g a' w) (pickL l seg) a
def grpRow (l : List Oper) (k : Array Bool → Bool) : Nat → List Nat → Array Bool → Bool
  | 0, _, listed => k listed
  | n + 1, g, listed => (!g.isEmpty) && Region.ready .any l.toArray listed == g && g.all fun i => grpRow l k n (g.erase i) (listed.setIfInBounds i true)
def grpsRow (l : List Oper) : List (List Nat × List Nat) → List Nat → Array Bool → Bool
  | [], last, listed => match calmRow l last listed with
    | some r => (Region.ready .any l.toArray r).isEmpty
    | none => false
  | (seg, g) :: more, last, listed => match calmRow l seg listed with
    | some r => grpRow l (grpsRow l more last) g.length g r
    | none => false
def grpsLen : List (List Nat × List Nat) → Nat
  | [] => 0
  | s :: more => s.1.length + (s.2.length + grpsLen more)
def grpsB (l : List Oper) (segs : List (List Nat × List Nat)) (last : List Nat) : Bool :=
  Region.noSelect l.toArray && (grpsLen segs + last.length == l.length) && grpsRow l segs last (Array.replicate l.length false)

theorem wp_mix_next {o : Oper} {a : Act} {w : World} {next next' K K' : Act → World → Prop} (h : ∀ a w, K a w → K' a w) (hh : o.wp P a w K (mixExit C next Q)) : o.wp P a w K' (mixExit C next' Q) := by
  unfold Oper.wp at *
  generalize (execOp a.eval o).run P w = r at *
  cases r with
  | ok n w' =>
    cases n <;> simp only [Oper.upon] at hh ⊢ <;>
      first
        | exact h _ _ hh
        | exact Calls.mono hh (fun e w'' he => by cases e <;> first | exact h _ _ he | exact he)
        | exact Rows.mono hh (fun _ _ he => h _ _ he)
  | halt x w' => cases x <;> simp only [Oper.upon] at hh ⊢ <;> exact hh
theorem wpList_next {next next' : Act → World → Prop} (hn : ∀ a w, next a w → next' a w) : ∀ (ops : List Oper) (a : Act) (w : World), wpList P l.toArray (mixExit C next Q) ops a w → wpList P l.toArray (mixExit C next' Q) ops a w
  | [], a, w, h => ⟨h.1, hn _ _ h.2⟩
  | o :: os, a, w, h => by
    unfold wpList at h ⊢
    split
    · rename_i hw
      rw [if_pos hw] at h
      exact h.imp (wp_mix_next (wpList_next hn os)) (fun h2 => h2)
    · rename_i hw
      rw [if_neg hw] at h
      exact wpList_next hn os _ _ h
theorem wpGrps_one {seg last : List Nat} {i : Nat} {more : List (List Nat × List Nat)} {a : Act} {w : World}
    (h : ∀ K : Act → World → Prop, (∀ a w, wpGrps P l C Q more last a w → K a w) → wpQuiet P l.toArray C (fun a' => wpList P l.toArray (mixExit C K Q) (pickL l [i]) a' w) (pickL l seg) a) :
    wpGrps P l C Q ((seg, [i]) :: more) last a w := by
  have := h _ (fun _ _ h => h)
  unfold wpGrps
  have e : ∀ a', wpList P l.toArray (mixExit C (wpGrps P l C Q more last) Q) (pickL l [i]) a' w → wpGrp P l C Q (wpGrps P l C Q more last) [i].length [i] a' w := by
    intro a' h' j hj
    obtain rfl : j = i := by simpa using hj
    rw [show ([j] : List Nat).erase j = [] by simp]
    exact h'
  have mono : ∀ (ops : List Oper) (a : Act) (R R' : Act → Prop), (∀ a, R a → R' a) → wpQuiet P l.toArray C R ops a → wpQuiet P l.toArray C R' ops a := by
    intro ops
    induction ops with
    | nil => intro a R R' hR h; exact hR a h
    | cons o os ih =>
      intro a R R' hR h
      unfold wpQuiet at h ⊢
      split
      · rename_i hw
        rw [if_pos hw] at h
        obtain ⟨v, hv, hk⟩ := h
        exact ⟨v, hv, ih _ R R' hR hk⟩
      · rename_i hw
        rw [if_neg hw] at h
        exact ih _ R R' hR h
  exact mono _ _ _ _ e this
theorem wpGrps_two {seg last : List Nat} {i j : Nat} (hij : i ≠ j) {more : List (List Nat × List Nat)} {a : Act} {w : World}
    (h : ∀ K : Act → World → Prop, (∀ a w, wpGrps P l C Q more last a w → K a w) → wpQuiet P l.toArray C (fun a' =>
      wpList P l.toArray (mixExit C (fun a w => wpList P l.toArray (mixExit C K Q) (pickL l [j]) a w) Q) (pickL l [i]) a' w ∧
      wpList P l.toArray (mixExit C (fun a w => wpList P l.toArray (mixExit C K Q) (pickL l [i]) a w) Q) (pickL l [j]) a' w) (pickL l seg) a) :
    wpGrps P l C Q ((seg, [i, j]) :: more) last a w := by
  have := h _ (fun _ _ h => h)
  unfold wpGrps
  have one : ∀ k a w, wpList P l.toArray (mixExit C (wpGrps P l C Q more last) Q) (pickL l [k]) a w → wpGrp P l C Q (wpGrps P l C Q more last) 1 [k] a w := by
    intro k a w h' k' hk'
    obtain rfl : k' = k := by simpa using hk'
    rw [show ([k'] : List Nat).erase k' = [] by simp]
    exact h'
  have e1 : ([i, j] : List Nat).erase i = [j] := by simp
  have e2 : ([i, j] : List Nat).erase j = [i] := by
    rw [List.erase_cons, if_neg (by simpa using hij)]; simp
  have e : ∀ a', (wpList P l.toArray (mixExit C (fun a w => wpList P l.toArray (mixExit C (wpGrps P l C Q more last) Q) (pickL l [j]) a w) Q) (pickL l [i]) a' w ∧
      wpList P l.toArray (mixExit C (fun a w => wpList P l.toArray (mixExit C (wpGrps P l C Q more last) Q) (pickL l [i]) a w) Q) (pickL l [j]) a' w) → wpGrp P l C Q (wpGrps P l C Q more last) [i, j].length [i, j] a' w := by
    rintro a' ⟨h1, h2⟩ k hk
    have hk' : k = i ∨ k = j := by simpa using hk
    rcases hk' with rfl | rfl
    · rw [e1]
      exact wpList_next (one _) _ _ _ h1
    · rw [e2]
      exact wpList_next (one _) _ _ _ h2
  have mono : ∀ (ops : List Oper) (a : Act) (R R' : Act → Prop), (∀ a, R a → R' a) → wpQuiet P l.toArray C R ops a → wpQuiet P l.toArray C R' ops a := by
    intro ops
    induction ops with
    | nil => intro a R R' hR h; exact hR a h
    | cons o os ih =>
      intro a R R' hR h
      unfold wpQuiet at h ⊢
      split
      · rename_i hw
        rw [if_pos hw] at h
        obtain ⟨v, hv, hk⟩ := h
        exact ⟨v, hv, ih _ R R' hR hk⟩
      · rename_i hw
        rw [if_neg hw] at h
        exact ih _ R R' hR h
  exact mono _ _ _ _ e this
theorem wpGrps_last {last : List Nat} {a : Act} {w : World} (h : wpQuiet P l.toArray C (fun a' => Q .normal a' w) (pickL l last) a) : wpGrps P l C Q [] last a w := h

theorem grp_any (next : Act → World → Prop) (k : Array Bool → Bool) (m : Nat)
    (hk : ∀ listed a w, k listed = true → C w → next a w → wpAnyH P .any l.toArray Q C m listed a w) :
    ∀ (n : Nat) (g : List Nat) (listed : Array Bool) (a : Act) (w : World), grpRow l k n g listed = true → C w → wpGrp P l C Q next n g a w → wpAnyH P .any l.toArray Q C (n + m) listed a w := by
  intro n
  induction n with
  | zero =>
    intro g listed a w hr hC h
    rw [Nat.zero_add]
    exact hk listed a w hr hC h
  | succ n ih =>
    intro g listed a w hr hC h
    unfold grpRow at hr
    simp only [Bool.and_eq_true, beq_iff_eq, List.all_eq_true] at hr
    obtain ⟨⟨hne, hrd⟩, hall⟩ := hr
    rw [show n + 1 + m = (n + m) + 1 by omega]
    refine wpAnyH_all hrd (by intro e; rw [e] at hne; simp at hne) fun i hi => ?_
    have hready : i ∈ Region.ready .any l.toArray listed := by rw [hrd]; exact hi
    obtain ⟨_, o, ho, _⟩ := mem_ready.1 hready
    have ho' : l[i]? = some o := by simpa using ho
    have hp : pickL l [i] = [o] := by simp [pickL, ho']
    have ha := h i hi
    rw [hp] at ha
    unfold wpOp
    rw [ho]
    simp only []
    unfold wpList at ha
    have hmono : ∀ a2 w2, wpList P l.toArray (mixExit C (wpGrp P l C Q next n (g.erase i)) Q) [] a2 w2 → C w2 ∧ wpAnyH P .any l.toArray Q C (n + m) (listed.setIfInBounds i true) a2 w2 :=
      fun a2 w2 h2 => ⟨h2.1, ih _ _ a2 w2 (hall i hi) h2.1 h2.2⟩
    split
    · rename_i hw
      rw [if_pos hw] at ha
      exact ha.imp (wp_of_mix hmono) (fun h2 => h2)
    · rename_i hw
      rw [if_neg hw] at ha
      exact hmono _ _ ha

theorem grps_any (hs : Region.noSelect l.toArray = true) (hQ : ∀ c (a b : Act) w, a.defers = b.defers → Q (.panic c) a w → Q (.panic c) b w) (last : List Nat) (segs : List (List Nat × List Nat)) :
    ∀ (listed : Array Bool) (a : Act) (w : World), grpsRow l segs last listed = true → C w → wpGrps P l C Q segs last a w →
      wpAnyH P .any l.toArray Q C (grpsLen segs + last.length) listed a w := by
  induction segs with
  | nil =>
    intro listed a w hr hC h
    unfold grpsRow at hr
    cases hc : calmRow l last listed with
    | none => rw [hc] at hr; cases hr
    | some r =>
      rw [hc] at hr
      have := calm_take (P := P) (C := C) (Q := Q) hs hQ last listed r a w 0 (fun a' => Q .normal a' w) hc hC h (fun a' ha => wpAnyH_done (by simpa using hr) ha 0)
      simpa [grpsLen] using this
  | cons s more ih =>
    obtain ⟨seg, g⟩ := s
    intro listed a w hr hC h
    unfold grpsRow at hr
    cases hc : calmRow l seg listed with
    | none => rw [hc] at hr; cases hr
    | some r =>
      rw [hc] at hr
      have hlen : grpsLen ((seg, g) :: more) + last.length = seg.length + (g.length + (grpsLen more + last.length)) := by
        simp [grpsLen]; omega
      rw [hlen]
      refine calm_take (P := P) (C := C) (Q := Q) hs hQ seg listed r a w _ _ hc hC h fun a' ha => ?_
      exact grp_any (P := P) (C := C) (Q := Q) _ _ _ (fun listed a w h1 h2 h3 => ih listed a w h1 h2 h3) g.length g r a' w hr hC ha

/-- A REGION THAT DRAWS ITS ORDER: calm stretches, and groups of forced operations between them -/
theorem wp_region_grps {id : Nat} {a : Act} {w : World} (segs : List (List Nat × List Nat)) (last : List Nat) (hm : P.follows .mixedOrders = true) (hB : grpsB l segs last = true)
    (hQ : ∀ c (a b : Act) w, a.defers = b.defers → Q (.panic c) a w → Q (.panic c) b w) (hC : C w.drew) (h : wpGrps P l C Q segs last a w.drew) : (Code.region id l.toArray true).wp P Q a w := by
  simp only [grpsB, Bool.and_eq_true, beq_iff_eq] at hB
  obtain ⟨⟨hs, hlen⟩, hrow⟩ := hB
  refine wp_region_held (S := C) hm ?_
  have := grps_any (P := P) hs hQ last segs _ a w.drew hrow hC h
  rw [hlen] at this
  simpa using this
end
end Go.Proofs.Ytojmkbhihnnmaaa
