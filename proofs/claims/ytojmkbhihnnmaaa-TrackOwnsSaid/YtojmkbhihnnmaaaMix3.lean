/-
  A region that draws its order, holds calls and ends with a store to what it has read: behind the last forced operation nothing is asked of the world.
-/
import Derived.Test.YtojmkbhihnnmaaaMix
namespace Go.Proofs.Ytojmkbhihnnmaaa
open Go.RowKit

/-- the walk: stretches of calm operations and forced ones; the last forced one ends the region -/
def wpSegsE (P : Program) (l : List Oper) (C : World → Prop) (Q : Exit → Act → World → Prop) (z : List Nat × Nat) : List (List Nat × Nat) → Act → World → Prop
  | [], a, w => wpQuiet P l.toArray C (fun a' => wpList P l.toArray Q (pickL l [z.2]) a' w) (pickL l z.1) a
  | (seg, i) :: more, a, w => wpQuiet P l.toArray C (fun a' => wpList P l.toArray (mixExit C (wpSegsE P l C Q z more) Q) (pickL l [i]) a' w) (pickL l seg) a
/-- the operations that wait for operation i -/
def downs (l : List Oper) (i : Nat) : List Nat :=
  (List.range l.length).foldl (fun D q => if (match l[q]? with | some o => o.after.any fun e => Region.binds .any e && (e.on == i || D.contains e.on) | none => false) then D ++ [q] else D) []
/-- does operation z wait for operation i, by a way whose operations are all to come? -/
def waitsB (l : List Oper) (i z : Nat) (listed : Array Bool) : Bool :=
  (downs l i).contains z && (downs l i).all fun q => !(listed.getD q true) && (match l[q]? with | some o => o.after.any fun e => Region.binds .any e && (e.on == i || (downs l i).contains e.on) | none => false)
def calmRowE (l : List Oper) (z : Nat) : List Nat → Array Bool → Option (Array Bool)
  | [], listed => some listed
  | i :: is, listed => if (Region.ready .any l.toArray listed).contains i && Region.free .any l.toArray listed i && ((l[i]?).map calm).getD false && waitsB l i z listed then calmRowE l z is (listed.setIfInBounds i true) else none
def mixRowE (l : List Oper) (z : List Nat × Nat) : List (List Nat × Nat) → Array Bool → Bool
  | [], listed => match calmRowE l z.2 z.1 listed with
    | some r => Region.ready .any l.toArray r == [z.2] && (Region.ready .any l.toArray (r.setIfInBounds z.2 true)).isEmpty
    | none => false
  | (seg, i) :: more, listed => match calmRowE l z.2 seg listed with
    | some r => Region.ready .any l.toArray r == [i] && mixRowE l z more (r.setIfInBounds i true)
    | none => false
def mixBE (l : List Oper) (segs : List (List Nat × Nat)) (z : List Nat × Nat) : Bool :=
  Region.noSelect l.toArray && (segs.map (fun s => s.1.length + 1)).sum + (z.1.length + 1) == l.length && mixRowE l z segs (Array.replicate l.length false)
section
variable {P : Program} {ops : Array Oper} {Q : Exit → Act → World → Prop} {S : World → Prop} {z : Nat}
/-- whatever order is picked from here on; behind each operation but the last, S holds -/
def wpAnyG (P : Program) (ops : Array Oper) (Q : Exit → Act → World → Prop) (S : World → Prop) (z : Nat) : Nat → Array Bool → Act → World → Prop
  | 0, listed, a, w => Region.ready .any ops listed = [] ∧ Q .normal a w
  | fuel + 1, listed, a, w =>
    (Region.ready .any ops listed = [] → Q .normal a w) ∧
    ∀ i ∈ Region.ready .any ops listed, wpOp P ops Q i (fun a' w' => (i = z ∨ S w') ∧ wpAnyG P ops Q S z fuel (listed.setIfInBounds i true) a' w') a w
theorem wpAny_of_G : ∀ (fuel : Nat) (listed : Array Bool) (a : Act) (w : World), wpAnyG P ops Q S z fuel listed a w → wpAny P .any ops Q fuel listed a w
  | 0, _, _, _, h => h
  | fuel + 1, _, _, _, h => ⟨h.1, fun i hi => wpOp_mono (fun a' w' h' => wpAny_of_G fuel _ a' w' h'.2) (h.2 i hi)⟩
theorem wpAnyG_first {i : Nat} {oi : Oper} {v : Value} {D : List Nat} (hi : ops[i]? = some oi) (hsel : ∀ (j : Nat) (o : Oper) cs b, ops[j]? = some o → o.op ≠ .select cs b)
    (hQ : ∀ c a w, Q (.panic c) (a.put oi.dst v) w → Q (.panic c) a w) (hzD : z ∈ D) (hD : ∀ q ∈ D, ∃ oq, ops[q]? = some oq ∧ ∃ e ∈ oq.after, Region.binds .any e = true ∧ (e.on = i ∨ e.on ∈ D)) :
    ∀ (fuel : Nat) (listed : Array Bool) (a : Act) (w : World),
      (∀ q ∈ D, listed.getD q true = false) →
      (∀ j oj, ops[j]? = some oj → j ≠ i → listed.getD j true = false → (∀ e ∈ oj.after, Region.binds .any e = true → e.on ≠ i) → oi.apart ops oj = true) →
      i ∈ Region.ready .any ops listed → YieldsIf P ops S oi v a → S w →
      wpAnyG P ops Q S z fuel (listed.setIfInBounds i true) (a.put oi.dst v) w → wpAnyG P ops Q S z (fuel + 1) listed a w := by
  intro fuel
  induction fuel with
  | zero =>
    intro listed a w _ _ hr hy hS H
    refine ⟨fun h => (by rw [h] at hr; cases hr), fun j hj => ?_⟩
    by_cases hji : j = i
    · subst hji; exact hy.wpOp hi hS ⟨.inr hS, H⟩
    · have := ready_mono hj hji
      rw [H.1] at this
      cases this
  | succ fuel ih =>
    intro listed a w hun0 hfree hr hy hS H
    refine ⟨fun h => (by rw [h] at hr; cases hr), fun j hj => ?_⟩
    by_cases hji : j = i
    · subst hji; exact hy.wpOp hi hS ⟨.inr hS, H⟩
    · have h1 := H.2 j (ready_mono hj hji)
      obtain ⟨hjun, oj, hoj, hall⟩ := mem_ready.1 hj
      have hoff : ∀ q, listed.getD q true = false → ∀ e ∈ oj.after, Region.binds .any e = true → e.on ≠ q := fun q h0 e he hb heq => by
        have h1 := hall e he hb
        rw [heq] at h1
        rcases Nat.lt_or_ge q listed.size with h' | h'
        · simp [h'] at h0 h1; rw [h0] at h1; cases h1
        · simp [Array.getElem?_eq_none h'] at h1
      have hnot : ∀ e ∈ oj.after, Region.binds .any e = true → e.on ≠ i := hoff i (mem_ready.1 hr).1
      have hjD : j ∉ D := fun hm => by
        obtain ⟨oq, hoq, e, he, hb, h2⟩ := hD j hm
        rw [hoj] at hoq
        obtain rfl := Option.some.inj hoq
        rcases h2 with h2 | h2
        · exact hnot e he hb h2
        · exact hoff e.on (hun0 _ h2) e he hb rfl
      have hjz : j ≠ z := fun e => hjD (e ▸ hzD)
      have h2 := wpOp_putIf hoj (hfree j oj hoj hji hjun hnot) (fun cs b => hsel i oi cs b hi) (fun cs b => hsel j oj cs b hoj) hQ hy h1
      have hfree' : ∀ k ok, ops[k]? = some ok → k ≠ i → (listed.setIfInBounds j true).getD k true = false →
          (∀ e ∈ ok.after, Region.binds .any e = true → e.on ≠ i) → oi.apart ops ok = true := fun k ok hk hki hun hno => by
        refine hfree k ok hk hki ?_ hno
        by_cases hjk : j = k
        · subst hjk; exact hjun
        · rw [getD_set_ne true hjk] at hun; exact hun
      have hun1 : ∀ q ∈ D, (listed.setIfInBounds j true).getD q true = false := fun q hq => by
        rw [getD_set_ne true (show j ≠ q from fun e => by subst e; exact hjD hq)]
        exact hun0 q hq
      refine wpOp_mono (fun a' w' h3 => ⟨h3.2.1, ih (listed.setIfInBounds j true) a' w' hun1 hfree' (ready_mono hr (Ne.symm hji)) h3.1 (h3.2.1.resolve_left hjz) ?_⟩) h2
      rw [Array.setIfInBounds_comm _ _ hji]
      exact h3.2.2
theorem wpAnyG_take {i : Nat} {oi : Oper} {v : Value} {D : List Nat} {fuel : Nat} {listed : Array Bool} {a : Act} {w : World} (hi : ops[i]? = some oi)
    (hs : Region.noSelect ops = true) (hf : Region.free .any ops listed i = true) (hr : (Region.ready .any ops listed).contains i = true)
    (hQ : ∀ c a w, Q (.panic c) (a.put oi.dst v) w → Q (.panic c) a w) (hzD : z ∈ D) (hD : ∀ q ∈ D, ∃ oq, ops[q]? = some oq ∧ ∃ e ∈ oq.after, Region.binds .any e = true ∧ (e.on = i ∨ e.on ∈ D)) (hun : ∀ q ∈ D, listed.getD q true = false) (hy : YieldsIf P ops S oi v a) (hS : S w)
    (h : wpAnyG P ops Q S z fuel (listed.setIfInBounds i true) (a.put oi.dst v) w) : wpAnyG P ops Q S z (fuel + 1) listed a w :=
  wpAnyG_first hi (Region.noSelect_spec hs) hQ hzD hD fuel listed a w hun (Region.free_spec hi hf) (by simpa using hr) hy hS h
theorem wpAnyG_all {rs : List Nat} {fuel : Nat} {listed : Array Bool} {a : Act} {w : World} (hr : Region.ready .any ops listed = rs) (hne : rs ≠ [])
    (h : ∀ i ∈ rs, wpOp P ops Q i (fun a' w' => (i = z ∨ S w') ∧ wpAnyG P ops Q S z fuel (listed.setIfInBounds i true) a' w') a w) : wpAnyG P ops Q S z (fuel + 1) listed a w :=
  ⟨fun h0 => absurd (hr ▸ h0) hne, hr ▸ h⟩
theorem wpAnyG_done {listed : Array Bool} {a : Act} {w : World} (hr : Region.ready .any ops listed = []) (h : Q .normal a w) :
    ∀ fuel, wpAnyG P ops Q S z fuel listed a w
  | 0 => ⟨hr, h⟩
  | _ + 1 => ⟨fun _ => h, by rw [hr]; simp⟩
end
section
variable {P : Program} {l : List Oper} {C : World → Prop} {Q : Exit → Act → World → Prop} {z : List Nat × Nat}
theorem waits_of {l : List Oper} {z i : Nat} {listed : Array Bool} (h : waitsB l i z listed = true) :
    z ∈ downs l i ∧ (∀ q ∈ downs l i, ∃ oq, l.toArray[q]? = some oq ∧ ∃ e ∈ oq.after, Region.binds .any e = true ∧ (e.on = i ∨ e.on ∈ downs l i)) ∧ ∀ q ∈ downs l i, listed.getD q true = false := by
  unfold waitsB at h
  rw [Bool.and_eq_true, List.all_eq_true] at h
  refine ⟨by simpa using h.1, fun q hq => ?_, fun q hq => ?_⟩
  · have h1 := h.2 q hq
    rw [Bool.and_eq_true] at h1
    have h2 := h1.2
    cases ho : l[q]? with
    | none => rw [ho] at h2; cases h2
    | some o =>
      rw [ho] at h2
      obtain ⟨k, hk, he⟩ := Array.any_eq_true.1 h2
      rw [Bool.and_eq_true, Bool.or_eq_true, beq_iff_eq] at he
      exact ⟨o, by simpa using ho, o.after[k], Array.getElem_mem hk, he.1, he.2.imp id (by simpa using ·)⟩
  · have h1 := h.2 q hq
    rw [Bool.and_eq_true, Bool.not_eq_true'] at h1
    exact h1.1
theorem wpSegsE_step {seg : List Nat} {i : Nat} {more : List (List Nat × Nat)} {a : Act} {w : World}
    (h : ∀ K : Act → World → Prop, (∀ a w, wpSegsE P l C Q z more a w → K a w) → wpQuiet P l.toArray C (fun a' => wpList P l.toArray (mixExit C K Q) (pickL l [i]) a' w) (pickL l seg) a) :
    wpSegsE P l C Q z ((seg, i) :: more) a w := h _ (fun _ _ h => h)
theorem wpSegsE_last {a : Act} {w : World} (h : wpQuiet P l.toArray C (fun a' => wpList P l.toArray Q (pickL l [z.2]) a' w) (pickL l z.1) a) : wpSegsE P l C Q z [] a w := h
theorem wp_of_end {o : Oper} {a : Act} {w : World} {next K' : Act → World → Prop} (h : ∀ a w, next a w → K' a w) (hh : o.wp P a w next Q) : o.wp P a w K' Q := by
  unfold Oper.wp at *
  generalize (execOp a.eval o).run P w = r at *
  cases r with
  | ok n w' =>
    cases n <;> simp only [Oper.upon] at hh ⊢ <;>
      first
        | exact h _ _ hh
        | exact Calls.mono hh (fun e w'' he => by cases e <;> first | exact h _ _ he | exact he)
        | exact Rows.mono hh (fun _ _ he => h _ _ he)
  | halt x w' => cases x <;> simp only [Oper.upon] at hh ⊢ <;> exact hh
theorem calmG_take {zi : Nat} (hs : Region.noSelect l.toArray = true) (hQ : ∀ c (a b : Act) w, a.defers = b.defers → Q (.panic c) a w → Q (.panic c) b w) (seg : List Nat) :
    ∀ (listed r : Array Bool) (a : Act) (w : World) (fuel : Nat) (K : Act → Prop), calmRowE l zi seg listed = some r → C w → wpQuiet P l.toArray C K (pickL l seg) a →
      (∀ a', K a' → wpAnyG P l.toArray Q C zi fuel r a' w) → wpAnyG P l.toArray Q C zi (seg.length + fuel) listed a w := by
  induction seg with
  | nil =>
    intro listed r a w fuel K hr hC h hK
    simp only [calmRowE, Option.some.injEq] at hr
    subst hr
    simpa using hK a h
  | cons i is ih =>
    intro listed r a w fuel K hr hC h hK
    unfold calmRowE at hr
    by_cases hb : ((Region.ready .any l.toArray listed).contains i && Region.free .any l.toArray listed i && ((l[i]?).map calm).getD false && waitsB l i zi listed) = true
    · rw [if_pos hb] at hr
      rw [Bool.and_eq_true] at hb
      obtain ⟨w1, w2, w3⟩ := waits_of hb.2
      have hb := hb.1
      simp only [Bool.and_eq_true] at hb
      obtain ⟨⟨hrd, hfr⟩, hcm⟩ := hb
      cases ho : l[i]? with
      | none => rw [ho] at hcm; cases hcm
      | some o =>
        rw [ho] at hcm
        have hp : pickL l (i :: is) = o :: pickL l is := by simp [pickL, ho]
        rw [hp] at h
        have h' : wpQuiet P l.toArray C (wpQuiet P l.toArray C K (pickL l is)) [o] a := h
        obtain ⟨v, hy, hn⟩ := yieldsIf_of_quiet hcm h'
        rw [show (i :: is).length + fuel = (is.length + fuel) + 1 by simp; omega]
        exact wpAnyG_take (by simpa using ho) hs hfr hrd (fun c a w hq => hQ c _ _ w (put_keeps _ _ _) hq) w1 w2 w3 hy hC (ih _ r _ w fuel K hr hC hn hK)
    · rw [if_neg hb] at hr; cases hr
theorem wp_of_mixG {o : Oper} {a : Act} {w : World} {next K' : Act → World → Prop} (h : ∀ a w, wpList P l.toArray (mixExit C next Q) [] a w → K' a w) (hh : o.wp P a w (wpList P l.toArray (mixExit C next Q) []) (mixExit C next Q)) : o.wp P a w K' Q := by
  unfold Oper.wp at *
  generalize (execOp a.eval o).run P w = r at *
  cases r with
  | ok n w' =>
    cases n <;> simp only [Oper.upon] at hh ⊢ <;>
      first
        | exact h _ _ hh
        | exact Calls.mono hh (fun e w'' he => by cases e <;> first | exact h _ _ he | exact he)
        | exact Rows.mono hh (fun _ _ he => h _ _ he)
  | halt x w' => cases x <;> simp only [Oper.upon] at hh ⊢ <;> exact hh
theorem mixE_any (hs : Region.noSelect l.toArray = true) (hQ : ∀ c (a b : Act) w, a.defers = b.defers → Q (.panic c) a w → Q (.panic c) b w) (segs : List (List Nat × Nat)) :
    ∀ (listed : Array Bool) (a : Act) (w : World), mixRowE l z segs listed = true → C w → wpSegsE P l C Q z segs a w →
      wpAnyG P l.toArray Q C z.2 ((segs.map (fun s => s.1.length + 1)).sum + (z.1.length + 1)) listed a w := by
  induction segs with
  | nil =>
    intro listed a w hr hC h
    unfold mixRowE at hr
    cases hc : calmRowE l z.2 z.1 listed with
    | none => rw [hc] at hr; cases hr
    | some r =>
      rw [hc] at hr
      simp only [Bool.and_eq_true, beq_iff_eq] at hr
      obtain ⟨hrd, hend⟩ := hr
      have hlen : ((([] : List (List Nat × Nat)).map (fun s => s.1.length + 1)).sum + (z.1.length + 1)) = z.1.length + (0 + 1) := by simp
      rw [hlen]
      refine calmG_take (P := P) (C := C) (Q := Q) hs hQ z.1 listed r a w _ _ hc hC h fun a' ha => ?_
      refine wpAnyG_all hrd (by simp) fun j hj => ?_
      obtain rfl : j = z.2 := by simpa using hj
      have hready : z.2 ∈ Region.ready .any l.toArray r := by rw [hrd]; simp
      obtain ⟨_, o, ho, _⟩ := mem_ready.1 hready
      have ho' : l[z.2]? = some o := by simpa using ho
      have hp : pickL l [z.2] = [o] := by simp [pickL, ho']
      rw [hp] at ha
      unfold wpOp
      rw [ho]
      simp only []
      unfold wpList at ha
      have hmono : ∀ a2 w2, wpList P l.toArray Q [] a2 w2 → (True ∨ C w2) ∧ wpAnyG P l.toArray Q C z.2 0 (r.setIfInBounds z.2 true) a2 w2 :=
        fun a2 w2 h2 => ⟨.inl trivial, wpAnyG_done (by simpa using hend) h2 0⟩
      split
      · rename_i hw
        rw [if_pos hw] at ha
        exact ha.imp (wp_of_end hmono) (fun h2 => h2)
      · rename_i hw
        rw [if_neg hw] at ha
        exact hmono _ _ ha
  | cons s more ih =>
    obtain ⟨seg, i⟩ := s
    intro listed a w hr hC h
    unfold mixRowE at hr
    cases hc : calmRowE l z.2 seg listed with
    | none => rw [hc] at hr; cases hr
    | some r =>
      rw [hc] at hr
      simp only [Bool.and_eq_true, beq_iff_eq] at hr
      obtain ⟨hrd, hmore⟩ := hr
      have hlen : (((seg, i) :: more).map (fun s => s.1.length + 1)).sum + (z.1.length + 1) = seg.length + (((more.map (fun s => s.1.length + 1)).sum + (z.1.length + 1)) + 1) := by
        simp; omega
      rw [hlen]
      refine calmG_take (P := P) (C := C) (Q := Q) hs hQ seg listed r a w _ _ hc hC h fun a' ha => ?_
      refine wpAnyG_all hrd (by simp) fun j hj => ?_
      obtain rfl : j = i := by simpa using hj
      have hready : j ∈ Region.ready .any l.toArray r := by rw [hrd]; simp
      obtain ⟨_, o, ho, _⟩ := mem_ready.1 hready
      have ho' : l[j]? = some o := by simpa using ho
      have hp : pickL l [j] = [o] := by simp [pickL, ho']
      rw [hp] at ha
      unfold wpOp
      rw [ho]
      simp only []
      unfold wpList at ha
      have hmono : ∀ a2 w2, wpList P l.toArray (mixExit C (wpSegsE P l C Q z more) Q) [] a2 w2 → (j = z.2 ∨ C w2) ∧ wpAnyG P l.toArray Q C z.2 ((more.map (fun s => s.1.length + 1)).sum + (z.1.length + 1)) (r.setIfInBounds j true) a2 w2 :=
        fun a2 w2 h2 => ⟨.inr h2.1, ih _ a2 w2 hmore h2.1 h2.2⟩
      split
      · rename_i hw
        rw [if_pos hw] at ha
        exact ha.imp (wp_of_mixG hmono) (fun h2 => h2)
      · rename_i hw
        rw [if_neg hw] at ha
        exact hmono _ _ ha
/-- A REGION THAT DRAWS ITS ORDER and ends with a forced operation, behind which the class of worlds need not be met -/
theorem wp_region_mixE {id : Nat} {a : Act} {w : World} (segs : List (List Nat × Nat)) (z : List Nat × Nat) (hm : P.follows .mixedOrders = true) (hB : mixBE l segs z = true)
    (hQ : ∀ c (a b : Act) w, a.defers = b.defers → Q (.panic c) a w → Q (.panic c) b w) (hC : C w.drew) (h : wpSegsE P l C Q z segs a w.drew) : (Code.region id l.toArray true).wp P Q a w := by
  simp only [mixBE, Bool.and_eq_true, beq_iff_eq] at hB
  obtain ⟨⟨hs, hlen⟩, hrow⟩ := hB
  refine wp_region_any hm (wpAny_of_G (S := C) (z := z.2) _ _ _ _ ?_)
  have := mixE_any (P := P) hs hQ segs _ a w.drew hrow hC h
  rw [hlen] at this
  simpa using this
end
end Go.Proofs.Ytojmkbhihnnmaaa
