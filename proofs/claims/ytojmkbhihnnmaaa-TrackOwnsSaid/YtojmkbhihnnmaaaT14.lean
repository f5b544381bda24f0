/-
  The track: New; Slice; entries put into rows.
-/
import Derived.Test.YtojmkbhihnnmaaaT13
import Derived.Deep.DeepCutAuto
import Derived.Deep.CutBlock
namespace Go.Proofs.Ytojmkbhihnnmaaa
open Go.RowKit

/-- a frame: all but X stays -/
structure Fr (X : Nat → Prop) (w w' : World) : Prop where
  os : w'.os = w.os
  tape : w'.tape = w.tape
  output : w'.output = w.output
  size : w.heap.size ≤ w'.heap.size
  block : ∀ k, k < w.heap.size → ¬ X k → w'.heap[k]? = w.heap[k]?
section
variable {X X' S : Nat → Prop} {B : Nat} {w w' w'' : World}
theorem Fr.refl (X : Nat → Prop) (w : World) : Fr X w w := ⟨rfl, rfl, rfl, Nat.le_refl _, fun _ _ _ => rfl⟩
theorem Fr.of_below (h : Below w.heap.size w w') : Fr X w w' := ⟨h.os, h.tape, h.output, h.size, fun k hk _ => h.block k hk⟩
theorem Fr.trans (h : Fr X w w') (h' : Fr X' w' w'') (hX : ∀ j, X' j → X j ∨ w.heap.size ≤ j) : Fr X w w'' :=
  ⟨h'.os.trans h.os, h'.tape.trans h.tape, h'.output.trans h.output, Nat.le_trans h.size h'.size, fun k hk hn =>
    (h'.block k (Nat.lt_of_lt_of_le hk h.size) fun hx => (hX k hx).elim hn fun h0 => absurd h0 (by omega)).trans (h.block k hk hn)⟩
theorem Fr.mono (h : Fr X w w') (hX : ∀ j, X j → X' j) : Fr X' w w' := ⟨h.os, h.tape, h.output, h.size, fun k hk hn => h.block k hk fun hx => hn (hX k hx)⟩
theorem Fr.below (h : Fr X w w') (hX : ∀ j, X j → B ≤ j) (hB : B ≤ w.heap.size) : Below B w w' :=
  ⟨h.os, h.tape, h.output, h.size, fun k hk => h.block k (by omega) fun hx => absurd (hX k hx) (by omega)⟩
theorem Fr.stay (h : Fr X w w') (hS : ∀ j, S j → j < w.heap.size → ¬ X j) : Stay S w w' := fun j h1 h2 => h.block j h2 (hS j h1 h2)
theorem Fr.set (g i : Nat) (u : Value) : Fr (fun j => j = g) w (w.setCell ⟨g, i, none⟩ u) :=
  have h := (Below.refl g w).setCell (show g ≤ (⟨g, i, none⟩ : Addr).block from Nat.le_refl _) u
  ⟨h.os, h.tape, h.output, h.size, fun k _ hn => Below.heap_setCell w _ u k hn⟩
end
theorem Fr.grown {w w' : World} {A : Option Addr} {n c : Nat} (hg : w.grownBy w' (Value.slice A n c).ownBlock) : Fr (rowOf A) w w' :=
  have h := (Below.refl 0 w).grown hg (Nat.zero_le _) (fun _ _ => Nat.zero_le _)
  ⟨h.os, h.tape, h.output, h.size, fun k hk hn => hg.block k hk fun e => hn (by
    cases A with
    | none => cases e
    | some ad => exact ⟨ad, rfl, by injection e with e; exact e.symm⟩)⟩
theorem row_next {w : World} {A A' : Option Addr} {n c n' c' : Nat} (h : (Value.slice A' n' c').ownBlock = (Value.slice A n c).ownBlock ∨ (Value.slice A' n' c').ownBlock = some w.heap.size) : ∀ j, rowOf A' j → rowOf A j ∨ w.heap.size ≤ j := by
  rintro j ⟨ad, rfl, rfl⟩
  rcases h with h | h
  · cases A with
    | none => cases h
    | some ad' => exact .inl ⟨ad', rfl, by injection h with h; exact h.symm⟩
  · injection h with h
    exact .inr (by have h : ad.block = w.heap.size := h; omega)
theorem ent_info : (Try.prog.info? 65).map (fun i => (i.zero, i.size, i.bytes)) = some (some (.agg #[.int .i64 0, .int .i64 0, .int .i64 0, .int .i64 0, .int .i64 0, .slice none 0 0]), 6, 64) := by kernel_rfl
theorem enC_one {ys : List (Value × En)} (h1 : ∀ z ∈ ys, z.1.oneCell' = true) : ∀ u ∈ ys.flatMap enC, u.oneCell' = true := fun u hu => by
  obtain ⟨z, hz, hu⟩ := List.mem_flatMap.1 hu
  simp only [enC, List.mem_cons, List.not_mem_nil, or_false] at hu
  rcases hu with rfl | rfl | rfl | rfl | rfl | rfl
  all_goals first | rfl | exact h1 z hz
theorem DeepE.one {S : Nat → Prop} {w : World} {zs : List (Value × En)} (h : DeepE S w zs) : ∀ z ∈ zs, z.1.oneCell' = true := fun z hz => by
  obtain ⟨_, _, _, e, _⟩ := (h z hz).form
  rw [e]; rfl
/-- entries onto entries of the call's own -/
theorem wpList_append_es {w : World} {ops : Array Oper} {rest : List Oper} {o : Oper} {a : Act} {Q : Exit → Act → World → Prop} (hgd : o.guard = none) (s x : Operand)
    (ho : o.op = .call { callee := .builtin .append, args := #[s, x], argTypes := #[53, 53] })
    (base : Nat) {A : Option Addr} {n c : Nat} {zs : List (Value × En)} (hs : a.eval s = .slice A n c) (hown : w.ownsRow base 65 6 (.slice A n c) n (zs.flatMap enC))
    {B : Option Addr} {m d : Nat} {ys : List (Value × En)} (hx : a.eval x = .slice B m d) (hr : RdE w B m ys) (h1 : ∀ z ∈ ys, z.1.oneCell' = true) (hb : n + m ≤ 1000000000) (hbase : base ≤ w.heap.size)
    (h : ∀ A' c' w', w'.ownsRow base 65 6 (.slice A' (n + m) c') (n + m) ((zs ++ ys).flatMap enC) → Fr (rowOf A) w w' → Below base w w' → (∀ j, rowOf A' j → rowOf A j ∨ w.heap.size ≤ j) → wpList Try.prog ops Q rest (a.put o.dst (.slice A' (n + m) c')) w') : wpList Try.prog ops Q (o :: rest) a w := by
  obtain ⟨i0, hi0, hz0, hz1, hz2⟩ := info_parts ent_info
  refine wpList_append_any w hgd s x 53 ho base 65 i0 _ 6 64 Try.underlying53 hi0 hz0 hz1 hz2 rfl (by omega) (.slice A n c) n _ hs hown B m d _ hx hr (enC_one h1) (by unfold maxLen; omega) (by omega) hbase fun A' c' w' h3 h4 h5 => ?_
  rw [← List.flatMap_append] at h3
  exact h A' c' w' h3 (Fr.grown h4) (below_own hown h4 hbase) (row_next h5)
/-- one entry in a block of its own -/
theorem RdE.one {w : World} {g : Nat} {z : Value × En} (hg : Blk w g 65 (enC z).toArray) : RdE w (some ⟨g, 0, none⟩) 1 [z] :=
  ⟨rfl, fun _ => ⟨_, rfl, fun j y hy => by
    have e : (⟨g, 0, none⟩ : Addr).add j = ⟨g, j, none⟩ := by unfold Addr.add; split <;> simp [*]
    rw [e, hg.cell j, ← hy]
    simp⟩⟩
theorem TStay.row {L : List TypeId} {w w' : World} {base size n c : Nat} {e : TypeId} {A : Option Addr} {xs : List Value} (h : w.ownsRow base e size (.slice A n c) n xs) (hf : Fr (rowOf A) w w') (he : e ∉ L) : TStay L w w' := fun j hj => by
  obtain ⟨cs, fz, ty, h7, h8⟩ := hj
  refine hf.block j (lt_of_heap h7) fun hx => ?_
  obtain ⟨_, _, cs', h9⟩ := own_row_blk h A c rfl j hx
  rw [h9] at h7
  injection h7 with h7
  injection h7 with _ h7
  exact he (h7 ▸ h8)
/-- entries whose room is used up, or entries of the call's own -/
def EsX (B : Nat) (w : World) (A : Option Addr) (n c : Nat) (zs : List (Value × En)) : Prop :=
  (c = n ∧ RdE w A n zs ∧ ∀ z ∈ zs, z.1.oneCell' = true) ∨ w.ownsRow B 65 6 (.slice A n c) n (zs.flatMap enC)
theorem wpList_append_ex {w : World} {ops : Array Oper} {rest : List Oper} {o : Oper} {a : Act} {Q : Exit → Act → World → Prop} (hgd : o.guard = none) (s x : Operand)
    (ho : o.op = .call { callee := .builtin .append, args := #[s, x], argTypes := #[53, 53] })
    (base : Nat) {A : Option Addr} {n c : Nat} {zs : List (Value × En)} (hs : a.eval s = .slice A n c) (hown : EsX base w A n c zs)
    (g : Nat) {z : Value × En} (hx : a.eval x = .slice (some ⟨g, 0, none⟩) 1 1) (hg : Blk w g 65 (enC z).toArray) (h1 : z.1.oneCell' = true) (hb : n ≤ 100000000) (hbase : base ≤ w.heap.size)
    (h : ∀ A' c' w', w'.ownsRow base 65 6 (.slice A' (n + 1) c') (n + 1) ((zs ++ [z]).flatMap enC) → Below base w w' → (∀ L, 65 ∉ L → TStay L w w') → Fr (rowOf A) w w' → wpList Try.prog ops Q rest (a.put o.dst (.slice A' (n + 1) c')) w') : wpList Try.prog ops Q (o :: rest) a w := by
  obtain ⟨i0, hi0, hz0, hz1, hz2⟩ := info_parts ent_info
  have hr := RdE.one hg
  have h1' : ∀ y ∈ [z], y.1.oneCell' = true := fun y hy => by rw [List.mem_singleton.1 hy]; exact h1
  rcases hown with ⟨rfl, hrd, h1z⟩ | hown
  · have hnone : A = none → c = 0 ∧ c = 0 := fun e => by
      rcases Nat.eq_zero_or_pos c with h0 | h0
      · exact ⟨h0, h0⟩
      · obtain ⟨ad, e', _⟩ := hrd.2 h0
        rw [e] at e'; cases e'
    refine wpList_append_grows w hgd s x 53 ho 65 i0 _ 6 64 Try.underlying53 hi0 hz0 hz1 hz2 rfl (by omega) A c c (zs.flatMap enC) hs hnone hrd.1 (fun b hb j y hy => ?_) ⟨g, 0, none⟩ 1 1 ([z].flatMap enC) hx rfl (fun j y hy => ?_) (enC_one h1') (by omega) (by unfold maxLen; omega) (by omega) fun v' w' h3 h4 => ?_
    · have hl := (List.getElem?_eq_some_iff.1 hy).1
      have h0 : 0 < c := by have := hrd.1; omega
      obtain ⟨ad, e, hc⟩ := hrd.2 h0
      obtain rfl := Option.some.inj (hb.symm.trans e)
      exact hc j y hy
    · obtain ⟨ad, e, hc⟩ := hr.2 (by omega)
      obtain rfl := Option.some.inj e
      exact hc j y hy
    · obtain ⟨A', c', rfl, _⟩ := own_form h3
      have hb' : Below w.heap.size w w' := (Below.refl _ _).grown h4 (Nat.le_refl _) (fun k hk => by cases hk)
      rw [← List.flatMap_append] at h3
      exact h A' c' w' (own_mono h3 hbase) (hb'.mono hbase) (fun L _ => TStay.below hb') (Fr.of_below hb')
  · refine wpList_append_es hgd s x ho base hs hown hx hr h1' (by omega) hbase fun A' c' w' h3 h4 h5 h6 => h A' c' w' h3 h5 (fun L hL => TStay.row hown h4 hL) h4
/-- New -/
def baseB (i tm : Int) : Bool := (decide (i = 0) && decide (tm = 0)) || (numB i 1 && numB tm 1)
theorem tnew_ok {i tm : Int} (hb : baseB i tm = true) (w : World) : Calls Try.prog 35 #[.int .i64 i, .int .i64 tm] w fun e w' => e = .returned (.pointer (some ⟨w.heap.size, 0, none⟩)) ∧ Blk w' w.heap.size 93 #[.int .i64 i, .int .i64 tm, .slice none 0 0] ∧ Below w.heap.size w w' := by
  have hA : Below w.heap.size w (w.alloc (.cells #[.int .i64 i, .int .i64 tm, .slice none 0 0] 93)) := (Below.refl _ _).alloc (Nat.le_refl _) _
  have hk := Blk.new w 93 #[.int .i64 i, .int .i64 tm, .slice none 0 0]
  by_cases h0 : i = 0 ∧ tm = 0
  · obtain ⟨rfl, rfl⟩ := h0
    go_enter Try.func35, Try.ntmps35
    go_wp2_with fail
    go_ret
    exact ⟨rfl, hk, hA⟩
  · have h1 : numB i 1 = true ∧ numB tm 1 = true := by
      unfold baseB at hb
      rw [Bool.or_eq_true, Bool.and_eq_true, Bool.and_eq_true, decide_eq_true_eq, decide_eq_true_eq] at hb
      exact hb.resolve_left h0
    have h2 : i ≠ 0 := by
      rintro rfl
      have := h1.1
      simp [numB] at this
    clear h0 hb
    go_enter Try.func35, Try.ntmps35
    go_wp2_with fail
    refine (tnumber_any _ _).mono ?_
    rintro e w1 ⟨rfl, rfl⟩
    rw [h1.1]
    go_wp2_with fail
    refine (tnumber_any _ _).mono ?_
    rintro e w1 ⟨rfl, rfl⟩
    rw [h1.2]
    go_wp2_with fail
    go_ret
    exact ⟨rfl, hk, hA⟩
theorem tnew_nil {i tm : Int} (hb : baseB i tm = false) (w : World) : Calls Try.prog 35 #[.int .i64 i, .int .i64 tm] w fun e w' => e = .returned (.pointer none) ∧ w = w' := by
  unfold baseB at hb
  rw [Bool.or_eq_false_iff, Bool.and_eq_false_iff, Bool.and_eq_false_iff, decide_eq_false_iff_not, decide_eq_false_iff_not] at hb
  obtain ⟨h0, h1⟩ := hb
  by_cases h2 : i = 0
  · have h3 : tm ≠ 0 := h0.resolve_left fun h => h h2
    have h4 : numB i 1 = false := by subst h2; rfl
    subst h2
    clear h0 h1
    go_enter Try.func35, Try.ntmps35
    go_wp2_with fail
    refine (tnumber_any _ _).mono ?_
    rintro e w1 ⟨rfl, rfl⟩
    rw [h4]
    go_wp2_with fail
    go_ret
    exact ⟨rfl, rfl⟩
  · clear h0
    cases h3 : numB i 1 with
    | false =>
      clear h1
      go_enter Try.func35, Try.ntmps35
      go_wp2_with fail
      refine (tnumber_any _ _).mono ?_
      rintro e w1 ⟨rfl, rfl⟩
      rw [h3]
      go_wp2_with fail
      go_ret
      exact ⟨rfl, rfl⟩
    | true =>
      have h4 : numB tm 1 = false := h1.resolve_left (by rw [h3]; simp)
      clear h1
      go_enter Try.func35, Try.ntmps35
      go_wp2_with fail
      refine (tnumber_any _ _).mono ?_
      rintro e w1 ⟨rfl, rfl⟩
      rw [h3]
      go_wp2_with fail
      refine (tnumber_any _ _).mono ?_
      rintro e w1 ⟨rfl, rfl⟩
      rw [h4]
      go_wp2_with fail
      go_ret
      exact ⟨rfl, rfl⟩
end Go.Proofs.Ytojmkbhihnnmaaa
