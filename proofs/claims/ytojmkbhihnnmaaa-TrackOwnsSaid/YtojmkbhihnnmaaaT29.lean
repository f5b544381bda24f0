/-
  The law: the document's examples.
-/
import Derived.Test.YtojmkbhihnnmaaaT28
namespace Go.Proofs.Ytojmkbhihnnmaaa
open Go.RowKit

/-- the program's track, its facts below M; the blocks K are none of its own -/
def One (z M : Nat) (K : Nat → Prop) (w : World) (g : Nat) (t : Trk) : Prop :=
  ∃ (S : Nat → Prop) (A : Option Addr) (n c : Nat) (zs : List (Value × En)), TrkIn z S w g t A n c zs ∧ (∀ j, S j → j < M) ∧ z ≤ w.heap.size ∧ M ≤ w.heap.size ∧ ∀ j, K j → j < w.heap.size ∧ ¬ (j = g ∨ rowOf A j)
section
variable {z M M' : Nat} {K K' : Nat → Prop} {S : Nat → Prop} {w w' : World} {g n c : Nat} {t t' : Trk} {A : Option Addr} {zs : List (Value × En)}
theorem One.below (h : One z M K w g t) (hb : Below w.heap.size w w') : One z M K w' g t := by
  obtain ⟨S, A, n, c, zs, h1, h2, h3, h4, h5⟩ := h
  have := hb.size
  exact ⟨S, A, n, c, zs, h1.below hb, h2, by omega, by omega, fun j hj => ⟨by have := (h5 j hj).1; omega, (h5 j hj).2⟩⟩
theorem One.zw (h : One z M K w g t) : z ≤ w.heap.size := by
  obtain ⟨S, A, n, c, zs, h1, h2, h3, h4, h5⟩ := h
  exact h3
theorem One.inv (h : One z M K w g t) : t.Inv := by
  obtain ⟨S, A, n, c, zs, h1, _⟩ := h
  exact h1.i
theorem One.keep (h : One z M K w g t) (hk : ∀ j, j < w.heap.size → K' j → K j) : One z M (fun j => j < w.heap.size ∧ K' j) w g t := by
  obtain ⟨S, A, n, c, zs, h1, h2, h3, h4, h5⟩ := h
  exact ⟨S, A, n, c, zs, h1, h2, h3, h4, fun j hj => h5 j (hk j hj.1 hj.2)⟩
/-- a new block is none of the track's -/
theorem One.add (h : One z M K w g t) (hb : Below w.heap.size w w') (hs : w.heap.size < w'.heap.size) : One z M (fun j => K j ∨ j = w.heap.size) w' g t := by
  obtain ⟨S, A, n, c, zs, h1, h2, h3, h4, h5⟩ := h
  refine ⟨S, A, n, c, zs, h1.below hb, h2, by omega, by omega, fun j hj => ?_⟩
  rcases hj with hj | rfl
  · exact ⟨by have := (h5 j hj).1; omega, (h5 j hj).2⟩
  · refine ⟨hs, ?_⟩
    rintro (e | hr)
    · have := h1.b.lt; omega
    · have := (h1.rowlt _ hr).1; omega
theorem one_t (h1 : TrkIn z S w g t A n c zs) (h3 : z ≤ w.heap.size) (h5 : ∀ j, K j → j < w.heap.size ∧ ¬ (j = g ∨ rowOf A j)) (hP : PostT z S w g A t' M' w') (hM : w.heap.size ≤ M') : One z M' K w' g t' ∧ Below z w w' ∧ Fr (fun j => ¬ K j) w w' ∧ TStay TX w w' := by
  obtain ⟨A', n', c', zs', S', p1, p2, p3, p4, p5⟩ := hP
  have hs := p5.size
  refine ⟨⟨S', A', n', c', zs', p1, fun j hj => ?_, by omega, p4, fun j hj => ⟨by have := (h5 j hj).1; omega, ?_⟩⟩, p5.below (fun j hj => ?_) h3, p5.mono fun j hj hk => (h5 j hk).2 hj, h1.tstay p5 (by decide) (by decide)⟩
  · rcases p2 j hj with h | h
    · have := h1.slt j h; omega
    · exact h.2
  · rintro (e | hr)
    · exact (h5 j hj).2 (.inl e)
    · rcases p3 j hr with h | h
      · exact (h5 j hj).2 (.inr h)
      · have := (h5 j hj).1; omega
  · rcases hj with rfl | hj
    · exact h1.g
    · exact (h1.rowlt j hj).2.1
theorem one_put (S2 : Nat → Prop) (tm : Int) (x : En) (V : Option Addr) (m d : Nat) (h : One z M K w g t) (hN : t.L.length ≤ 1000000) (hf : FactsV S2 w (.slice V m d) x.facts) (hm : m ≤ maxLen) (hS : ∀ j, S2 j → K j ∨ j < z) :
    Calls Try.prog 44 #[.pointer (some ⟨g, 0, none⟩), .int .i64 tm, cmdV x (.slice V m d)] w fun e w' => ∃ vy M', e = .returned (.tuple #[enV (t.putF tm x).1.1 vy, .int .i64 (t.putF tm x).1.2]) ∧ FactsV (NewIn TD M' w') w' vy (t.putF tm x).1.1.facts ∧ w.heap.size ≤ M' ∧
      One z M' K w' g (t.putF tm x).2 ∧ Below z w w' ∧ Fr (fun j => ¬ K j) w w' ∧ TStay TX w w' := by
  obtain ⟨S, A, n, c, zs, h1, h2, h3, h4, h5⟩ := h
  refine (tput_any S2 tm x V m d h1 (h1.nlen hN) h3 hf hm fun j hj hx => ?_).mono ?_
  · rcases hS j hj with h | h
    · exact (h5 j h).2 hx
    · rcases hx with hx | hx
      · have := h1.g; omega
      · have := (h1.rowlt j hx).2.1; omega
  · rintro e w' ⟨vy, he, M', q1, q2, q3⟩
    exact ⟨vy, M', he, q1, q2, one_t h1 h3 h5 q3 q2⟩
theorem one_take (S2 : Nat → Prop) (idx tm : Int) (A9 : Option Addr) (m c9 : Nat) (ys : List (Value × En)) (h : One z M K w g t) (hN : t.L.length ≤ 1000000) (hr : RdE w A9 m ys) (hd : DeepE S2 w ys) (hm : m ≤ 100000) (hmc : m ≤ c9) (hcc : c9 ≤ maxLen)
    (hS : ∀ j, S2 j → j ≠ g) (hA : 0 < m → ∀ j, rowOf A9 j → j ≠ g) : Calls Try.prog 47 #[.pointer (some ⟨g, 0, none⟩), .int .i64 idx, .int .i64 tm, .slice A9 m c9] w fun e w' =>
      e = .returned (.tuple #[.int .i64 (t.takeF idx tm (ys.map (·.2))).1.1, .bool (t.takeF idx tm (ys.map (·.2))).1.2]) ∧ One z w'.heap.size K w' g (t.takeF idx tm (ys.map (·.2))).2 ∧ Below z w w' ∧ Fr (fun j => ¬ K j) w w' ∧ TStay TX w w' := by
  obtain ⟨S, A, n, c, zs, h1, h2, h3, h4, h5⟩ := h
  refine (ttake_any S2 idx tm A9 m c9 ys h1 (h1.nlen hN) h3 hr hd hm hmc hcc hS hA).mono ?_
  rintro e w' ⟨he, hP⟩
  refine ⟨he, one_t h1 h3 h5 hP ?_⟩
  obtain ⟨A', n', c', zs', S', p1, p2, p3, p4, p5⟩ := hP
  exact p5.size
theorem one_drop (i : Int) (h : One z M K w g t) (hN : t.L.length ≤ 1000000) : Calls Try.prog 49 #[.pointer (some ⟨g, 0, none⟩), .int .i64 i] w fun e w' =>
      e = .returned (.int .i64 (t.dropF i).1) ∧ One z w'.heap.size K w' g (t.dropF i).2 ∧ Below z w w' ∧ Fr (fun j => ¬ K j) w w' ∧ TStay TX w w' := by
  obtain ⟨S, A, n, c, zs, h1, h2, h3, h4, h5⟩ := h
  refine (tdrop_any i h1 (h1.nlen hN) h3).mono ?_
  rintro e w' ⟨he, hP⟩
  refine ⟨he, one_t h1 h3 h5 hP ?_⟩
  obtain ⟨A', n', c', zs', S', p1, p2, p3, p4, p5⟩ := hP
  exact p5.size
end
/-- a new track -/
theorem inv_new {i tm : Int} (hb : baseB i tm = true) : Trk.Inv ⟨i, tm, []⟩ := by
  refine ⟨?_, fun j x h => (by cases h), fun x h => (by cases h), fun j x h => (by cases h)⟩
  unfold baseB numB at hb
  simp only [Bool.or_eq_true, Bool.and_eq_true, decide_eq_true_eq] at hb
  show (i = 0 ∧ tm = 0) ∨ _
  rcases hb with h | ⟨h1, h2⟩
  · exact .inl h
  · exact .inr ⟨h1.1, h1.2, h2.1, h2.2⟩
theorem trk_new {z g : Nat} {w : World} {i tm : Int} (hb : baseB i tm = true) (hk : Blk w g 93 #[.int .i64 i, .int .i64 tm, .slice none 0 0]) (hg : z ≤ g) : TrkIn z (fun _ => False) w g ⟨i, tm, []⟩ none 0 0 [] :=
  ⟨hk, own_nil _ _, fun z hz => (by cases hz), rfl, inv_new hb, hg, fun j h => h.elim⟩
theorem ref_new {S : Nat → Prop} {g : Nat} {w : World} {i tm : Int} (hb : baseB i tm = true) (hk : Blk w g 78 #[.int .i64 i, .int .i64 tm, .slice none 0 0]) : RefIn S w g ⟨i, tm, []⟩ none 0 0 [] :=
  ⟨hk, own_nil _ _, fun z hz => (by cases hz), rfl, inv_new hb⟩
def lv0 : Trk := ⟨0, 0, []⟩
def lvX : En := ⟨2, 3, 0, 0, 0, []⟩
def lv1 : Trk := (lv0.putF 1 En0).2
def lv2 : Trk := (lv1.putF 2 En0).2
def lv3 : Trk := (lv2.takeF 1 1 [lvX]).2
theorem lv_a : (lv0.putF 1 En0).1 = (mkE 1 1 En0, 0) := by rfl
theorem lv_b : (lv1.putF 2 En0).1 = (mkE 2 2 En0, 0) := by rfl
theorem lv_c : (lv2.takeF 1 1 [lvX]).1 = (2, true) := by decide
theorem lv_d : lv3.takeF 1 1 [lvX] = ((0, true), lv3) := by rfl
theorem lv_e : lv3.takeF 1 2 [] = ((0, false), lv3) := by rfl
theorem lv_f : lv3.hintF 2 2 = 1 := by decide
theorem lv_g : (lv3.dropF 1).1 = 0 := by decide
theorem lv_h : (lv3.dropF 1).2.index = 1 ∧ (lv3.dropF 1).2.term = 1 := by decide
theorem lv_i : baseB 0 1 = false := by decide
theorem lv_j : baseB 0 0 = true := by decide
theorem lv_k : lv1.L.length = 1 ∧ lv2.L.length = 2 ∧ lv3.L.length = 2 := by decide
set_option maxRecDepth 100000 in
set_option maxHeartbeats 4000000 in
theorem tlives_any (w : World) : Calls Try.prog 37 #[] w fun e w' => e = .returned (.bool true) ∧ Below w.heap.size w w' := by
  have hnew := tnew_ok lv_j w
  go_enter Try.func37, Try.ntmps37
  go_wp2_with fail
  refine hnew.mono ?_
  rintro e w1 ⟨rfl, hk1, hb1⟩
  have hz : w.heap.size ≤ w1.heap.size := hb1.size
  have hP1 : One w.heap.size w1.heap.size (fun _ => False) w1 w.heap.size lv0 := ⟨_, _, _, _, _, trk_new lv_j hk1 (Nat.le_refl _), fun j h => h.elim, hz, Nat.le_refl _, fun j h => h.elim⟩
  have hg1 : w.heap.size < w1.heap.size := hk1.lt
  generalize hzz : w.heap.size = g at *
  have hcall := one_put (fun _ => False) 1 En0 none 0 0 hP1 (by decide) (FactsV.nil _ _) (by unfold maxLen; omega) fun j h => h.elim
  rw [show lv0.putF 1 En0 = ((mkE 1 1 En0, 0), lv1) from Prod.ext lv_a rfl] at hcall
  unfold cmdV En0 at hcall
  dsimp only at hcall
  go_wp2_with fail
  refine hcall.mono ?_
  rintro e w2 ⟨vy, M2, rfl, hf2, hM2, hP2, hb2, hF2, _⟩
  obtain ⟨B2, m2, d2, hv2, l1, l2, l3⟩ := hf2.form
  obtain rfl : vy = _ := hv2
  have hbA : Below w2.heap.size w2 (w2.alloc (.cells #[.int .i64 1, .int .i64 1, .int .i64 0, .int .i64 0, .int .i64 0, .slice B2 m2 d2] 65)) := (Below.refl _ _).alloc (Nat.le_refl _) _
  have ha := Blk.new w2 65 #[.int .i64 1, .int .i64 1, .int .i64 0, .int .i64 0, .int .i64 0, .slice B2 m2 d2]
  have hP3 := hP2.add hbA ha.lt
  have hb3 : Below g w (w2.alloc (.cells #[.int .i64 1, .int .i64 1, .int .i64 0, .int .i64 0, .int .i64 0, .slice B2 m2 d2] 65)) := hb1.trans (hb2.trans (hbA.mono hP2.zw))
  have hz2 := hP2.zw
  have hcall2 := one_put (fun _ => False) 2 En0 none 0 0 hP3 (by decide) (FactsV.nil _ _) (by unfold maxLen; omega) fun j h => h.elim
  rw [show lv1.putF 2 En0 = ((mkE 2 2 En0, 0), lv2) from Prod.ext lv_b rfl] at hcall2
  unfold cmdV En0 at hcall2
  unfold enV mkE
  dsimp only at hcall2 ⊢
  clear hcall
  go_wp2_with fail
  generalize w2.alloc (.cells #[.int .i64 1, .int .i64 1, .int .i64 0, .int .i64 0, .int .i64 0, .slice B2 m2 d2] 65) = w3 at *
  generalize w2.heap.size = ga at *
  refine hcall2.mono ?_
  rintro e w4 ⟨vy4, M4, rfl, hf4, hM4, hP4, hb4, hF4, _⟩
  obtain ⟨B4, m4, d4, hv4, l4, l5, l6⟩ := hf4.form
  obtain rfl : vy4 = _ := hv4
  have ha4 : Blk w4 ga _ _ := (hF4.block ga ha.lt fun h => h (.inr rfl)).trans ha
  have hz4 := hP4.zw
  have hbA4 : Below w4.heap.size w4 (w4.alloc (.cells #[.int .i64 2, .int .i64 2, .int .i64 0, .int .i64 0, .int .i64 0, .slice B4 m4 d4] 65)) := (Below.refl _ _).alloc (Nat.le_refl _) _
  obtain ⟨w5, hw5⟩ : ∃ w5, w4.alloc (.cells #[.int .i64 2, .int .i64 2, .int .i64 0, .int .i64 0, .int .i64 0, .slice B4 m4 d4] 65) = w5 := ⟨_, rfl⟩
  rw [hw5] at hbA4
  have hP5 := hP4.below hbA4
  have ha5 := ha4.kept hbA4
  have hb5 : Below g w w5 := (hb3.trans hb4).trans (hbA4.mono hz4)
  have hz5 := hP5.zw
  have hbL : Below w5.heap.size w5 (w5.alloc (.cells #[.int .i64 2, .int .i64 3, .int .i64 0, .int .i64 0, .int .i64 0, .slice none 0 0] 65)) := (Below.refl _ _).alloc (Nat.le_refl _) _
  have hL : Blk (w5.alloc (.cells #[.int .i64 2, .int .i64 3, .int .i64 0, .int .i64 0, .int .i64 0, .slice none 0 0] 65)) w5.heap.size 65 (enC (.slice none 0 0, lvX)).toArray := Blk.new w5 65 _
  have hP6 := hP5.below hbL
  have ha6 := ha5.kept hbL
  have hg5 : g < w5.heap.size := by have := ha5.lt; have := hb5.size; omega
  have hcall3 := one_take (fun _ => False) 1 1 (some ⟨w5.heap.size, 0, none⟩) 1 1 [(.slice none 0 0, lvX)] hP6 (by decide) (RdE.one hL) (fun y hy => by rw [List.mem_singleton.1 hy]; exact FactsV.nil _ _) (by omega) (by omega) (by unfold maxLen; omega) (fun j h => h.elim) (fun _ j hj => by
    obtain ⟨ad, e, e2⟩ := hj
    injection e with e
    subst e
    have e2 : w5.heap.size = j := e2
    omega)
  rw [show ([((.slice none 0 0 : Value), lvX)] : List (Value × En)).map (·.2) = [lvX] from rfl, show lv2.takeF 1 1 [lvX] = ((2, true), lv3) from Prod.ext lv_c rfl] at hcall3
  have hb6 := hb5.trans (hbL.mono hz5)
  clear hcall2 hP1 hP2 hP3 hP4
  unfold enV mkE
  dsimp only
  go_wp2_with fail
  refine hcall3.mono ?_
  rintro e w7 ⟨rfl, hP7, hb7, hF7, _⟩
  have ha7 : Blk w7 ga _ _ := (hF7.block ga ha6.lt fun h => h (.inr rfl)).trans ha6
  have hz7 := hP7.zw
  have hbL7 : Below w7.heap.size w7 (w7.alloc (.cells #[.int .i64 2, .int .i64 3, .int .i64 0, .int .i64 0, .int .i64 0, .slice none 0 0] 65)) := (Below.refl _ _).alloc (Nat.le_refl _) _
  have hL7 : Blk (w7.alloc (.cells #[.int .i64 2, .int .i64 3, .int .i64 0, .int .i64 0, .int .i64 0, .slice none 0 0] 65)) w7.heap.size 65 (enC (.slice none 0 0, lvX)).toArray := Blk.new w7 65 _
  have hP8 := hP7.below hbL7
  have ha8 := ha7.kept hbL7
  have hb67 := hb6.trans hb7
  have hg7 : g < w7.heap.size := by have := hb7.size; have := hbL.size; omega
  have hcall4 := one_take (fun _ => False) 1 1 (some ⟨w7.heap.size, 0, none⟩) 1 1 [(.slice none 0 0, lvX)] hP8 (by decide) (RdE.one hL7) (fun y hy => by rw [List.mem_singleton.1 hy]; exact FactsV.nil _ _) (by omega) (by omega) (by unfold maxLen; omega) (fun j h => h.elim) (fun _ j hj => by
    obtain ⟨ad, e, e2⟩ := hj
    injection e with e
    subst e
    have e2 : w7.heap.size = j := e2
    omega)
  rw [show ([((.slice none 0 0 : Value), lvX)] : List (Value × En)).map (·.2) = [lvX] from rfl, lv_d] at hcall4
  have hb8 := hb67.trans (hbL7.mono hz7)
  clear hcall3 hP5 hP6
  dsimp only
  go_wp2_with fail
  refine hcall4.mono ?_
  rintro e w9 ⟨rfl, hP9, hb9, hF9, _⟩
  have ha9 : Blk w9 ga _ _ := (hF9.block ga ha8.lt fun h => h (.inr rfl)).trans ha8
  have hb9 := hb8.trans hb9
  have hcall5 := one_take (fun _ => False) 1 2 none 0 0 [] hP9 (by decide) Rds.none_ (fun y hy => by cases hy) (by omega) (by omega) (by unfold maxLen; omega) (fun j h => h.elim) (fun h => absurd h (by omega))
  rw [List.map_nil, lv_e] at hcall5
  clear hcall4 hP7 hP8
  go_wp2_with fail
  refine hcall5.mono ?_
  rintro e wA ⟨rfl, hPA, hbA', hFA, _⟩
  have haA : Blk wA ga _ _ := (hFA.block ga ha9.lt fun h => h (.inr rfl)).trans ha9
  have hbA := hb9.trans hbA'
  obtain ⟨SA, AA, nA', cA, zsA, h1A, _⟩ := id hPA
  have hcall6 := thint_any 2 2 h1A (h1A.nlen (by decide))
  rw [lv_f] at hcall6
  clear hcall5 hP9
  go_wp2_with fail
  refine hcall6.mono ?_
  rintro e wB ⟨rfl, hbB'⟩
  have haB := haA.kept hbB'
  have hPB := hPA.below hbB'
  have hbB := hbA.trans (hbB'.mono hPA.zw)
  have hcall7 := one_drop 1 hPB (by decide)
  rw [lv_g] at hcall7
  clear hcall6 hPA h1A
  go_wp2_with fail
  refine hcall7.mono ?_
  rintro e wC ⟨rfl, hPC, hbC', hFC, _⟩
  have haC : Blk wC ga _ _ := (hFC.block ga haB.lt fun h => h (.inr rfl)).trans haB
  have hbC := hbB.trans hbC'
  obtain ⟨SC, AC, nC, cC, zsC, h1C, _⟩ := id hPC
  have hcall8 := tbase_any h1C
  rw [lv_h.1, lv_h.2] at hcall8
  clear hcall7 hPB
  go_wp2_with fail
  refine hcall8.mono ?_
  rintro e wD ⟨rfl, qq, rfl⟩
  have hbD' : Below wC.heap.size wC (wC.drewN qq) := below_drewN (Below.refl _ _) qq
  have haD := haC.kept hbD'
  have hbD := hbC.trans (hbD'.mono hPC.zw)
  generalize wC.drewN qq = wD at *
  have a0 := haD.cell 0
  have a1 := haD.cell 1
  simp only [List.getElem?_toArray, List.getElem?_cons_zero, List.getElem?_cons_succ] at a0 a1
  have hnil := tnew_nil lv_i wD
  clear hcall8 h1C hPC
  go_wp2_with fail
  refine hnil.mono ?_
  rintro e wE ⟨rfl, rfl⟩
  go_wp2_with fail
  go_ret
  exact ⟨rfl, by rw [hzz]; exact hbD⟩
end Go.Proofs.Ytojmkbhihnnmaaa
