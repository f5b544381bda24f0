/-
  The law: the program's track and the answer's, side by side.
-/
import Derived.Test.YtojmkbhihnnmaaaT24
import Derived.Test.YtojmkbhihnnmaaaMix2
namespace Go.Proofs.Ytojmkbhihnnmaaa
open Go.RowKit

def TX : List TypeId := [84, 23, 9, 3, 55, 68]
/-- the program's track and the answer's; the program's facts lie below M -/
def Two (z M : Nat) (w : World) (gt gr : Nat) (t u : Trk) : Prop :=
  ∃ (S : Nat → Prop) (A : Option Addr) (n c : Nat) (zs : List (Value × En)) (A2 : Option Addr) (n2 c2 : Nat) (zs2 : List (Value × En)),
    TrkIn z S w gt t A n c zs ∧ RefIn (fun j => j < z) w gr u A2 n2 c2 zs2 ∧ (∀ j, rowOf A j → ¬ rowOf A2 j) ∧ (∀ j, S j → j < M) ∧ z ≤ gr ∧ z ≤ w.heap.size ∧ M ≤ w.heap.size
section
variable {B z M M' : Nat} {S : Nat → Prop} {w w' : World} {g gt gr n c : Nat} {t t' u u' : Trk} {A : Option Addr} {zs : List (Value × En)} {X : Nat → Prop}
theorem Fr.tstay {L : List TypeId} (hF : Fr X w w') (hX : ∀ j, j < w.heap.size → X j → ∃ cs fz T, w.heap[j]? = some (.cells cs T fz) ∧ T ∉ L) : TStay L w w' := fun j hj => by
  obtain ⟨cs, fz, ty, h1, h2⟩ := hj
  refine hF.block j (lt_of_heap h1) fun hx => ?_
  obtain ⟨cs', fz', T, h3, h4⟩ := hX j (lt_of_heap h1) hx
  rw [h1] at h3
  injection h3 with h3
  injection h3 with _ h3 _
  exact h4 (h3 ▸ h2)
theorem TrkIn.slt (h : TrkIn B S w g t A n c zs) : ∀ j, S j → j < w.heap.size := fun j hj => by
  obtain ⟨cs, fz, ty, h1, _⟩ := h.s j hj
  exact lt_of_heap h1
theorem TrkIn.rowlt (h : TrkIn B S w g t A n c zs) : ∀ j, rowOf A j → j < w.heap.size ∧ B ≤ j ∧ ∃ cs, w.heap[j]? = some (.cells cs 65 (0, 0)) := fun j hj => own_row_blk h.o A c rfl j hj
theorem TrkIn.nlen (h : TrkIn B S w g t A n c zs) {N : Nat} (hN : t.L.length ≤ N) : n ≤ N := by have := h.len.1; omega
theorem RefIn.nlen (h : RefIn S w g t A n c zs) {N : Nat} (hN : t.L.length ≤ N) : n ≤ N := by have := h.len.1; omega
/-- an act of a track writes no blocks of other kinds -/
theorem TrkIn.tstay {L : List TypeId} (h : TrkIn B S w g t A n c zs) (hF : Fr (fun j => j = g ∨ rowOf A j) w w') (h1 : 93 ∉ L) (h2 : 65 ∉ L) : TStay L w w' := hF.tstay fun j _ hj => by
  rcases hj with rfl | hj
  · exact ⟨_, _, _, h.b, h1⟩
  · obtain ⟨_, _, cs, h3⟩ := h.rowlt j hj
    exact ⟨_, _, _, h3, h2⟩
theorem RefIn.tstay {L : List TypeId} (h : RefIn S w g t A n c zs) (hF : Fr (fun j => j = g) w w') (h1 : 78 ∉ L) : TStay L w w' := hF.tstay fun j _ hj => by
  subst hj
  exact ⟨_, _, _, h.b, h1⟩
theorem Two.below (h : Two z M w gt gr t u) (hb : Below w.heap.size w w') : Two z M w' gt gr t u := by
  obtain ⟨S, A, n, c, zs, A2, n2, c2, zs2, h1, h2, h3, h4, h5, h6, h7⟩ := h
  have := hb.size
  exact ⟨S, A, n, c, zs, A2, n2, c2, zs2, h1.below hb, h2.below hb, h3, h4, h5, by omega, by omega⟩
theorem Two.zw (h : Two z M w gt gr t u) : z ≤ w.heap.size := by
  obtain ⟨S, A, n, c, zs, A2, n2, c2, zs2, h1, h2, h3, h4, h5, h6, h7⟩ := h
  exact h6
theorem Two.mono (h : Two z M w gt gr t u) (h0 : M ≤ M') (hM : M' ≤ w.heap.size) : Two z M' w gt gr t u := by
  obtain ⟨S, A, n, c, zs, A2, n2, c2, zs2, h1, h2, h3, h4, h5, h6, h7⟩ := h
  exact ⟨S, A, n, c, zs, A2, n2, c2, zs2, h1, h2, h3, fun j hj => Nat.lt_of_lt_of_le (h4 j hj) h0, h5, h6, hM⟩
/-- behind an act of the program's track -/
theorem two_t {S : Nat → Prop} {A : Option Addr} {n c : Nat} {zs : List (Value × En)} {A2 : Option Addr} {n2 c2 : Nat} {zs2 : List (Value × En)} (h1 : TrkIn z S w gt t A n c zs) (h2 : RefIn (fun j => j < z) w gr u A2 n2 c2 zs2)
    (h3 : ∀ j, rowOf A j → ¬ rowOf A2 j) (h5 : z ≤ gr) (h6 : z ≤ w.heap.size) (hP : PostT z S w gt A t' M' w') (hM : w.heap.size ≤ M') : Two z M' w' gt gr t' u ∧ Below z w w' ∧ TStay TX w w' := by
  obtain ⟨A', n', c', zs', S', p1, p2, p3, p4, p5⟩ := hP
  have hs := p5.size
  refine ⟨⟨S', A', n', c', zs', A2, n2, c2, zs2, p1, h2.keep fun j hj hl => p5.block j hl fun hx => ?_, fun j hj hj2 => ?_, fun j hj => ?_, h5, by omega, p4⟩, p5.below (fun j hj => ?_) h6, h1.tstay p5 (by decide) (by decide)⟩
  · rcases hx with rfl | hx
    · rcases hj with rfl | hj | hj
      · have e1 := h1.b
        have e2 := h2.b
        exact absurd rfl (blk_apart e1 (ds := #[.int .i64 u.index, .int .i64 u.term, .slice A2 n2 c2]) (fz := (0, 0)) (T' := 78) e2 (by decide))
      · obtain ⟨_, _, cs, e2⟩ := own_row_blk h2.o A2 c2 rfl _ hj
        exact absurd rfl (blk_apart h1.b e2 (by decide))
      · have := h1.g; omega
    · obtain ⟨q1, q2, cs, e2⟩ := h1.rowlt j hx
      rcases hj with rfl | hj | hj
      · exact absurd rfl (blk_apart h2.b e2 (by decide))
      · exact h3 j hx hj
      · omega
  · rcases p3 j hj with h | h
    · exact h3 j h hj2
    · have := h2.rowlt j hj2; omega
  · rcases p2 j hj with h | h
    · have := h1.slt j h; omega
    · exact h.2
  · rcases hj with rfl | hj
    · exact h1.g
    · exact (h1.rowlt j hj).2.1
theorem two_r {S : Nat → Prop} {A : Option Addr} {n c : Nat} {zs : List (Value × En)} {A2 : Option Addr} {n2 c2 : Nat} {zs2 : List (Value × En)} (h1 : TrkIn z S w gt t A n c zs) (h2 : RefIn (fun j => j < z) w gr u A2 n2 c2 zs2)
    (h3 : ∀ j, rowOf A j → ¬ rowOf A2 j) (h4 : ∀ j, S j → j < M) (h5 : z ≤ gr) (h6 : z ≤ w.heap.size) (h7 : M ≤ w.heap.size) (hP : PostR (fun j => j < z) w gr A2 u' w') : Two z M w' gt gr t u' ∧ Below z w w' ∧ Fr (fun j => j = gr) w w' ∧ TStay TX w w' := by
  obtain ⟨A', n', c', zs', p1, p2, p3⟩ := hP
  have hs := p3.size
  refine ⟨⟨S, A, n, c, zs, A', n', c', zs', h1.keep fun j hj hl => p3.block j hl fun hx => ?_, p1, fun j hj hj2 => ?_, h4, h5, by omega, by omega⟩, p3.below (fun j hj => ?_) h6, p3, h2.tstay p3 (by decide)⟩
  · subst hx
    rcases hj with hj | hj | hj
    · exact absurd hj (blk_apart h1.b h2.b (by decide))
    · obtain ⟨q1, q2, cs, e2⟩ := h1.rowlt _ hj
      exact absurd rfl (blk_apart h2.b e2 (by decide))
    · obtain ⟨cs, fz, ty, e2, e3⟩ := h1.s _ hj
      have e4 := h2.b
      unfold Blk at e4
      rw [e4] at e2
      injection e2 with e2
      injection e2 with _ e2 _
      subst e2
      exact absurd e3 (by decide)
  · rcases p2 j hj2 with h | h
    · exact h3 j hj h
    · have := (h1.rowlt j hj).1; omega
  · subst hj; exact h5
/-! what the acts of the two leave -/
theorem two_put (tm : Int) (x : En) (V : Option Addr) (m d : Nat) (h : Two z M w gt gr t u) (hN : t.L.length ≤ 1000000) (hf : FactsV (fun j => j < z) w (.slice V m d) x.facts) (hm : m ≤ maxLen) :
    Calls Try.prog 44 #[.pointer (some ⟨gt, 0, none⟩), .int .i64 tm, cmdV x (.slice V m d)] w fun e w' => ∃ vy M', e = .returned (.tuple #[enV (t.putF tm x).1.1 vy, .int .i64 (t.putF tm x).1.2]) ∧ FactsV (NewIn TD M' w') w' vy (t.putF tm x).1.1.facts ∧ w.heap.size ≤ M' ∧
      Two z M' w' gt gr (t.putF tm x).2 u ∧ Below z w w' ∧ TStay TX w w' := by
  obtain ⟨S, A, n, c, zs, A2, n2, c2, zs2, h1, h2, h3, h4, h5, h6, h7⟩ := h
  refine (tput_any (fun j => j < z) tm x V m d h1 (h1.nlen hN) h6 hf hm fun j hj => ?_).mono ?_
  · rintro (hx | hx)
    · have := h1.g; omega
    · have := (h1.rowlt j hx).2.1; omega
  · rintro e w' ⟨vy, he, M', q1, q2, q3⟩
    exact ⟨vy, M', he, q1, q2, two_t h1 h2 h3 h5 h6 q3 q2⟩
theorem two_take (idx tm : Int) (A9 : Option Addr) (m c9 : Nat) (ys : List (Value × En)) (h : Two z M w gt gr t u) (hN : t.L.length ≤ 1000000) (hr : RdE w A9 m ys) (hd : DeepE (fun j => j < z) w ys) (hm : m ≤ 100000) (hmc : m ≤ c9) (hcc : c9 ≤ maxLen)
    (hA : 0 < m → ∀ j, rowOf A9 j → j ≠ gt) : Calls Try.prog 47 #[.pointer (some ⟨gt, 0, none⟩), .int .i64 idx, .int .i64 tm, .slice A9 m c9] w fun e w' =>
      e = .returned (.tuple #[.int .i64 (t.takeF idx tm (ys.map (·.2))).1.1, .bool (t.takeF idx tm (ys.map (·.2))).1.2]) ∧ Two z w'.heap.size w' gt gr (t.takeF idx tm (ys.map (·.2))).2 u ∧ Below z w w' ∧ TStay TX w w' := by
  obtain ⟨S, A, n, c, zs, A2, n2, c2, zs2, h1, h2, h3, h4, h5, h6, h7⟩ := h
  refine (ttake_any (fun j => j < z) idx tm A9 m c9 ys h1 (h1.nlen hN) h6 hr hd hm hmc hcc (fun j hj => ?_) hA).mono ?_
  · have := h1.g; omega
  · rintro e w' ⟨he, hP⟩
    refine ⟨he, two_t h1 h2 h3 h5 h6 hP ?_⟩
    obtain ⟨A', n', c', zs', S', p1, p2, p3, p4, p5⟩ := hP
    exact p5.size
theorem two_drop (i : Int) (h : Two z M w gt gr t u) (hN : t.L.length ≤ 1000000) : Calls Try.prog 49 #[.pointer (some ⟨gt, 0, none⟩), .int .i64 i] w fun e w' =>
      e = .returned (.int .i64 (t.dropF i).1) ∧ Two z w'.heap.size w' gt gr (t.dropF i).2 u ∧ Below z w w' ∧ TStay TX w w' := by
  obtain ⟨S, A, n, c, zs, A2, n2, c2, zs2, h1, h2, h3, h4, h5, h6, h7⟩ := h
  refine (tdrop_any i h1 (h1.nlen hN) h6).mono ?_
  rintro e w' ⟨he, hP⟩
  refine ⟨he, two_t h1 h2 h3 h5 h6 hP ?_⟩
  obtain ⟨A', n', c', zs', S', p1, p2, p3, p4, p5⟩ := hP
  exact p5.size
theorem two_rput (tm : Int) (x : En) (V : Option Addr) (m d : Nat) (h : Two z M w gt gr t u) (hN : u.L.length ≤ 1000000) (hf : FactsV (fun j => j < z) w (.slice V m d) x.facts) (hm : m ≤ maxLen) :
    Calls Try.prog 52 #[.pointer (some ⟨gr, 0, none⟩), .int .i64 tm, cmdV x (.slice V m d)] w fun e w' => ∃ vy, e = .returned (.tuple #[enV (u.putF tm x).1.1 vy, .int .i64 (u.putF tm x).1.2]) ∧ FactsV (fun j => j < z) w' vy (u.putF tm x).1.1.facts ∧
      Two z M w' gt gr t (u.putF tm x).2 ∧ Below z w w' ∧ Fr (fun j => j = gr) w w' ∧ TStay TX w w' := by
  obtain ⟨S, A, n, c, zs, A2, n2, c2, zs2, h1, h2, h3, h4, h5, h6, h7⟩ := h
  refine (rput_any tm x V m d h2 (h2.nlen hN) hf hm fun j hj => ⟨by omega, by omega⟩).mono ?_
  rintro e w' ⟨vy, he, q1, q2⟩
  exact ⟨vy, he, q1, two_r h1 h2 h3 h4 h5 h6 h7 q2⟩
theorem two_rtake (idx tm : Int) (A9 : Option Addr) (m c9 : Nat) (ys : List (Value × En)) (h : Two z M w gt gr t u) (hN : u.L.length ≤ 1000000) (hr : RdE w A9 m ys) (hd : DeepE (fun j => j < z) w ys) (hm : m ≤ 100000) (hmc : m ≤ c9) (hcc : c9 ≤ maxLen)
    (hA : 0 < m → ∀ j, rowOf A9 j → j < z) : Calls Try.prog 51 #[.pointer (some ⟨gr, 0, none⟩), .int .i64 idx, .int .i64 tm, .slice A9 m c9] w fun e w' =>
      e = .returned (.tuple #[.int .i64 (u.takeF idx tm (ys.map (·.2))).1.1, .bool (u.takeF idx tm (ys.map (·.2))).1.2]) ∧ Two z M w' gt gr t (u.takeF idx tm (ys.map (·.2))).2 ∧ Below z w w' ∧ Fr (fun j => j = gr) w w' ∧ TStay TX w w' := by
  obtain ⟨S, A, n, c, zs, A2, n2, c2, zs2, h1, h2, h3, h4, h5, h6, h7⟩ := h
  refine (rtake_any idx tm A9 m c9 ys h2 (h2.nlen hN) hr hd hm hmc hcc (fun j hj => by omega) fun h0 j hj => by have := hA h0 j hj; omega).mono ?_
  rintro e w' ⟨he, hP⟩
  exact ⟨he, two_r h1 h2 h3 h4 h5 h6 h7 hP⟩
theorem two_rdrop (i : Int) (h : Two z M w gt gr t u) (hN : u.L.length ≤ 1000000) : Calls Try.prog 66 #[.pointer (some ⟨gr, 0, none⟩), .int .i64 i] w fun e w' =>
      e = .returned (.int .i64 (u.dropF i).1) ∧ Two z M w' gt gr t (u.dropF i).2 ∧ Below z w w' ∧ Fr (fun j => j = gr) w w' ∧ TStay TX w w' := by
  obtain ⟨S, A, n, c, zs, A2, n2, c2, zs2, h1, h2, h3, h4, h5, h6, h7⟩ := h
  refine (rdrop_any i h2 (h2.nlen hN) fun j hj => by omega).mono ?_
  rintro e w' ⟨he, hP⟩
  exact ⟨he, two_r h1 h2 h3 h4 h5 h6 h7 hP⟩
end
/-! how far a track grows -/
theorem findDiff_len {t : Trk} {l : List En} : ∀ {x : En} {r : List En}, t.findDiff l = some (x, r) → (x :: r).length ≤ l.length := by
  induction l with
  | nil => intro x r h; cases h
  | cons y l ih =>
    intro x r h
    unfold Trk.findDiff at h
    split at h
    · have := ih h
      simp only [List.length_cons] at *
      omega
    · injection h with h
      injection h with h1 h2
      subst h1; subst h2
      exact Nat.le_refl _
theorem takeF_len (t : Trk) (i tm : Int) (l : List En) : (t.takeF i tm l).2.L.length ≤ t.L.length + l.length := by
  unfold Trk.takeF
  split
  · split
    · exact Nat.le_add_right _ _
    · rename_i h
      have := findDiff_len h
      simp only [List.length_append, List.length_take] at *
      omega
  · exact Nat.le_add_right _ _
theorem putF_len (t : Trk) (tm : Int) (x : En) : (t.putF tm x).2.L.length ≤ t.L.length + 1 := by
  unfold Trk.putF
  split
  · exact Nat.le_add_right _ _
  · split
    · exact Nat.le_add_right _ _
    · simp
theorem dropF_len (t : Trk) (i : Int) : (t.dropF i).2.L.length ≤ t.L.length := by
  unfold Trk.dropF
  split
  · exact Nat.le_refl _
  · split
    · exact Nat.le_refl _
    · simp
end Go.Proofs.Ytojmkbhihnnmaaa
