/-
  The law TrackOwns: the two tracks, and blocks that are none of theirs.
-/
import Derived.Test.YtojmkbhihnnmaaaT32
namespace Go.Proofs.Ytojmkbhihnnmaaa
open Go.RowKit

/-- as Two; the blocks K are none of theirs -/
def TwoK (z M : Nat) (K : Nat → Prop) (w : World) (gt gr : Nat) (t u : Trk) : Prop :=
  ∃ (S : Nat → Prop) (A : Option Addr) (n c : Nat) (zs : List (Value × En)) (A2 : Option Addr) (n2 c2 : Nat) (zs2 : List (Value × En)),
    TrkIn z S w gt t A n c zs ∧ RefIn (fun j => j < z) w gr u A2 n2 c2 zs2 ∧ (∀ j, rowOf A j → ¬ rowOf A2 j) ∧ (∀ j, S j → j < M) ∧ z ≤ gr ∧ z ≤ w.heap.size ∧ M ≤ w.heap.size ∧
    ∀ j, K j → j < w.heap.size ∧ z ≤ j ∧ ¬ (j = gt ∨ rowOf A j) ∧ ¬ (j = gr ∨ rowOf A2 j) ∧ ¬ S j
section
variable {z M M' : Nat} {K K' : Nat → Prop} {w w' : World} {gt gr : Nat} {t t' u u' : Trk}
theorem TwoK.two (h : TwoK z M K w gt gr t u) : Two z M w gt gr t u := by
  obtain ⟨S, A, n, c, zs, A2, n2, c2, zs2, h1, h2, h3, h4, h5, h6, h7, _⟩ := h
  exact ⟨S, A, n, c, zs, A2, n2, c2, zs2, h1, h2, h3, h4, h5, h6, h7⟩
theorem Two.k (h : Two z M w gt gr t u) : TwoK z M (fun _ => False) w gt gr t u := by
  obtain ⟨S, A, n, c, zs, A2, n2, c2, zs2, h1, h2, h3, h4, h5, h6, h7⟩ := h
  exact ⟨S, A, n, c, zs, A2, n2, c2, zs2, h1, h2, h3, h4, h5, h6, h7, fun j h => h.elim⟩
theorem TwoK.below (h : TwoK z M K w gt gr t u) (hb : Below w.heap.size w w') : TwoK z M K w' gt gr t u := by
  obtain ⟨S, A, n, c, zs, A2, n2, c2, zs2, h1, h2, h3, h4, h5, h6, h7, h8⟩ := h
  have := hb.size
  exact ⟨S, A, n, c, zs, A2, n2, c2, zs2, h1.below hb, h2.below hb, h3, h4, h5, by omega, by omega, fun j hj => ⟨by have := (h8 j hj).1; omega, (h8 j hj).2⟩⟩
/-- what is new is none of theirs -/
theorem TwoK.fresh (h : TwoK z M K w gt gr t u) (hb : Below w.heap.size w w') : TwoK z M (fun j => K j ∨ (w.heap.size ≤ j ∧ j < w'.heap.size)) w' gt gr t u := by
  obtain ⟨S, A, n, c, zs, A2, n2, c2, zs2, h1, h2, h3, h4, h5, h6, h7, h8⟩ := h
  have := hb.size
  refine ⟨S, A, n, c, zs, A2, n2, c2, zs2, h1.below hb, h2.below hb, h3, h4, h5, by omega, by omega, fun j hj => ?_⟩
  rcases hj with hj | ⟨hj, hj'⟩
  · exact ⟨by have := (h8 j hj).1; omega, (h8 j hj).2⟩
  · refine ⟨hj', by omega, ?_, ?_, fun hs => by have := h1.slt j hs; omega⟩
    · rintro (rfl | hx)
      · have := h1.b.lt; omega
      · have := (h1.rowlt j hx).1; omega
    · rintro (rfl | hx)
      · have := h2.b.lt; omega
      · have := h2.rowlt j hx; omega
/-- facts that lie behind those of the track are none of theirs -/
theorem TwoK.facts (h : TwoK z M K w gt gr t u) (hz : z ≤ M) : TwoK z M (fun j => K j ∨ NewIn TD M w j) w gt gr t u := by
  obtain ⟨S, A, n, c, zs, A2, n2, c2, zs2, h1, h2, h3, h4, h5, h6, h7, h8⟩ := h
  refine ⟨S, A, n, c, zs, A2, n2, c2, zs2, h1, h2, h3, h4, h5, h6, h7, fun j hj => ?_⟩
  rcases hj with hj | ⟨hj, cs, _, T, e1, e2⟩
  · exact h8 j hj
  · refine ⟨lt_of_heap e1, by omega, ?_, ?_, fun hs => by have := h4 j hs; omega⟩
    · rintro (rfl | hx)
      · exact blk_apart h1.b e1 (fun e => absurd (e ▸ e2) (by decide)) rfl
      · obtain ⟨_, _, cs', e3⟩ := h1.rowlt j hx
        rw [e1] at e3
        injection e3 with e3
        injection e3 with _ e3 _
        subst e3
        exact absurd e2 (by decide)
    · rintro (rfl | hx)
      · exact blk_apart h2.b e1 (fun e => absurd (e ▸ e2) (by decide)) rfl
      · obtain ⟨_, _, cs', e3⟩ := own_row_blk h2.o A2 c2 rfl j hx
        rw [e1] at e3
        injection e3 with e3
        injection e3 with _ e3 _
        subst e3
        exact absurd e2 (by decide)
theorem TwoK.less (h : TwoK z M K w gt gr t u) (hK : ∀ j, K' j → K j) : TwoK z M K' w gt gr t u := by
  obtain ⟨S, A, n, c, zs, A2, n2, c2, zs2, h1, h2, h3, h4, h5, h6, h7, h8⟩ := h
  exact ⟨S, A, n, c, zs, A2, n2, c2, zs2, h1, h2, h3, h4, h5, h6, h7, fun j hj => h8 j (hK j hj)⟩
/-- what is written in such blocks is no matter -/
theorem TwoK.write (h : TwoK z M K w gt gr t u) (hF : Fr K w w') : TwoK z M K w' gt gr t u ∧ Below z w w' := by
  obtain ⟨S, A, n, c, zs, A2, n2, c2, zs2, h1, h2, h3, h4, h5, h6, h7, h8⟩ := h
  have := hF.size
  refine ⟨⟨S, A, n, c, zs, A2, n2, c2, zs2, h1.keep fun j hj hl => hF.block j hl fun hk => ?_, h2.keep fun j hj hl => hF.block j hl fun hk => ?_, h3, h4, h5, by omega, by omega, fun j hj => ⟨by have := (h8 j hj).1; omega, (h8 j hj).2⟩⟩, hF.below (fun j hj => (h8 j hj).2.1) h6⟩
  · obtain ⟨_, _, k1, _, k3⟩ := h8 j hk
    rcases hj with hj | hj | hj
    · exact k1 (.inl hj)
    · exact k1 (.inr hj)
    · exact k3 hj
  · obtain ⟨_, k0, _, k2, _⟩ := h8 j hk
    rcases hj with hj | hj | hj
    · exact k2 (.inl hj)
    · exact k2 (.inr hj)
    · have hj : j < z := hj
      omega
theorem TwoK.zw (h : TwoK z M K w gt gr t u) : z ≤ w.heap.size := h.two.zw
theorem TwoK.lt (h : TwoK z M K w gt gr t u) : z ≤ gt ∧ gt < w.heap.size ∧ z ≤ gr ∧ gr < w.heap.size := by
  obtain ⟨S, A, n, c, zs, A2, n2, c2, zs2, h1, h2, h3, h4, h5, h6, h7, h8⟩ := h
  exact ⟨h1.g, h1.b.lt, h5, h2.b.lt⟩
/-- an act of the program's track -/
theorem twok_t {S : Nat → Prop} {A : Option Addr} {n c : Nat} {zs : List (Value × En)} {A2 : Option Addr} {n2 c2 : Nat} {zs2 : List (Value × En)} (h1 : TrkIn z S w gt t A n c zs) (h2 : RefIn (fun j => j < z) w gr u A2 n2 c2 zs2)
    (h3 : ∀ j, rowOf A j → ¬ rowOf A2 j) (h5 : z ≤ gr) (h6 : z ≤ w.heap.size) (h8 : ∀ j, K j → j < w.heap.size ∧ z ≤ j ∧ ¬ (j = gt ∨ rowOf A j) ∧ ¬ (j = gr ∨ rowOf A2 j) ∧ ¬ S j) (hP : PostT z S w gt A t' M' w') (hM : w.heap.size ≤ M') :
    TwoK z M' K w' gt gr t' u ∧ Below z w w' ∧ TStay TX w w' ∧ Fr (fun j => ¬ K j) w w' := by
  obtain ⟨q1, q2, q3⟩ := two_t h1 h2 h3 h5 h6 hP hM
  obtain ⟨A', n', c', zs', S', p1, p2, p3, p4, p5⟩ := hP
  have hs := p5.size
  refine ⟨⟨S', A', n', c', zs', A2, n2, c2, zs2, p1, h2.keep fun j hj hl => p5.block j hl fun hx => ?_, fun j hj hj2 => ?_, fun j hj => ?_, h5, by omega, p4, fun j hj => ?_⟩, q2, q3, p5.mono fun j hj hk => (h8 j hk).2.2.1 hj⟩
  · rcases hx with rfl | hx
    · rcases hj with rfl | hj | hj
      · exact absurd rfl (blk_apart h1.b (ds := #[.int .i64 u.index, .int .i64 u.term, .slice A2 n2 c2]) (fz := (0, 0)) (T' := 78) h2.b (by decide))
      · obtain ⟨_, _, cs, e2⟩ := own_row_blk h2.o A2 c2 rfl _ hj
        exact absurd rfl (blk_apart h1.b e2 (by decide))
      · have := h1.g; omega
    · obtain ⟨q1, q2, cs, e2⟩ := h1.rowlt j hx
      rcases hj with rfl | hj | hj
      · exact absurd rfl (blk_apart h2.b e2 (by decide))
      · exact h3 j hx hj
      · omega
  · rcases p3 j hj with h | h
    · exact h3 j h hj2
    · have := h2.rowlt j hj2; omega
  · rcases p2 j hj with h | h
    · have := h1.slt j h; omega
    · exact h.2
  · obtain ⟨k0, k1, k2, k3, k4⟩ := h8 j hj
    refine ⟨by omega, k1, ?_, k3, fun hs' => ?_⟩
    · rintro (rfl | hx)
      · exact k2 (.inl rfl)
      · rcases p3 j hx with h | h
        · exact k2 (.inr h)
        · omega
    · rcases p2 j hs' with h | h
      · exact k4 h
      · omega
/-- an act of the answer's track -/
theorem twok_r {S : Nat → Prop} {A : Option Addr} {n c : Nat} {zs : List (Value × En)} {A2 : Option Addr} {n2 c2 : Nat} {zs2 : List (Value × En)} (h1 : TrkIn z S w gt t A n c zs) (h2 : RefIn (fun j => j < z) w gr u A2 n2 c2 zs2)
    (h3 : ∀ j, rowOf A j → ¬ rowOf A2 j) (h4 : ∀ j, S j → j < M) (h5 : z ≤ gr) (h6 : z ≤ w.heap.size) (h7 : M ≤ w.heap.size) (h8 : ∀ j, K j → j < w.heap.size ∧ z ≤ j ∧ ¬ (j = gt ∨ rowOf A j) ∧ ¬ (j = gr ∨ rowOf A2 j) ∧ ¬ S j) (hP : PostR (fun j => j < z) w gr A2 u' w') :
    TwoK z M K w' gt gr t u' ∧ Below z w w' ∧ TStay TX w w' ∧ Fr (fun j => j = gr) w w' ∧ Fr (fun j => ¬ K j) w w' := by
  obtain ⟨q1, q2, q3, q4⟩ := two_r h1 h2 h3 h4 h5 h6 h7 hP
  obtain ⟨A', n', c', zs', p1, p2, p3⟩ := hP
  have hs := p3.size
  refine ⟨⟨S, A, n, c, zs, A', n', c', zs', h1.keep fun j hj hl => p3.block j hl fun hx => ?_, p1, fun j hj hj2 => ?_, h4, h5, by omega, by omega, fun j hj => ?_⟩, q2, q4, q3, p3.mono fun j hj hk => (h8 j hk).2.2.2.1 (.inl hj)⟩
  · subst hx
    rcases hj with hj | hj | hj
    · exact absurd hj (blk_apart h1.b h2.b (by decide))
    · obtain ⟨q1, q2, cs, e2⟩ := h1.rowlt _ hj
      exact absurd rfl (blk_apart h2.b e2 (by decide))
    · obtain ⟨cs, fz, ty, e2, e3⟩ := h1.s _ hj
      exact absurd rfl (blk_apart h2.b e2 fun e => absurd (e ▸ e3) (by decide))
  · rcases p2 j hj2 with h | h
    · exact h3 j hj h
    · have := (h1.rowlt j hj).1; omega
  · obtain ⟨k0, k1, k2, k3, k4⟩ := h8 j hj
    refine ⟨by omega, k1, k2, ?_, k4⟩
    rintro (rfl | hx)
    · exact k3 (.inl rfl)
    · rcases p2 j hx with h | h
      · exact k3 (.inr h)
      · omega
theorem twok_put (tm : Int) (x : En) (V : Option Addr) (m d : Nat) (h : TwoK z M K w gt gr t u) (hN : t.L.length ≤ 1000000) (hf : FactsV (fun j => j < z) w (.slice V m d) x.facts) (hm : m ≤ maxLen) :
    Calls Try.prog 44 #[.pointer (some ⟨gt, 0, none⟩), .int .i64 tm, cmdV x (.slice V m d)] w fun e w' => ∃ vy M', e = .returned (.tuple #[enV (t.putF tm x).1.1 vy, .int .i64 (t.putF tm x).1.2]) ∧ FactsV (NewIn TD M' w') w' vy (t.putF tm x).1.1.facts ∧ w.heap.size ≤ M' ∧
      TwoK z M' K w' gt gr (t.putF tm x).2 u ∧ Below z w w' ∧ TStay TX w w' ∧ Fr (fun j => ¬ K j) w w' := by
  obtain ⟨S, A, n, c, zs, A2, n2, c2, zs2, h1, h2, h3, h4, h5, h6, h7, h8⟩ := h
  refine (tput_any (fun j => j < z) tm x V m d h1 (h1.nlen hN) h6 hf hm fun j hj => ?_).mono ?_
  · rintro (hx | hx)
    · have := h1.g; omega
    · have := (h1.rowlt j hx).2.1; omega
  · rintro e w' ⟨vy, he, M', q1, q2, q3⟩
    exact ⟨vy, M', he, q1, q2, twok_t h1 h2 h3 h5 h6 h8 q3 q2⟩
theorem twok_take (idx tm : Int) (A9 : Option Addr) (m c9 : Nat) (ys : List (Value × En)) (h : TwoK z M K w gt gr t u) (hN : t.L.length ≤ 1000000) (hr : RdE w A9 m ys) (hd : DeepE (fun j => j < z) w ys) (hm : m ≤ 100000) (hmc : m ≤ c9) (hcc : c9 ≤ maxLen)
    (hA : 0 < m → ∀ j, rowOf A9 j → j ≠ gt) : Calls Try.prog 47 #[.pointer (some ⟨gt, 0, none⟩), .int .i64 idx, .int .i64 tm, .slice A9 m c9] w fun e w' =>
      e = .returned (.tuple #[.int .i64 (t.takeF idx tm (ys.map (·.2))).1.1, .bool (t.takeF idx tm (ys.map (·.2))).1.2]) ∧ TwoK z w'.heap.size K w' gt gr (t.takeF idx tm (ys.map (·.2))).2 u ∧ Below z w w' ∧ TStay TX w w' ∧ Fr (fun j => ¬ K j) w w' := by
  obtain ⟨S, A, n, c, zs, A2, n2, c2, zs2, h1, h2, h3, h4, h5, h6, h7, h8⟩ := h
  refine (ttake_any (fun j => j < z) idx tm A9 m c9 ys h1 (h1.nlen hN) h6 hr hd hm hmc hcc (fun j hj => ?_) hA).mono ?_
  · have := h1.g; omega
  · rintro e w' ⟨he, hP⟩
    refine ⟨he, twok_t h1 h2 h3 h5 h6 h8 hP ?_⟩
    obtain ⟨A', n', c', zs', S', p1, p2, p3, p4, p5⟩ := hP
    exact p5.size
theorem twok_rput (tm : Int) (x : En) (V : Option Addr) (m d : Nat) (h : TwoK z M K w gt gr t u) (hN : u.L.length ≤ 1000000) (hf : FactsV (fun j => j < z) w (.slice V m d) x.facts) (hm : m ≤ maxLen) :
    Calls Try.prog 52 #[.pointer (some ⟨gr, 0, none⟩), .int .i64 tm, cmdV x (.slice V m d)] w fun e w' => ∃ vy, e = .returned (.tuple #[enV (u.putF tm x).1.1 vy, .int .i64 (u.putF tm x).1.2]) ∧ FactsV (fun j => j < z) w' vy (u.putF tm x).1.1.facts ∧
      TwoK z M K w' gt gr t (u.putF tm x).2 ∧ Below z w w' ∧ TStay TX w w' ∧ Fr (fun j => j = gr) w w' ∧ Fr (fun j => ¬ K j) w w' := by
  obtain ⟨S, A, n, c, zs, A2, n2, c2, zs2, h1, h2, h3, h4, h5, h6, h7, h8⟩ := h
  refine (rput_any tm x V m d h2 (h2.nlen hN) hf hm fun j hj => ⟨by omega, by omega⟩).mono ?_
  rintro e w' ⟨vy, he, q1, q2⟩
  exact ⟨vy, he, q1, twok_r h1 h2 h3 h4 h5 h6 h7 h8 q2⟩
theorem twok_rtake (idx tm : Int) (A9 : Option Addr) (m c9 : Nat) (ys : List (Value × En)) (h : TwoK z M K w gt gr t u) (hN : u.L.length ≤ 1000000) (hr : RdE w A9 m ys) (hd : DeepE (fun j => j < z) w ys) (hm : m ≤ 100000) (hmc : m ≤ c9) (hcc : c9 ≤ maxLen)
    (hA : 0 < m → ∀ j, rowOf A9 j → j < z) : Calls Try.prog 51 #[.pointer (some ⟨gr, 0, none⟩), .int .i64 idx, .int .i64 tm, .slice A9 m c9] w fun e w' =>
      e = .returned (.tuple #[.int .i64 (u.takeF idx tm (ys.map (·.2))).1.1, .bool (u.takeF idx tm (ys.map (·.2))).1.2]) ∧ TwoK z M K w' gt gr t (u.takeF idx tm (ys.map (·.2))).2 ∧ Below z w w' ∧ TStay TX w w' ∧ Fr (fun j => j = gr) w w' ∧ Fr (fun j => ¬ K j) w w' := by
  obtain ⟨S, A, n, c, zs, A2, n2, c2, zs2, h1, h2, h3, h4, h5, h6, h7, h8⟩ := h
  refine (rtake_any idx tm A9 m c9 ys h2 (h2.nlen hN) hr hd hm hmc hcc (fun j hj => by omega) fun h0 j hj => by have := hA h0 j hj; omega).mono ?_
  rintro e w' ⟨he, hP⟩
  exact ⟨he, twok_r h1 h2 h3 h4 h5 h6 h7 h8 hP⟩
end
/-! cells that may be written -/
/-- so many cells behind an address are there, and none is frozen -/
def Wri (w : World) (ad : Addr) (N : Nat) : Prop := ∀ j, j < N → (∃ v, w.cell? (ad.add j) = some v) ∧ w.frozen? (ad.add j) = false
theorem wri_of {w : World} {T : TypeId} {cs : Array Value} {ad : Addr} {N : Nat} (hc : ∀ j, j < N → ∃ v, w.cell? (ad.add j) = some v) (hb : Blk w ad.block T cs) : Wri w ad N := fun j hj => ⟨hc j hj, by
  have e := block_of_add ad j

  unfold Blk at hb
  simp [World.frozen?, e, hb]⟩
end Go.Proofs.Ytojmkbhihnnmaaa
