/-
  The disk: the same files.
-/
import Derived.Test.YtkgcccllabofoaaD3
namespace Go.Proofs.Ytkgcccllabofoaa
open Go.RowKit Go.Maps Go.MapKept Go.WideMaps
open Go.ChangeMaps (setBlock)

def leftN (w : World) (r b : Nat) : Nat := match w.heap[r]?, w.heap[b]? with
  | some (.mapIter _ _ seen _), some (.map es _) => (leftOf es seen).size
  | _, _ => 0
theorem Rng.n_eq {w : World} {r b k n : Nat} {F : ByteArray → Option Value} {left : ByteArray → Prop} {last : Option (ByteArray × Value)} (h : Rng w r b k F left n last) : leftN w r b = n := by
  obtain ⟨es, clock, since, c0, seen, h1, h2, hst, hold, hsc, hn, _⟩ := h.it
  unfold leftN
  rw [h1, h2]
  exact hn.symm
theorem grown_below {w w' : World} {B : Nat} {row : Option Nat} (h : w.grownBy w' row) (hB : B ≤ w.heap.size) (hrow : ∀ g, row = some g → B ≤ g) : Below B w w' :=
  (Below.refl _ _).grown h hB (fun g hg => hrow g hg)
set_option maxRecDepth 100000 in
theorem same_any (b k : Nat) (F : ByteArray → Option Value) (w : World) (hF : MapAt w b k F) :
    Calls Try.prog 57 #[.map (some b)] w fun e w' => ∃ g, e = .returned (.map (some g)) ∧ w.heap.size ≤ g ∧ MapAt w' g k F ∧ Below w.heap.size w w' := by
  have hblt := hF.lt
  have hm0 := MapAt.made w
  have hb0 := (Below.refl w.heap.size w).alloc (Nat.le_refl _) (.map #[] 0)
  have hF0 : MapAt (w.alloc (.map #[] 0)) b k F := hF.keep ((MapKept.heap_alloc w _).2 b hblt)
  go_enter Try.func57, Try.ntmps57
  go_wp2_with fail
  rw [show (Instr.makeMap 71 none).run Try.prog w = .ok (.map (some w.heap.size)) (w.alloc (.map #[] 0)) from rfl]
  generalize hw0 : w.alloc (.map #[] 0) = w0 at *
  have hg : w.heap.size < w0.heap.size := hm0.lt
  generalize hgw : w.heap.size = g at *
  have hgb : g ≠ b := by omega
  obtain ⟨w1, n, hrun, hnk, hR, o, hw1⟩ := run_rng hF0 Try.underlying71
  subst hw1
  have hb1 : Below w0.heap.size w0 (w0.alloc o) := (Below.refl _ _).alloc (Nat.le_refl _) o
  have hm1 := hm0.keep (hb1.block g hg)
  have hb2 := below_then hb0 hb1 (by have := hb0.size; omega)
  clear hb1
  go_wp2_with fail
  have hr0 : w0.heap.size ≠ b := by have := hF0.lt; omega
  have hrg : w0.heap.size ≠ g := by omega
  generalize hrr : w0.heap.size = r at *
  clear hrun hw0
  go_loopw [] (fun wr => ∃ (left : ByteArray → Prop) (n : Nat) (last : Option (ByteArray × Value)) (G : ByteArray → Option Value), n ≤ k ∧ Rng wr r b k F left n last ∧ MapAt wr g (k - n) G ∧ (∀ s v, G s = some v ↔ (F s = some v ∧ ¬ left s)) ∧ Below g w wr) (fun wr => leftN wr r b)
  case atStart =>
    refine ⟨_, n, _, _, hnk, hR, hm1.more (Nat.zero_le _), fun s v => ?_, hb2⟩
    constructor
    · intro h; cases h
    · rintro ⟨h1, h2⟩
      exact absurd (fun h => by rw [h1] at h; cases h) h2
  case round =>
    clear hR hm1 hb2
    obtain ⟨left, n, last, G, hn, hR, hm1, hG, hb1⟩ := hrel
    rcases run_rng_next hR hr0 0 with ⟨h0, hl, hnx⟩ | ⟨s, v, w2, o2, n', hn', hs, hFs, hls, hw2, hnx, hR2⟩
    · go_wp2_with fail
      go_ret
      have hGF : G = F := by
        funext s
        have h := hG s
        cases hf : F s with
        | none =>
          cases hg' : G s with
          | none => rfl
          | some v => rw [((h v).1 hg').1] at hf; cases hf
        | some v => exact (h v).2 ⟨hf, hl s⟩
      rw [hGF] at hm1
      exact ⟨g, rfl, by omega, hm1.more (by omega), by rw [hgw]; exact hb1⟩
    · have hent := run_rng_entry hR2
      have hrlt : r < wr.heap.size := by
        obtain ⟨es, clock, since, c0, seen, h1, _⟩ := hR.it
        rcases Nat.lt_or_ge r wr.heap.size with h | h
        · exact h
        · rw [Array.getElem?_eq_none h] at h1; cases h1
      have hgr3 : wr.grownBy (setBlock w2 r o2) (some r) := by
        rcases hw2 with rfl | rfl
        · exact ⟨rfl, rfl, rfl, by simp [setBlock], fun j _ hne => by simp only [setBlock]; rw [Array.getElem?_setIfInBounds_ne (fun e => hne (by rw [e]))]⟩
        · exact ⟨rfl, rfl, rfl, by show wr.heap.size ≤ (wr.heap.setIfInBounds r o2).size; simp, fun j _ hne => by show (wr.heap.setIfInBounds r o2)[j]? = _; rw [Array.getElem?_setIfInBounds_ne (fun e => hne (by rw [e]))]⟩
      have hm2 := hm1.keep (hgr3.block g hm1.lt (fun e => hrg (Option.some.inj e).symm))
      have hb3 := hb1.trans (grown_below hgr3 (by have := hb1.size; omega) (fun x hx => by cases hx; omega))
      have hn0 : leftN wr r b = n := hR.n_eq
      clear hgr3 hR hm1 hb1 hw2 hrlt
      generalize hw3 : setBlock w2 r o2 = w3 at *
      clear hw3
      obtain ⟨w4, hset, hm4, hg4⟩ := run_set hm2 Try.underlying71 hs v
      have hR4 := hR2.keep (hg4.block r (by
        obtain ⟨es, clock, since, c0, seen, h1, _⟩ := hR2.it
        rcases Nat.lt_or_ge r w3.heap.size with h | h
        · exact h
        · rw [Array.getElem?_eq_none h] at h1; cases h1) (fun e => hrg (Option.some.inj e))) (hg4.block b hR2.m.lt (fun e => hgb (Option.some.inj e).symm))
      have hb4 := hb3.trans (grown_below hg4 (by have := hb3.size; omega) (fun x hx => by cases hx; exact Nat.le_refl _))
      have hn4 : leftN w4 r b = n' := hR4.n_eq
      clear hR2 hg4 hm2 hb3
      go_wp2_with fail
      refine ⟨⟨_, n', _, putF G s v, by omega, hR4, hm4.more (by omega), fun t u => ?_, hb4⟩, by rw [hn4, hn0]; exact hn'⟩
      unfold putF
      by_cases e : t = s
      · subst e
        rw [if_pos rfl, hFs]
        exact ⟨fun h => ⟨h, fun h2 => h2.2 rfl⟩, fun h => h.1⟩
      · rw [if_neg e, hG]
        exact ⟨fun h => ⟨h.1, fun h2 => h.2 h2.1⟩, fun h => ⟨h.1, fun h2 => h.2 ⟨h2, e⟩⟩⟩
end Go.Proofs.Ytkgcccllabofoaa
