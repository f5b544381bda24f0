/-
  The disk: List.
-/
import Derived.Test.YtkgcccllabofoaaD16
namespace Go.Proofs.Ytkgcccllabofoaa
open Go.RowKit Go.Maps Go.MapKept Go.WideMaps
open Go.ChangeMaps (setBlock)

/-- a row of names of the call's own, in order -/
def ListOk (B : Nat) (w' : World) (v : Value) (F : ByteArray → Prop) : Prop := ∃ A n c names, v = .slice A n c ∧ w'.ownsRow B 9 1 (.slice A n c) n (names.map vst) ∧ srt names ∧ ∀ s, s ∈ names ↔ F s
section
variable {z : Zb} {g c : Nat} {S : St} {w : World}
set_option maxRecDepth 100000 in
theorem list_any (hD : DiskAt z w g c S) (hc : c ≤ 100000) :
    Calls Try.prog 32 #[.pointer (some ⟨g, 0, none⟩)] w fun e w' =>
      (if S.fuse = some 0 then e = .returned (.tuple #[.slice none 0 0, .int .i64 30]) else ∃ A n cc names, e = .returned (.tuple #[.slice A n cc, .int .i64 0]) ∧ w'.ownsRow w.heap.size 9 1 (.slice A n cc) n (names.map vst) ∧ srt names ∧ n ≤ c ∧ ∀ s, s ∈ names ↔ S.files s ≠ none) ∧ Below w.heap.size w w' := by
  obtain ⟨bl, bf, A, n, cp, left, xs, hI⟩ := hD
  go_enter Try.func32, Try.ntmps32
  go_wp2_with fail
  refine (down_any hI.b).mono ?_
  rintro e w1 ⟨rfl, rfl⟩
  rw [hI.down]
  by_cases h0 : S.fuse = some 0
  · rw [decide_eq_true h0]
    have H0 := Lib.hid h0
    clear h0
    go_wp2_with fail
    refine bodyPost_ret (v := .tuple #[.slice none 0 0, .int .i64 30]) (by simp [results, Try.results32, go_sem]) rfl ?_
    exact ⟨rfl, Below.refl _ _⟩
  · rw [decide_eq_false h0]
    have H0 := Lib.hid h0
    clear h0
    have h1 := hI.b.cell 1
    simp only [dkCells, List.getElem?_toArray, List.getElem?_cons_zero, List.getElem?_cons_succ] at h1
    obtain ⟨F, hF, hF1, hF2⟩ := hI.mf
    have hFG : ∀ s, F s ≠ none ↔ S.files s ≠ none := fun s => by
      cases hs : S.files s with
      | none => rw [hF1 s hs]; simp
      | some l =>
        obtain ⟨v, hv, _⟩ := hF2 s l hs
        rw [hv]
        simp
    have hbl := hF.lt
    obtain ⟨w1, nn, hrun, hnk, hR, o, hw1⟩ := run_rng hF Try.underlying71
    subst hw1
    have hb1 : Below w.heap.size w (w.alloc o) := (Below.refl _ _).alloc (Nat.le_refl _) o
    have hrb : w.heap.size ≠ bf := by omega
    go_wp2_with fail
    clear hrun
    generalize hr : w.heap.size = r at *
    go_loopw [4] (fun v wr => ∃ (left : ByteArray → Prop) (q : Nat) (last : Option (ByteArray × Value)) (K : List ByteArray) (A : Option Addr) (m cc : Nat), v = .slice A m cc ∧ wr.ownsRow r 9 1 (.slice A m cc) m (K.map vst) ∧ K.Nodup ∧ (∀ s, s ∈ K ↔ (F s ≠ none ∧ ¬ left s)) ∧ Rng wr r bf c F left q last ∧ m + q ≤ c ∧ Below r w wr) (fun _ wr => leftN wr r bf)
    case atStart => exact ⟨_, nn, _, [], none, 0, 0, rfl, own_nil _ _, List.nodup_nil, fun s => ⟨fun h => (by cases h), fun h => absurd h.1 h.2⟩, hR, by omega, hb1⟩
    case round =>
      clear hR hb1 hF1 hF2
      obtain ⟨left, q, last, K, A, m, cc, rfl, hown, hnd, hK, hR, hmq, hb1⟩ := hrel
      have hKl : K.length = m := by have := hown.1; simpa using this
      rcases run_rng_next hR hrb 0 with ⟨h0, hl, hnx⟩ | ⟨s, v, w2, o2, q', hq', hs, hFs, hls, hw2, hnx, hR2⟩
      · have hfin : ∀ names : List ByteArray, (∀ s, s ∈ names ↔ s ∈ K) → ∀ s, s ∈ names ↔ S.files s ≠ none := fun names hn s => by
          rw [hn, hK, ← hFG]
          exact ⟨fun h => h.1, fun h => ⟨h, hl s⟩⟩
        have hfin := Lib.hid hfin
        have hKl := Lib.hid hKl
        cases A with
        | none =>
          obtain rfl : m = 0 := by
            rcases hown.2 with ⟨h, _⟩ | ⟨_, _, _, h, _⟩
            · injection h
            · cases h
          have hK0 : K = [] := List.eq_nil_of_length_eq_zero hKl.out
          subst hK0
          go_wp2_with fail
          refine (sortS_none none cc wr).mono ?_
          rintro e w9 ⟨rfl, rfl⟩
          go_wp2_with fail
          refine bodyPost_ret (v := .tuple #[.slice none 0 cc, .int .i64 0]) (by simp [results, Try.results32, go_sem]) rfl ?_
          refine ⟨?_, hb1⟩
          exact ⟨none, 0, cc, rfl, [], hown, by unfold srt; exact List.Pairwise.nil, Nat.zero_le _, hfin.out [] fun s => Iff.rfl⟩
        | some ad =>
          obtain ⟨g1, rfl, hg1⟩ : ∃ g1, ad = ⟨g1, 0, none⟩ ∧ r ≤ g1 := by
            rcases hown.2 with ⟨h, _⟩ | ⟨g1, _, _, h, hb, _⟩
            · cases h
            · injection h with h; injection h with h; exact ⟨g1, h, hb⟩
          go_wp2_with fail
          refine (sortS_any hown (by omega)).mono ?_
          rintro e w9 ⟨rfl, hown9, hg9⟩
          have hb9 := hb1.trans (grown_below hg9 (by have := hb1.size; omega) (fun x hx => by cases hx; exact hg1))
          go_wp2_with fail
          refine bodyPost_ret (v := .tuple #[.slice (some ⟨g1, 0, none⟩) m cc, .int .i64 0]) (by simp [results, Try.results32, go_sem]) rfl ?_
          refine ⟨?_, hb9⟩
          exact ⟨_, m, cc, rfl, _, hown9, srt_sortN K hnd, by omega, hfin.out _ (mem_sortN K)⟩
      · have hent := run_rng_entry hR2
        have hrlt : r < wr.heap.size := by
          obtain ⟨es, clock, since, c0, seen, h1, _⟩ := hR.it
          exact lt_of_heap h1
        have hgr3 : wr.grownBy (setBlock w2 r o2) (some r) := by
          rcases hw2 with rfl | rfl
          · exact ⟨rfl, rfl, rfl, by simp [setBlock], fun j _ hne => by simp only [setBlock]; rw [Array.getElem?_setIfInBounds_ne (fun e => hne (by rw [e]))]⟩
          · exact ⟨rfl, rfl, rfl, by show wr.heap.size ≤ (wr.heap.setIfInBounds r o2).size; simp, fun j _ hne => by show (wr.heap.setIfInBounds r o2)[j]? = _; rw [Array.getElem?_setIfInBounds_ne (fun e => hne (by rw [e]))]⟩
        have hown3 : (setBlock w2 r o2).ownsRow r 9 1 (.slice A m cc) m (K.map vst) := own_same hown fun j cs hj => (hgr3.block j (lt_of_heap hj) (fun e => by
          injection e with e
          obtain ⟨es, clock, since, c0, seen, h1, _⟩ := hR.it
          rw [e, h1] at hj; cases hj)).trans hj
        have hb3 := hb1.trans (grown_below hgr3 (by have := hb1.size; omega) (fun x hx => by cases hx; exact Nat.le_refl _))
        have hn0 : leftN wr r bf = q := hR.n_eq
        clear hgr3 hR hb1 hw2 hrlt hown
        generalize hw3 : setBlock w2 r o2 = w3 at *
        clear hw3
        have hb4 : Below w3.heap.size w3 (w3.alloc (.cells #[.string s] 9)) := (Below.refl _ _).alloc (Nat.le_refl _) _
        have hbS := Blk.new w3 9 #[.string s]
        have hown4 := own_below hown3 hb4
        have hR4 : Rng (w3.alloc (.cells #[.string s] 9)) r bf c F (fun t => left t ∧ t ≠ s) q' (some (s, v)) := hR2.keep (hb4.block r (by
          obtain ⟨es, clock, since, c0, seen, h1, _⟩ := hR2.it
          exact lt_of_heap h1)) (hb4.block bf hR2.m.lt)
        have hb14 := below_then hb3 hb4 (by have := hb3.size; omega)
        have hbase : r ≤ (w3.alloc (.cells #[.string s] 9)).heap.size := by have := hb14.size; omega
        have hFs' : F s ≠ none := by rw [hFs]; simp
        clear hFs
        go_wp2_with (at_builtin; refine wpList_append_st rfl (.tmp 17) (.tmp 19) rfl r rfl hown4 w3.heap.size 1 s rfl hbS (by omega) hbase ?_; intro A5 c5 w5 hown5 hg5 hb5)
        have hR5 : Rng w5 r bf c F (fun t => left t ∧ t ≠ s) q' (some (s, v)) := by
          refine hR4.keep ?_ ?_
          · obtain ⟨es, clock, since, c0, seen, h1, _⟩ := hR4.it
            rw [h1]
            exact own_obj hown4 hg5 h1 (fun cs e => by cases e)
          · obtain ⟨es, clock, h1, _⟩ := hR4.m
            rw [h1]
            exact own_obj hown4 hg5 h1 (fun cs e => by cases e)
        have hn5 := hR5.n_eq
        have hsK : s ∉ K := fun h => ((hK s).1 h).2 hls
        refine ⟨⟨_, q', _, K ++ [s], A5, m + 1, c5, rfl, hown5, ?_, fun t => ?_, hR5, by omega, hb14.trans hb5⟩, by rw [hn5, hn0]; exact hq'⟩
        · rw [List.nodup_append]
          refine ⟨hnd, by simp, fun a ha b hb => ?_⟩
          rw [List.mem_singleton.1 hb]
          exact fun e => hsK (e ▸ ha)
        · rw [List.mem_append, List.mem_singleton, hK]
          constructor
          · rintro (h | rfl)
            · exact ⟨h.1, fun h2 => h.2 h2.1⟩
            · exact ⟨hFs', fun h2 => h2.2 rfl⟩
          · rintro ⟨h1, h2⟩
            by_cases e : t = s
            · exact .inr e
            · exact .inl ⟨h1, fun h3 => h2 ⟨h3, e⟩⟩
end
end Go.Proofs.Ytkgcccllabofoaa
