/-
  The disk's answer: rest, down, ready, a list of files in memory, find.
-/
import Derived.Test.YtkgcccllabofoaaE1
namespace Go.Proofs.Ytkgcccllabofoaa
open Go.RowKit Go.Maps

theorem refrest_at {n q : Int} {m : Nat} {w : World} (e : q = m) (h1 : -9223372036854775808 ≤ n) (h2 : n ≤ 9223372036854775807) (hm : 0 < m) (hm2 : m ≤ 9000000000000000000) :
    Calls Try.prog 64 #[.int .i64 n, .int .i64 q] w fun e w' => e = .returned (.int .i64 (restF n m : Nat)) ∧ w = w' := by
  subst e
  have He := restF_eq n hm
  have h0 : ((m : Int) == 0) = false := beq_eq_false_iff_ne.2 (by omega)
  by_cases h : n < 0
  · have hd : decide (n < 0) = true := decide_eq_true h
    rw [if_pos h, Int.neg_tmod] at He
    have He := Lib.hid He
    go_enter Try.func64, Try.ntmps64
    go_wp2_with fail
    go_ret
    refine ⟨?_, rfl⟩
    rw [← He.out]
    rfl
  · have hd : decide (n < 0) = false := decide_eq_false h
    rw [if_neg h, Int.tmod_eq_emod_of_nonneg (by omega)] at He
    have He := Lib.hid He
    go_enter Try.func64, Try.ntmps64
    go_wp2_with fail
    go_ret
    refine ⟨?_, rfl⟩
    rw [← He.out]
    rfl
/-- the cells of the answer's struct -/
def rfCells (vl : Value) (A : Option Addr) (n c : Nat) (fuse : Bool) (left : Int) : Array Value := #[vl, .slice A n c, .bool fuse, .int .i64 left]
section
variable {g n c : Nat} {vl : Value} {A : Option Addr} {fuse : Bool} {left : Int} {w : World}
set_option maxRecDepth 100000 in
theorem refdown_any (h : Blk w g 38 (rfCells vl A n c fuse left)) :
    Calls Try.prog 73 #[.pointer (some ⟨g, 0, none⟩)] w fun e w' => e = .returned (.bool (downF fuse left)) ∧ w = w' := by
  have h2 := h.cell 2
  have h3 := h.cell 3
  simp only [rfCells, List.getElem?_toArray, List.getElem?_cons_zero, List.getElem?_cons_succ] at h2 h3
  cases fuse with
  | false =>
    go_enter Try.func73, Try.ntmps73
    go_wp2_with fail
    go_ret
    exact ⟨rfl, rfl⟩
  | true =>
    have e : (left == 0) = decide (left = 0) := rfl
    go_enter Try.func73, Try.ntmps73
    go_wp2_with fail
    go_ret
    exact ⟨by unfold downF; rw [Bool.true_and]; rfl, rfl⟩
set_option maxRecDepth 100000 in
theorem refready_any (s : ByteArray) (h : Blk w g 38 (rfCells vl A n c fuse left)) :
    Calls Try.prog 70 #[.pointer (some ⟨g, 0, none⟩), .string s] w fun e w' => e = .returned (.int .i64 (readyN (mayF s) (downF fuse left) : Nat)) ∧ w = w' := by
  go_enter Try.func70, Try.ntmps70
  go_wp2_with fail
  refine (refmay_any s w).mono ?_
  rintro e w1 ⟨rfl, rfl⟩
  cases hm : mayF s with
  | false =>
    go_wp2_with fail
    go_ret
    exact ⟨by rw [hm]; rfl, rfl⟩
  | true =>
    go_wp2_with fail
    refine (refdown_any h).mono ?_
    rintro e w2 ⟨rfl, rfl⟩
    cases hd : downF fuse left with
    | false =>
      go_wp2_with fail
      go_ret
      exact ⟨by rw [hm, hd]; rfl, rfl⟩
    | true =>
      go_wp2_with fail
      go_ret
      exact ⟨by rw [hm, hd]; rfl, rfl⟩
end

abbrev FV := Value × (ByteArray × List UInt8)
def fileC (ys : List FV) : List Value := ys.flatMap fun p => [.string p.2.1, p.1]
theorem fileC_len (ys : List FV) : (fileC ys).length = 2 * ys.length := by
  unfold fileC
  induction ys with
  | nil => rfl
  | cons a l ih => simp [ih]; omega
theorem fileC_at (ys : List FV) (i : Nat) (p : FV) (h : ys[i]? = some p) : (fileC ys)[i * 2]? = some (.string p.2.1) ∧ (fileC ys)[i * 2 + 1]? = some p.1 := by
  induction ys generalizing i with
  | nil => simp at h
  | cons a l ih =>
    cases i with
    | zero =>
      simp only [List.getElem?_cons_zero, Option.some.injEq] at h
      subst h
      exact ⟨rfl, rfl⟩
    | succ i =>
      simp only [List.getElem?_cons_succ] at h
      have e : fileC (a :: l) = .string a.2.1 :: a.1 :: fileC l := rfl
      have := ih i h
      rw [e, show (i + 1) * 2 = i * 2 + 1 + 1 by omega, show (i * 2 + 1 + 1) + 1 = (i * 2 + 1) + 1 + 1 by omega]
      simp only [List.getElem?_cons_succ]
      exact this
/-- a list of files: names, and bytes in blocks of their own -/
structure FilesV (z : Nat) (w : World) (A : Option Addr) (n c : Nat) (ys : List FV) (L : FL) : Prop where
  o : w.ownsRow 0 93 2 (.slice A n c) n (fileC ys)
  d : ys.map (·.2) = L
  v : ∀ p ∈ ys, BytesV z w p.1 p.2.2 ∧ p.2.2.length ≤ 1048576
section
variable {z n c : Nat} {A : Option Addr} {ys : List FV} {L : FL} {w w' : World}
theorem FilesV.len (h : FilesV z w A n c ys L) : ys.length = n ∧ L.length = n := by
  have h1 := h.o.1
  have h2 := congrArg List.length h.d
  rw [fileC_len] at h1
  rw [List.length_map] at h2
  omega
theorem FilesV.kept (h : FilesV z w A n c ys L) (hk : ∀ j o, w.heap[j]? = some o → ((∃ cs, o = .cells cs 93 (0, 0)) ∨ (j ≠ z ∧ ∃ cs fz, o = .cells cs 5 fz)) → w'.heap[j]? = some o) : FilesV z w' A n c ys L :=
  ⟨own_same h.o fun j cs hj => hk j _ hj (.inl ⟨cs, rfl⟩), h.d, fun p hp => ⟨(h.v p hp).1.kept fun j cs fz hz hj => hk j _ hj (.inr ⟨hz, cs, fz, rfl⟩), (h.v p hp).2⟩⟩
theorem FilesV.below (h : FilesV z w A n c ys L) (hb : Below w.heap.size w w') : FilesV z w' A n c ys L := h.kept fun j _ hj _ => (hb.block j (lt_of_heap hj)).trans hj
theorem FilesV.at_ (h : FilesV z w A n c ys L) {i : Nat} (hi : i < n) :
    ∃ g, ∃ p : FV, A = some ⟨g, 0, none⟩ ∧ g < w.heap.size ∧ ys[i]? = some p ∧ L[i]? = some p.2 ∧ w.cell? ⟨g, i * 2, none⟩ = some (.string p.2.1) ∧ w.cell? ⟨g, i * 2 + 1, none⟩ = some p.1 ∧ BytesV z w p.1 p.2.2 ∧ p.2.2.length ≤ 1048576 := by
  have hl := h.len
  obtain ⟨g, cap, hv, _, hlt⟩ := h.o.form (by omega)
  injection hv with hA
  subst hA
  have hy : ys[i]? = some ys[i] := List.getElem?_eq_getElem (by omega)
  have hm := h.v _ (List.mem_of_getElem? hy)
  have hc := h.o.cells (g := g) rfl
  have ad : ∀ j, (⟨g, 0, none⟩ : Addr).add j = ⟨g, j, none⟩ := fun j => by unfold Addr.add; split <;> simp [*]
  obtain ⟨h1, h2⟩ := fileC_at ys i _ hy
  have c1 := hc _ _ h1
  have c2 := hc _ _ h2
  rw [ad] at c1 c2
  have hLi : L[i]? = (ys.map (·.2))[i]? := by rw [h.d]
  exact ⟨g, _, rfl, hlt, hy, by rw [hLi, List.getElem?_map, hy]; rfl, c1, c2, hm⟩
theorem FilesV.nil (z : Nat) (w : World) : FilesV z w none 0 0 [] [] := ⟨own_nil _ _, rfl, fun p hp => by cases hp⟩
end
/-- where a file stands -/
def FindI (L : FL) (s : ByteArray) (i : Int) : Prop := (i = -1 ∧ lookL L s = none) ∨ ∃ k d, i = (k : Nat) ∧ L[k]? = some (s, d) ∧ lookL L s = some d
theorem look_first {L : FL} {s : ByteArray} {k : Nat} {d : List UInt8} (h : ∀ (j : Nat) (a : ByteArray × List UInt8), j < k → L[j]? = some a → a.1 ≠ s) (hk : L[k]? = some (s, d)) : lookL L s = some d := by
  induction L generalizing k with
  | nil => simp at hk
  | cons a l ih =>
    cases k with
    | zero =>
      simp only [List.getElem?_cons_zero, Option.some.injEq] at hk
      subst hk
      simp [lookL]
    | succ k =>
      simp only [List.getElem?_cons_succ] at hk
      rw [lookL, if_neg (h 0 a (by omega) rfl)]
      exact ih (fun j a hj ha => h (j + 1) a (by omega) (by simpa using ha)) hk
theorem look_non {L : FL} {s : ByteArray} (h : ∀ (j : Nat) (a : ByteArray × List UInt8), L[j]? = some a → a.1 ≠ s) : lookL L s = none := by
  rw [lookL_none]
  intro hs
  obtain ⟨a, ha, rfl⟩ := List.mem_map.1 hs
  obtain ⟨i, hi, e⟩ := List.getElem_of_mem ha
  exact h i a (by rw [List.getElem?_eq_getElem hi, e]) rfl
theorem str_eq (s t : ByteArray) : (s.toList == t.toList) = decide (s = t) := by
  rw [kl_toList, kl_toList, Bool.eq_iff_iff, beq_iff_eq, decide_eq_true_eq]
  exact ⟨kl_inj, fun h => by rw [h]⟩
set_option maxRecDepth 100000 in
theorem find_any {z n c : Nat} {A : Option Addr} {ys : List FV} {L : FL} {w : World} (s : ByteArray) (h : FilesV z w A n c ys L) (hn : n ≤ 1000000) :
    Calls Try.prog 71 #[.slice A n c, .string s] w fun e w' => (∃ i, e = .returned (.int .i64 i) ∧ FindI L s i) ∧ w = w' := by
  have hl := h.len.2
  go_enter Try.func71, Try.ntmps71
  go_wp2_with fail
  go_loop [5] (fun i => ∃ k : Nat, k ≤ n ∧ i = .int .i64 k ∧ ∀ (j : Nat) (a : ByteArray × List UInt8), j < k → L[j]? = some a → a.1 ≠ s) (fun i => n - (intOf i).toNat)
  case atStart => exact ⟨0, Nat.zero_le _, rfl, fun j a h => absurd h (Nat.not_lt_zero _)⟩
  case round =>
    obtain ⟨k, hk, rfl, hno⟩ := hrel
    by_cases hlt : k < n
    · obtain ⟨g, p, rfl, hg, hy, hL, c0, c1, _⟩ := h.at_ hlt
      have hs := str_eq p.2.1 s
      by_cases he : p.2.1 = s
      · rw [decide_eq_true he] at hs
        have hf : FindI L s k := .inr ⟨k, p.2.2, rfl, by rw [hL, ← he], look_first hno (by rw [hL, ← he])⟩
        have hf := Lib.hid hf
        clear hno he
        go_wp2_with fail
        go_ret
        exact ⟨⟨_, rfl, hf.out⟩, rfl⟩
      · rw [decide_eq_false he] at hs
        have hno := Lib.hid (show ∀ (j : Nat) (a : ByteArray × List UInt8), j < k + 1 → L[j]? = some a → a.1 ≠ s from fun j a hj ha => by
          rcases Nat.lt_succ_iff_lt_or_eq.1 hj with h | rfl
          · exact hno j a h ha
          · rw [hL] at ha; injection ha with ha; rw [← ha]; exact he)
        clear he
        go_wp2_with fail
        go_round
        case rel => exact ⟨k + 1, by omega, by go_num, hno.out⟩
        case measure => simp [intOf]; omega
    · have hf : FindI L s (-1) := .inl ⟨rfl, look_non fun j a ha => hno j a (by have := (List.getElem?_eq_some_iff.1 ha).1; omega) ha⟩
      have hf := Lib.hid hf
      clear hno hl
      go_wp2_with fail
      go_ret
      exact ⟨⟨_, rfl, hf.out⟩, rfl⟩
end Go.Proofs.Ytkgcccllabofoaa
