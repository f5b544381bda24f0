/-
  The track: facts and entries as values.
-/
import Derived.Test.YtojmkbhihnnmaaaInt
import Derived.Laws.RangeString
import Derived.Laws.RangeAny
namespace Go.Proofs.Ytojmkbhihnnmaaa
open Go.RowKit

def vst (s : ByteArray) : Value := .string s
/-- a fact -/
structure Fa where
  paths : List (List ByteArray)
  vals : List Int
/-- an entry -/
structure En where
  idx : Int
  term : Int
  op : Int
  sess : Int
  seq : Int
  facts : List Fa
def En0 : En := ⟨0, 0, 0, 0, 0, []⟩

/-! rows of things of several cells -/
section
variable {α : Type} {f : α → List Value} {k : Nat}
theorem flat_len (hf : ∀ z, (f z).length = k) (l : List α) : (l.flatMap f).length = l.length * k := by
  induction l with
  | nil => simp
  | cons z l ih => rw [List.flatMap_cons, List.length_append, ih, hf, List.length_cons, Nat.succ_mul]; omega
theorem flat_at (hf : ∀ z, (f z).length = k) {l : List α} {i j : Nat} {z : α} (hj : j < k) (hz : l[i]? = some z) : (l.flatMap f)[i * k + j]? = (f z)[j]? := by
  induction l generalizing i with
  | nil => simp at hz
  | cons y l ih =>
    rw [List.flatMap_cons]
    cases i with
    | zero =>
      simp only [List.getElem?_cons_zero, Option.some.injEq] at hz
      subst hz
      rw [Nat.zero_mul, Nat.zero_add, List.getElem?_append_left (by rw [hf]; exact hj)]
    | succ i =>
      simp only [List.getElem?_cons_succ] at hz
      have e : (i + 1) * k + j = (f y).length + (i * k + j) := by rw [hf, Nat.succ_mul]; omega
      rw [e, List.getElem?_append_right (Nat.le_add_right _ _), Nat.add_sub_cancel_left]
      exact ih hz
theorem flat_take (hf : ∀ z, (f z).length = k) (l : List α) (m : Nat) : (l.take m).flatMap f = (l.flatMap f).take (m * k) := by
  induction l generalizing m with
  | nil => simp
  | cons y l ih =>
    cases m with
    | zero => simp
    | succ m =>
      rw [List.take_succ_cons, List.flatMap_cons, List.flatMap_cons, ih, List.take_append, hf]
      have e1 : (m + 1) * k - k = m * k := by rw [Nat.succ_mul]; omega
      rw [e1, List.take_of_length_le (l := f y) (by rw [hf, Nat.succ_mul]; omega)]
theorem flat_drop (hf : ∀ z, (f z).length = k) (l : List α) (m : Nat) : (l.drop m).flatMap f = (l.flatMap f).drop (m * k) := by
  induction l generalizing m with
  | nil => simp
  | cons y l ih =>
    cases m with
    | zero => simp
    | succ m =>
      rw [List.drop_succ_cons, List.flatMap_cons, ih, List.drop_append, hf]
      have e1 : (m + 1) * k - k = m * k := by rw [Nat.succ_mul]; omega
      rw [e1, show List.drop ((m + 1) * k) (f y) = [] from List.drop_eq_nil_of_le (by rw [hf, Nat.succ_mul]; omega), List.nil_append]
end

/-- a slice that reads as cells, in blocks that S tells -/
def Sl (S : Nat → Prop) (w : World) (size : Nat) (v : Value) (n : Nat) (xs : List Value) : Prop :=
  ∃ A c, v = .slice A n c ∧ Rds w size A n xs ∧ n ≤ c ∧ c ≤ maxLen ∧ (0 < n → ∀ ad, A = some ad → S ad.block)
/-- blocks that stay -/
def Stay (S : Nat → Prop) (w w' : World) : Prop := ∀ j, S j → j < w.heap.size → w'.heap[j]? = w.heap[j]?
section
variable {S S' : Nat → Prop} {w w' : World}
theorem Stay.below (h : Below w.heap.size w w') : Stay S w w' := fun _ _ hj => h.block _ hj
theorem Stay.of_below {B : Nat} (h : Below B w w') (hS : ∀ j, S j → j < w.heap.size → j < B) : Stay S w w' := fun j h1 h2 => h.block _ (hS j h1 h2)
theorem Rds.stay {size n : Nat} {A : Option Addr} {xs : List Value} (h : Rds w size A n xs) (hA : 0 < n → ∀ ad, A = some ad → S ad.block) (hk : Stay S w w') : Rds w' size A n xs := by
  refine ⟨h.1, fun h0 => ?_⟩
  obtain ⟨ad, rfl, hc⟩ := h.2 h0
  refine ⟨ad, rfl, fun j u hu => ?_⟩
  have h1 := hc j u hu
  have hlt := lt_of_cell h1
  have e : (ad.add j).block = ad.block := block_of_add ad j
  rw [← h1]
  exact World.cell?_of_block (by rw [e] at hlt ⊢; exact hk _ (hA h0 ad rfl) hlt)
theorem Rds.lt {size n : Nat} {A : Option Addr} {xs : List Value} {ad : Addr} (h : Rds w size A n xs) (h0 : 0 < n) (hs : 0 < size) (hA : A = some ad) : ad.block < w.heap.size := by
  subst hA
  obtain ⟨ad', e, hc⟩ := h.2 h0
  injection e with e
  subst e
  have hl : 0 < xs.length := by rw [h.1]; exact Nat.mul_pos h0 hs
  have := lt_of_cell (hc 0 _ (List.getElem?_eq_getElem hl))
  rwa [block_of_add] at this
theorem Sl.keep {size n : Nat} {v : Value} {xs : List Value} (h : Sl S w size v n xs) (hk : Stay S w w') : Sl S w' size v n xs := by
  obtain ⟨A, c, rfl, hr, h1, h2, h3⟩ := h
  exact ⟨A, c, rfl, hr.stay h3 hk, h1, h2, h3⟩
theorem Sl.mono {size n : Nat} {v : Value} {xs : List Value} (h : Sl S w size v n xs) (hs : 0 < size) (hS : ∀ j, j < w.heap.size → S j → S' j) : Sl S' w size v n xs := by
  obtain ⟨A, c, rfl, hr, h1, h2, h3⟩ := h
  exact ⟨A, c, rfl, hr, h1, h2, fun h0 ad e => hS _ (hr.lt h0 hs e) (h3 h0 ad e)⟩
theorem Sl.nil (S : Nat → Prop) (w : World) (size : Nat) : Sl S w size (.slice none 0 0) 0 [] := ⟨none, 0, rfl, Rds.none_, Nat.le_refl _, Nat.zero_le _, fun h => absurd h (by omega)⟩
theorem Sl.of_own {base size n c : Nat} {e : TypeId} {A : Option Addr} {xs : List Value} (h : w.ownsRow base e size (.slice A n c) n xs) (hS : ∀ g, base ≤ g → g < w.heap.size → (∃ cs, w.heap[g]? = some (.cells cs e (0, 0))) → S g) : Sl S w size (.slice A n c) n xs := by
  have hb := own_bounds h
  refine ⟨A, c, rfl, Rds.of_own h, hb.1, hb.2, fun h0 ad e => ?_⟩
  subst e
  rcases h.2 with ⟨h1, _⟩ | ⟨g, cap, cur, h1, h2, h3, _⟩
  · cases h1
  · injection h1 with h1
    injection h1 with h1
    subst h1
    refine hS g h2 ?_ ⟨cur, h3⟩
    rcases Nat.lt_or_ge g w.heap.size with hlt | hge
    · exact hlt
    · rw [Array.getElem?_eq_none hge] at h3; cases h3

def PathV (S : Nat → Prop) (w : World) (v : Value) (p : List ByteArray) : Prop := Sl S w 1 v p.length (p.map vst)
def IntsV (S : Nat → Prop) (w : World) (v : Value) (l : List Int) : Prop := Sl S w 1 v l.length (l.map vi)
def PathsV (S : Nat → Prop) (w : World) (v : Value) (ps : List (List ByteArray)) : Prop := ∃ vs, Sl S w 1 v ps.length vs ∧ ∀ (i : Nat) p, ps[i]? = some p → ∃ u, vs[i]? = some u ∧ PathV S w u p
def faC (y : Value × Value) : List Value := [y.1, y.2]
theorem faC_len (y : Value × Value) : (faC y).length = 2 := rfl
def FactsV (S : Nat → Prop) (w : World) (v : Value) (fs : List Fa) : Prop :=
  ∃ ys : List (Value × Value), Sl S w 2 v fs.length (ys.flatMap faC) ∧ ys.length = fs.length ∧ ∀ (i : Nat) f, fs[i]? = some f → ∃ y, ys[i]? = some y ∧ PathsV S w y.1 f.paths ∧ IntsV S w y.2 f.vals
def enC (z : Value × En) : List Value := [vi z.2.idx, vi z.2.term, vi z.2.op, vi z.2.sess, vi z.2.seq, z.1]
theorem enC_len (z : Value × En) : (enC z).length = 6 := rfl
/-- the facts of entries -/
def DeepE (S : Nat → Prop) (w : World) (zs : List (Value × En)) : Prop := ∀ z ∈ zs, FactsV S w z.1 z.2.facts

theorem PathV.keep {v : Value} {p : List ByteArray} (h : PathV S w v p) (hk : Stay S w w') : PathV S w' v p := Sl.keep h hk
theorem PathV.mono {v : Value} {p : List ByteArray} (h : PathV S w v p) (hS : ∀ j, j < w.heap.size → S j → S' j) : PathV S' w v p := Sl.mono h (by omega) hS
theorem IntsV.keep {v : Value} {p : List Int} (h : IntsV S w v p) (hk : Stay S w w') : IntsV S w' v p := Sl.keep h hk
theorem IntsV.mono {v : Value} {p : List Int} (h : IntsV S w v p) (hS : ∀ j, j < w.heap.size → S j → S' j) : IntsV S' w v p := Sl.mono h (by omega) hS
theorem PathsV.keep {v : Value} {p : List (List ByteArray)} (h : PathsV S w v p) (hk : Stay S w w') : PathsV S w' v p := by
  obtain ⟨vs, h1, h2⟩ := h
  exact ⟨vs, h1.keep hk, fun i p hp => by obtain ⟨u, h3, h4⟩ := h2 i p hp; exact ⟨u, h3, h4.keep hk⟩⟩
theorem PathsV.mono {v : Value} {p : List (List ByteArray)} (h : PathsV S w v p) (hS : ∀ j, j < w.heap.size → S j → S' j) : PathsV S' w v p := by
  obtain ⟨vs, h1, h2⟩ := h
  exact ⟨vs, h1.mono (by omega) hS, fun i p hp => by obtain ⟨u, h3, h4⟩ := h2 i p hp; exact ⟨u, h3, h4.mono hS⟩⟩
theorem FactsV.keep {v : Value} {p : List Fa} (h : FactsV S w v p) (hk : Stay S w w') : FactsV S w' v p := by
  obtain ⟨ys, h1, h0, h2⟩ := h
  exact ⟨ys, h1.keep hk, h0, fun i f hf => by obtain ⟨y, h3, h4, h5⟩ := h2 i f hf; exact ⟨y, h3, h4.keep hk, h5.keep hk⟩⟩
theorem FactsV.mono {v : Value} {p : List Fa} (h : FactsV S w v p) (hS : ∀ j, j < w.heap.size → S j → S' j) : FactsV S' w v p := by
  obtain ⟨ys, h1, h0, h2⟩ := h
  exact ⟨ys, h1.mono (by omega) hS, h0, fun i f hf => by obtain ⟨y, h3, h4, h5⟩ := h2 i f hf; exact ⟨y, h3, h4.mono hS, h5.mono hS⟩⟩
theorem FactsV.nil (S : Nat → Prop) (w : World) : FactsV S w (.slice none 0 0) [] := ⟨[], Sl.nil S w 2, rfl, fun i f h => by cases h⟩
theorem DeepE.keep {zs : List (Value × En)} (h : DeepE S w zs) (hk : Stay S w w') : DeepE S w' zs := fun z hz => (h z hz).keep hk
theorem DeepE.mono {zs : List (Value × En)} (h : DeepE S w zs) (hS : ∀ j, j < w.heap.size → S j → S' j) : DeepE S' w zs := fun z hz => (h z hz).mono hS
theorem DeepE.sub {zs ys : List (Value × En)} (h : DeepE S w zs) (hs : ∀ y ∈ ys, y ∈ zs) : DeepE S w ys := fun y hy => h y (hs y hy)
theorem DeepE.append {zs ys : List (Value × En)} (h : DeepE S w zs) (h' : DeepE S w ys) : DeepE S w (zs ++ ys) := fun z hz => by
  rcases List.mem_append.1 hz with h1 | h1
  · exact h z h1
  · exact h' z h1
end
end Go.Proofs.Ytojmkbhihnnmaaa
