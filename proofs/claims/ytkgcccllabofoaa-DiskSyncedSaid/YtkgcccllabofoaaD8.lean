/-
  The disk: a map of bytes; what a deed does; rest, ready.
-/
import Derived.Test.YtkgcccllabofoaaD7
namespace Go.Proofs.Ytkgcccllabofoaa
open Go.RowKit Go.Maps

/-- something that was done: kind 0: bytes at a file's end, 1: a file cut to n, 2: a file taken away -/
structure Dd where
  kind : Nat
  name : ByteArray
  data : List UInt8
  n : Nat
abbrev FS := ByteArray → Option (List UInt8)
def nowF (G : FS) (x : Dd) : List UInt8 := if x.kind = 0 then (G x.name).getD [] ++ x.data else if x.kind = 1 then ((G x.name).getD []).take x.n else []
def putG (G : FS) (s : ByteArray) (l : List UInt8) : FS := fun t => if t = s then some l else G t
def delG (G : FS) (s : ByteArray) : FS := fun t => if t = s then none else G t
def doF (G : FS) (x : Dd) : FS := if x.kind = 2 then delG G x.name else putG G x.name (nowF G x)
/-- may this deed be done to these files? -/
structure OkD (G : FS) (x : Dd) : Prop where
  k : x.kind < 3
  app : x.kind = 0 → ((G x.name).getD []).length + x.data.length ≤ 1048576
  cut : x.kind = 1 → x.n ≤ ((G x.name).getD []).length
  name : x.name.size ≤ 24
  len : x.data.length ≤ 1048576
def cutOf (x : Dd) : Int := if x.kind = 0 then -1 else if x.kind = 1 then x.n else -2

/-- block b is a map of at most k files: G -/
def MapB (z : Nat) (w : World) (b k : Nat) (G : FS) : Prop :=
  ∃ F, MapAt w b k F ∧ (∀ s, G s = none → F s = none) ∧ ∀ s l, G s = some l → ∃ v, F s = some v ∧ BytesV z w v l ∧ l.length ≤ 1048576
section
variable {z b k : Nat} {w w' : World} {G : FS}
theorem MapB.lt (h : MapB z w b k G) : b < w.heap.size := by
  obtain ⟨F, h, _⟩ := h
  exact h.lt
theorem MapB.more (h : MapB z w b k G) {k' : Nat} (hk : k ≤ k') : MapB z w b k' G := by
  obtain ⟨F, h, h'⟩ := h
  exact ⟨F, h.more hk, h'⟩
theorem MapB.lens (h : MapB z w b k G) {s : ByteArray} {l : List UInt8} (hs : G s = some l) : l.length ≤ 1048576 := by
  obtain ⟨F, _, _, h'⟩ := h
  obtain ⟨_, _, _, h⟩ := h' s l hs
  exact h
theorem MapB.lenD (h : MapB z w b k G) (s : ByteArray) : ((G s).getD []).length ≤ 1048576 := by
  cases hs : G s with
  | none => simp
  | some l => exact h.lens hs
theorem MapB.keep (h : MapB z w b k G) (hb : w'.heap[b]? = w.heap[b]?) (hv : ∀ v l, BytesV z w v l → BytesV z w' v l) : MapB z w' b k G := by
  obtain ⟨F, h, h1, h2⟩ := h
  refine ⟨F, h.keep hb, h1, fun s l hs => ?_⟩
  obtain ⟨v, h3, h4, h5⟩ := h2 s l hs
  exact ⟨v, h3, hv v l h4, h5⟩
theorem MapB.below (h : MapB z w b k G) (hb : Below w.heap.size w w') : MapB z w' b k G := h.keep (hb.block b h.lt) fun _ _ hv => hv.below hb
theorem MapB.made (z : Nat) (w : World) : MapB z (w.alloc (.map #[] 0)) w.heap.size 0 (fun _ => none) :=
  ⟨_, MapAt.made w, fun _ _ => rfl, fun s l h => by cases h⟩
theorem bytes_info : (Try.prog.info? 40).map (fun i => (i.zero, i.size, i.bytes)) = some (some (.slice none 0 0), 1, 24) := by kernel_rfl
theorem zero_bytes (w : World) : (zeroValue 40).run Try.prog w = .ok (.slice none 0 0) w := by
  obtain ⟨i0, hi0, hz0, _⟩ := info_parts bytes_info
  simp [zeroValue, typeInfo, hi0, hz0, Result.andThen]
/-- files[s] -/
theorem MapB.get (h : MapB z w b k G) {s : ByteArray} (hs : s.size ≤ maxLen) :
    ∃ A n c, BytesV z w (.slice A n c) ((G s).getD []) ∧ (Instr.lookup 71 (.map (some b)) (.string s) false).run Try.prog w = .ok (.slice A n c) w ∧
      (Instr.lookup 71 (.map (some b)) (.string s) true).run Try.prog w = .ok (.tuple #[.slice A n c, .bool (G s).isSome]) w := by
  obtain ⟨F, h, h1, h2⟩ := h
  have hg := fun c => run_get h (t := 71) (e := 40) Try.underlying71 (zero_bytes w) c hs
  cases hG : G s with
  | none =>
    rw [h1 s hG] at hg
    exact ⟨none, 0, 0, BytesV.nil z w, hg false, hg true⟩
  | some l =>
    obtain ⟨v, h3, h4, _⟩ := h2 s l hG
    have h4' := h4
    obtain ⟨A, n, c, rfl, _⟩ := h4'
    rw [h3] at hg
    exact ⟨A, n, c, h4, hg false, hg true⟩
/-- files[s] = v -/
theorem MapB.set (h : MapB z w b k G) {s : ByteArray} (hs : s.size ≤ maxLen) {v : Value} {l : List UInt8} (hv : BytesV z w v l) (hl : l.length ≤ 1048576) :
    ∃ w', (Instr.mapUpdate 71 (.map (some b)) (.string s) v).run Try.prog w = .ok () w' ∧ MapB z w' b (k + 1) (putG G s l) ∧ w.grownBy w' (some b) := by
  obtain ⟨F, h, h1, h2⟩ := h
  obtain ⟨w', hr, hm, hg⟩ := run_set h (t := 71) (e := 40) Try.underlying71 hs v
  have hb : ∀ cs fz, w.heap[b]? ≠ some (.cells cs 5 fz) := fun cs fz e => by
    obtain ⟨es, clock, e', _⟩ := h
    rw [e'] at e; cases e
  refine ⟨w', hr, ⟨_, hm, fun t ht => ?_, fun t u ht => ?_⟩, hg⟩
  · unfold putG at ht
    unfold putF
    split at ht
    · cases ht
    · rename_i hne; rw [if_neg hne]; exact h1 t ht
  · unfold putG at ht
    unfold putF
    split at ht
    · rename_i heq
      injection ht with ht
      subst ht
      exact ⟨v, by rw [if_pos heq], hv.grown hg (.inr hb), hl⟩
    · rename_i hne
      obtain ⟨v', h3, h4, h5⟩ := h2 t u ht
      exact ⟨v', by rw [if_neg hne]; exact h3, h4.grown hg (.inr hb), h5⟩
/-- delete(files, s) -/
theorem MapB.del (h : MapB z w b k G) {s : ByteArray} (hs : s.size ≤ maxLen) :
    ∃ w', (∀ ty, (Builtin.delete_ #[71, 9] ty #[.map (some b), .string s]).run Try.prog w = .ok (.tuple #[]) w') ∧ MapB z w' b k (delG G s) ∧ w.grownBy w' (some b) := by
  obtain ⟨F, h, h1, h2⟩ := h
  obtain ⟨w', hr, hm, hg⟩ := run_del h (t := 71) (e := 40) (ty := 0) Try.underlying71 hs
  have hb : ∀ cs fz, w.heap[b]? ≠ some (.cells cs 5 fz) := fun cs fz e => by
    obtain ⟨es, clock, e', _⟩ := h
    rw [e'] at e; cases e
  refine ⟨w', fun ty => hr, ⟨_, hm, fun t ht => ?_, fun t u ht => ?_⟩, hg⟩
  · unfold delG at ht
    unfold delF
    split at ht
    · rename_i heq; rw [if_pos heq]
    · rename_i hne; rw [if_neg hne]; exact h1 t ht
  · unfold delG at ht
    unfold delF
    split at ht
    · cases ht
    · rename_i hne
      obtain ⟨v', h3, h4, h5⟩ := h2 t u ht
      exact ⟨v', by rw [if_neg hne]; exact h3, h4.grown hg (.inr hb), h5⟩
end

def restF (n : Int) (m : Nat) : Nat := ((if n < 0 then -(n + 1) else n) % (m : Int)).toNat
theorem restF_lt (n : Int) {m : Nat} (h : 0 < m) : restF n m < m := by
  unfold restF
  have h1 := Int.emod_lt_of_pos (if n < 0 then -(n + 1) else n) (b := (m : Int)) (by omega)
  have h2 := Int.emod_nonneg (if n < 0 then -(n + 1) else n) (b := (m : Int)) (by omega)
  omega
theorem restF_eq (n : Int) {m : Nat} (h : 0 < m) : (if n < 0 then -(n + 1) else n).tmod m = (restF n m : Nat) := by
  have h2 := Int.emod_nonneg (if n < 0 then -(n + 1) else n) (b := (m : Int)) (by omega)
  unfold restF
  rw [Int.toNat_of_nonneg h2]
  exact Int.tmod_eq_emod_of_nonneg (by split <;> omega)
theorem rest_any (n : Int) (m : Nat) (w : World) (h1 : -9223372036854775808 ≤ n) (h2 : n ≤ 9223372036854775807) (hm : 0 < m) (hm2 : m ≤ 1000000000) :
    Calls Try.prog 58 #[.int .i64 n, .int .i64 m] w fun e w' => e = .returned (.int .i64 (restF n m : Nat)) ∧ w = w' := by
  have He := restF_eq n hm
  have h0 : ((m : Int) == 0) = false := beq_eq_false_iff_ne.2 (by omega)
  by_cases h : n < 0
  · have hd : decide (n < 0) = true := decide_eq_true h
    rw [if_pos h, Int.neg_tmod] at He
    have He := Lib.hid He
    go_enter Try.func58, Try.ntmps58
    go_wp2_with fail
    go_ret
    refine ⟨?_, rfl⟩
    rw [← He.out]
    rfl
  · have hd : decide (n < 0) = false := decide_eq_false h
    rw [if_neg h, Int.tmod_eq_emod_of_nonneg (by omega)] at He
    have He := Lib.hid He
    go_enter Try.func58, Try.ntmps58
    go_wp2_with fail
    go_ret
    refine ⟨?_, rfl⟩
    rw [← He.out]
    rfl
end Go.Proofs.Ytkgcccllabofoaa
