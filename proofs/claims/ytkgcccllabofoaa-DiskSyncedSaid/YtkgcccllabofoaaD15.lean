/-
  The disk: files as a sorted list, plain.
-/
import Derived.Test.YtkgcccllabofoaaD14
import Derived.Sort.OwnSorted
namespace Go.Proofs.Ytkgcccllabofoaa
open Go.RowKit Go.Maps

def kl (s : ByteArray) : List UInt8 := s.data.toList
theorem kl_inj {s t : ByteArray} (h : kl s = kl t) : s = t := by
  cases s; cases t
  unfold kl at h
  simp only [] at h
  rw [Array.toList_inj.1 h]
theorem kl_toList (s : ByteArray) : s.toList = kl s := Lib.toList_data s
theorem less_eq : ∀ (x y : List UInt8), Op.bytesLess x y = decide (x < y)
  | [], [] => by simp [Op.bytesLess]
  | _ :: _, [] => by simp [Op.bytesLess]
  | [], _ :: _ => by simp [Op.bytesLess]
  | a :: x, b :: y => by
    rw [Op.bytesLess, less_eq x y, Bool.eq_iff_iff]
    simp only [Bool.or_eq_true, Bool.and_eq_true, decide_eq_true_eq, beq_iff_eq, List.cons_lt_cons_iff]
theorem less_kl (s t : ByteArray) : Op.bytesLess s.toList t.toList = decide (kl s < kl t) := by rw [less_eq, kl_toList, kl_toList]
theorem kl_tri {s t : ByteArray} (h1 : ¬ kl s < kl t) (h2 : s ≠ t) : kl t < kl s := by
  rcases List.le_total (kl s) (kl t) with h | h
  · exact absurd (kl_inj (List.le_antisymm h h1)) h2
  · rcases Decidable.em (kl t < kl s) with h3 | h3
    · exact h3
    · exact absurd (kl_inj (List.le_antisymm h3 h1)) h2

abbrev FL := List (ByteArray × List UInt8)
def srt (l : List ByteArray) : Prop := l.Pairwise fun a b => kl a < kl b
def lookL : FL → FS
  | [], _ => none
  | a :: l, s => if a.1 = s then some a.2 else lookL l s
def goL (s : ByteArray) (v : List UInt8) : Bool → FL → FL
  | put, [] => if put then [] else [(s, v)]
  | put, a :: l => (if put = false ∧ ¬ kl a.1 < kl s then [(s, v)] else []) ++ ((if a.1 = s then [] else [a]) ++ goL s v (put || !decide (kl a.1 < kl s)) l)
def doesL (L : FL) (x : Dd) : FL := goL x.name (nowF (lookL L) x) (x.kind == 2) L
def doAllL (L : FL) : List Dd → FL
  | [] => L
  | x :: l => doAllL (doesL L x) l
def nms (L : FL) : List ByteArray := L.map (·.1)
theorem lookL_none {L : FL} {s : ByteArray} : lookL L s = none ↔ s ∉ nms L := by
  induction L with
  | nil => simp [lookL, nms]
  | cons a l ih =>
    unfold lookL
    by_cases h : a.1 = s
    · simp [h, nms]
    · rw [if_neg h, ih]
      simp [nms, Ne.symm h]
theorem look_true (s : ByteArray) (v : List UInt8) (L : FL) (t : ByteArray) : lookL (goL s v true L) t = if t = s then none else lookL L t := by
  induction L with
  | nil => simp [goL, lookL]
  | cons a l ih =>
    unfold goL
    simp only [Bool.true_eq_false, false_and, if_false, List.nil_append, Bool.true_or]
    by_cases h : a.1 = s
    · rw [if_pos h, List.nil_append, ih]
      by_cases ht : t = s
      · rw [if_pos ht, if_pos ht]
      · rw [if_neg ht, if_neg ht, lookL, if_neg (fun e => ht (e.symm.trans h))]
    · rw [if_neg h]
      show (if a.1 = t then some a.2 else lookL (goL s v true l) t) = _
      rw [ih, lookL]
      by_cases ht : t = s
      · subst ht; rw [if_neg h, if_pos rfl]; simp
      · rw [if_neg ht, if_neg ht]
theorem mem_true (s : ByteArray) (v : List UInt8) (L : FL) (x) (h : x ∈ goL s v true L) : x ∈ L ∧ x.1 ≠ s := by
  induction L with
  | nil => simp [goL] at h
  | cons a l ih =>
    unfold goL at h
    simp only [Bool.true_eq_false, false_and, if_false, List.nil_append, Bool.true_or, List.mem_append] at h
    rcases h with h | h
    · split at h
      · simp at h
      · rename_i hne
        rw [List.mem_singleton.1 h]
        exact ⟨List.mem_cons_self, hne⟩
    · exact ⟨List.mem_cons_of_mem _ (ih h).1, (ih h).2⟩
theorem srt_true (s : ByteArray) (v : List UInt8) (L : FL) (h : srt (nms L)) : srt (nms (goL s v true L)) := by
  induction L with
  | nil => simp [goL, srt, nms]
  | cons a l ih =>
    have h' : srt (a.1 :: nms l) := h
    unfold srt at h'
    rw [List.pairwise_cons] at h'
    have ih := ih h'.2
    unfold goL
    simp only [Bool.true_eq_false, false_and, if_false, List.nil_append, Bool.true_or]
    split
    · exact ih
    · show srt (a.1 :: nms (goL s v true l))
      refine List.pairwise_cons.2 ⟨fun b hb => ?_, ih⟩
      obtain ⟨x, hx, rfl⟩ := List.mem_map.1 hb
      exact h'.1 _ (List.mem_map.2 ⟨x, (mem_true s v l x hx).1, rfl⟩)
theorem look_false (s : ByteArray) (v : List UInt8) (L : FL) (h : srt (nms L)) (t : ByteArray) : lookL (goL s v false L) t = if t = s then some v else lookL L t := by
  induction L with
  | nil =>
    simp only [goL, lookL, Bool.false_eq_true, if_false]
    by_cases ht : t = s
    · rw [if_pos ht, if_pos ht.symm]
    · rw [if_neg ht, if_neg (Ne.symm ht)]
  | cons a l ih =>
    have h' : srt (a.1 :: nms l) := h
    unfold srt at h'
    rw [List.pairwise_cons] at h'
    unfold goL
    by_cases hk : kl a.1 < kl s
    · have hne : a.1 ≠ s := fun e => by rw [e] at hk; exact List.lt_irrefl _ hk
      rw [if_neg (fun h => h.2 hk), if_neg hne, decide_eq_true hk]
      show (if a.1 = t then some a.2 else lookL (goL s v false l) t) = _
      rw [ih h'.2, lookL]
      by_cases ht : t = s
      · subst ht; rw [if_neg hne, if_pos rfl]; simp
      · rw [if_neg ht, if_neg ht]
    · rw [if_pos ⟨rfl, hk⟩, decide_eq_false hk]
      show (if s = t then some v else lookL ((if a.1 = s then [] else [a]) ++ goL s v true l) t) = _
      by_cases ht : t = s
      · rw [if_pos ht.symm, if_pos ht]
      · rw [if_neg (Ne.symm ht), if_neg ht]
        by_cases hne : a.1 = s
        · rw [if_pos hne, List.nil_append, look_true, if_neg ht, lookL, if_neg (fun e => ht (e.symm.trans hne))]
        · rw [if_neg hne]
          show (if a.1 = t then some a.2 else lookL (goL s v true l) t) = _
          rw [look_true, if_neg ht]
          rfl
theorem mem_false (s : ByteArray) (v : List UInt8) (L : FL) (x) (h : x ∈ goL s v false L) : x ∈ L ∨ x = (s, v) := by
  induction L with
  | nil =>
    simp [goL] at h
    exact .inr h
  | cons a l ih =>
    unfold goL at h
    simp only [List.mem_append] at h
    rcases h with h | h | h
    · split at h
      · exact .inr (List.mem_singleton.1 h)
      · simp at h
    · split at h
      · simp at h
      · rw [List.mem_singleton.1 h]; exact .inl List.mem_cons_self
    · cases hd : decide (kl a.1 < kl s) with
      | true =>
        rw [hd] at h
        rcases ih h with h | h
        · exact .inl (List.mem_cons_of_mem _ h)
        · exact .inr h
      | false =>
        rw [hd] at h
        exact .inl (List.mem_cons_of_mem _ (mem_true s v l x h).1)
theorem srt_false (s : ByteArray) (v : List UInt8) (L : FL) (h : srt (nms L)) : srt (nms (goL s v false L)) := by
  induction L with
  | nil => simp [goL, srt, nms]
  | cons a l ih =>
    have h' : srt (a.1 :: nms l) := h
    unfold srt at h'
    rw [List.pairwise_cons] at h'
    unfold goL
    by_cases hk : kl a.1 < kl s
    · have hne : a.1 ≠ s := fun e => by rw [e] at hk; exact List.lt_irrefl _ hk
      rw [if_neg (fun h => h.2 hk), if_neg hne, decide_eq_true hk]
      show srt (a.1 :: nms (goL s v false l))
      refine List.pairwise_cons.2 ⟨fun b hb => ?_, ih h'.2⟩
      obtain ⟨x, hx, rfl⟩ := List.mem_map.1 hb
      rcases mem_false s v l x hx with h1 | h1
      · exact h'.1 _ (List.mem_map.2 ⟨x, h1, rfl⟩)
      · rw [h1]; exact hk
    · rw [if_pos ⟨rfl, hk⟩, decide_eq_false hk]
      have ht := srt_true s v l h'.2
      have hlt : ∀ x ∈ goL s v true l, kl a.1 < kl x.1 := fun x hx => h'.1 _ (List.mem_map.2 ⟨x, (mem_true s v l x hx).1, rfl⟩)
      by_cases hne : a.1 = s
      · rw [if_pos hne]
        show srt (s :: nms (goL s v true l))
        refine List.pairwise_cons.2 ⟨fun b hb => ?_, ht⟩
        obtain ⟨x, hx, rfl⟩ := List.mem_map.1 hb
        rw [← hne]; exact hlt x hx
      · rw [if_neg hne]
        have hsa := kl_tri hk hne
        show srt (s :: a.1 :: nms (goL s v true l))
        refine List.pairwise_cons.2 ⟨fun b hb => ?_, List.pairwise_cons.2 ⟨fun b hb => ?_, ht⟩⟩
        · rcases List.mem_cons.1 hb with rfl | hb
          · exact hsa
          · obtain ⟨x, hx, rfl⟩ := List.mem_map.1 hb
            exact List.lt_trans hsa (hlt x hx)
        · obtain ⟨x, hx, rfl⟩ := List.mem_map.1 hb
          exact hlt x hx
theorem look_does (L : FL) (h : srt (nms L)) (x : Dd) : lookL (doesL L x) = doF (lookL L) x := by
  funext t
  unfold doesL doF
  by_cases hk : x.kind = 2
  · rw [show (x.kind == 2) = true by simp [hk], if_pos hk]
    exact look_true _ _ _ _
  · rw [show (x.kind == 2) = false by simp [hk], if_neg hk]
    exact look_false _ _ _ h _
theorem srt_does (L : FL) (h : srt (nms L)) (x : Dd) : srt (nms (doesL L x)) := by
  unfold doesL
  by_cases hk : x.kind = 2
  · rw [show (x.kind == 2) = true by simp [hk]]; exact srt_true _ _ _ h
  · rw [show (x.kind == 2) = false by simp [hk]]; exact srt_false _ _ _ h
theorem look_all (L : FL) (h : srt (nms L)) (l : List Dd) : lookL (doAllL L l) = doAll (lookL L) l ∧ srt (nms (doAllL L l)) := by
  induction l generalizing L with
  | nil => exact ⟨rfl, h⟩
  | cons x l ih =>
    have := ih (doesL L x) (srt_does L h x)
    rw [look_does L h x] at this
    exact this
/-- two sorted lists with the same names are one -/
theorem srt_eq {l l' : List ByteArray} (h : srt l) (h' : srt l') (hm : ∀ s, s ∈ l ↔ s ∈ l') : l = l' := by
  induction l generalizing l' with
  | nil =>
    cases l' with
    | nil => rfl
    | cons a _ => exact absurd ((hm a).2 List.mem_cons_self) (by simp)
  | cons a l ih =>
    cases l' with
    | nil => exact absurd ((hm a).1 List.mem_cons_self) (by simp)
    | cons b l' =>
      unfold srt at h h'
      rw [List.pairwise_cons] at h h'
      have hab : a = b := by
        rcases List.mem_cons.1 ((hm a).1 List.mem_cons_self) with e | e
        · exact e
        · rcases List.mem_cons.1 ((hm b).2 List.mem_cons_self) with e' | e'
          · exact e'.symm
          · exact absurd (List.lt_trans (h.1 _ e') (h'.1 _ e)) (List.lt_irrefl _)
      subst hab
      rw [ih h.2 h'.2 fun s => ?_]
      constructor
      · intro hs
        rcases List.mem_cons.1 ((hm s).1 (List.mem_cons_of_mem _ hs)) with e | e
        · subst e; exact absurd (h.1 _ hs) (List.lt_irrefl _)
        · exact e
      · intro hs
        rcases List.mem_cons.1 ((hm s).2 (List.mem_cons_of_mem _ hs)) with e | e
        · subst e; exact absurd (h'.1 _ hs) (List.lt_irrefl _)
        · exact e
/-- the names sorted by the library -/
def sortN (l : List ByteArray) : List ByteArray := ((l.map kl).mergeSort fun x y => decide (x ≤ y)).map fun x => ⟨x.toArray⟩
theorem kl_mk (x : List UInt8) : kl ⟨x.toArray⟩ = x := rfl
theorem mem_sortN (l : List ByteArray) (s : ByteArray) : s ∈ sortN l ↔ s ∈ l := by
  unfold sortN
  rw [List.mem_map]
  constructor
  · rintro ⟨x, hx, rfl⟩
    rw [List.mem_mergeSort] at hx
    obtain ⟨t, ht, rfl⟩ := List.mem_map.1 hx
    exact ht
  · intro hs
    exact ⟨kl s, by rw [List.mem_mergeSort]; exact List.mem_map.2 ⟨s, hs, rfl⟩, rfl⟩
theorem sortN_len (l : List ByteArray) : (sortN l).length = l.length := by simp [sortN]
theorem srt_sortN (l : List ByteArray) (h : l.Nodup) : srt (sortN l) := by
  have h1 : ((l.map kl).mergeSort fun x y => decide (x ≤ y)).Pairwise fun a b => decide (a ≤ b) = true := List.pairwise_mergeSort (fun a b c h1 h2 => by
    simp only [decide_eq_true_eq] at *
    exact List.le_trans h1 h2) (fun a b => by simpa using List.le_total a b) _
  have h2 : ((l.map kl).mergeSort fun x y => decide (x ≤ y)).Nodup := by
    rw [(List.mergeSort_perm (l.map kl) _).nodup_iff]
    exact List.pairwise_map.2 (List.Pairwise.imp (fun hne e => hne (kl_inj e)) h)
  unfold srt sortN
  rw [List.pairwise_map]
  refine (h1.and h2).imp fun {a b} hab => ?_
  rw [kl_mk, kl_mk]
  have := of_decide_eq_true hab.1
  rcases Decidable.em (a < b) with h3 | h3
  · exact h3
  · exact absurd (List.le_antisymm this h3) hab.2
end Go.Proofs.Ytkgcccllabofoaa
