/-
  The disk: a map from names, read as a function.
-/
import Derived.Test.YtkgcccllabofoaaD1
import Derived.Maps.Keyed
import Derived.StringKeys
import Derived.ChangeMaps5
namespace Go.Proofs.Ytkgcccllabofoaa
open Go.RowKit Go.Maps Go.MapKept Go.WideMaps
open Go.ChangeMaps (setBlock modify_eq_set heap_setBlock_same heap_setBlock_other)

theorem mem_set_key {L : List MapEntry} (hn : (L.map (·.key)).Nodup) {j : Nat} {e0 : MapEntry} (h : L[j]? = some e0) (y x : MapEntry) : x ∈ L.set j y ↔ x = y ∨ (x ∈ L ∧ x.key ≠ e0.key) := by
  obtain ⟨hj, ej⟩ := List.getElem?_eq_some_iff.1 h
  have inj : ∀ i (hi : i < L.length), L[i].key = e0.key → i = j := fun i hi e => by
    have h1 : i < (L.map (·.key)).length := by simpa using hi
    have h2 : j < (L.map (·.key)).length := by simpa using hj
    refine (List.getElem_inj (h₀ := h1) (h₁ := h2) hn).1 ?_
    simp only [List.getElem_map]
    rw [e, ej]
  constructor
  · intro hx
    obtain ⟨i, hi, ex⟩ := List.getElem_of_mem hx
    rw [List.getElem_set] at ex
    split at ex
    · exact .inl ex.symm
    · rename_i hne
      have hi' : i < L.length := by simpa using hi
      refine .inr ⟨ex ▸ List.getElem_mem hi', fun e => hne ?_⟩
      exact (inj i hi' (by rw [ex]; exact e)).symm
  · rintro (rfl | ⟨hx, hne⟩)
    · exact List.mem_iff_getElem.2 ⟨j, by simpa using hj, by simp⟩
    · obtain ⟨i, hi, rfl⟩ := List.getElem_of_mem hx
      have hij : j ≠ i := fun e => hne (by subst e; rw [ej])
      exact List.mem_iff_getElem.2 ⟨i, by simpa using hi, by rw [List.getElem_set_ne hij]⟩
theorem mem_erase_key {L : List MapEntry} (hn : (L.map (·.key)).Nodup) {j : Nat} {e0 : MapEntry} (h : L[j]? = some e0) (x : MapEntry) : x ∈ L.eraseIdx j ↔ x ∈ L ∧ x.key ≠ e0.key := by
  obtain ⟨hj, ej⟩ := List.getElem?_eq_some_iff.1 h
  have inj : ∀ i (hi : i < L.length), L[i].key = e0.key → i = j := fun i hi e => by
    have h1 : i < (L.map (·.key)).length := by simpa using hi
    have h2 : j < (L.map (·.key)).length := by simpa using hj
    refine (List.getElem_inj (h₀ := h1) (h₁ := h2) hn).1 ?_
    simp only [List.getElem_map]
    rw [e, ej]
  rw [List.mem_eraseIdx_iff_getElem]
  constructor
  · rintro ⟨i, hi, hne, rfl⟩
    exact ⟨List.getElem_mem hi, fun e => hne (inj i hi e)⟩
  · rintro ⟨hx, hne⟩
    obtain ⟨i, hi, rfl⟩ := List.getElem_of_mem hx
    exact ⟨i, hi, fun e => hne (by subst e; rw [ej]), rfl⟩

/-- block b is a map of at most k entries that has, at a name, what F says -/
def MapAt (w : World) (b k : Nat) (F : ByteArray → Option Value) : Prop :=
  ∃ es clock, w.heap[b]? = some (.map es clock) ∧ Stamped es clock ∧ es.size ≤ k ∧ (∀ x ∈ es.toList, ∃ s : ByteArray, x.key = .string s ∧ s.size ≤ maxLen) ∧
    ∀ s v, F s = some v ↔ ∃ x ∈ es.toList, x.key = .string s ∧ x.val = v
def putF (F : ByteArray → Option Value) (s : ByteArray) (v : Value) : ByteArray → Option Value := fun t => if t = s then some v else F t
def delF (F : ByteArray → Option Value) (s : ByteArray) : ByteArray → Option Value := fun t => if t = s then none else F t
theorem key_str : Try.prog.underlying 9 = some .string := Try.underlying9
theorem str_keyed : Keyed Try.prog 9 := string_keyed key_str
section
variable {w w' : World} {b k : Nat} {F : ByteArray → Option Value}
theorem MapAt.lt (h : MapAt w b k F) : b < w.heap.size := by
  obtain ⟨es, clock, hb, _⟩ := h
  rcases Nat.lt_or_ge b w.heap.size with hlt | hge
  · exact hlt
  · rw [Array.getElem?_eq_none hge] at hb; cases hb
theorem MapAt.keep (h : MapAt w b k F) (hk : w'.heap[b]? = w.heap[b]?) : MapAt w' b k F := by
  obtain ⟨es, clock, hb, h'⟩ := h
  exact ⟨es, clock, hk.trans hb, h'⟩
theorem MapAt.more (h : MapAt w b k F) {k' : Nat} (hk : k ≤ k') : MapAt w b k' F := by
  obtain ⟨es, clock, hb, h1, h2, h3⟩ := h
  exact ⟨es, clock, hb, h1, Nat.le_trans h2 hk, h3⟩
theorem MapAt.made (w : World) : MapAt (w.alloc (.map #[] 0)) w.heap.size 0 (fun _ => none) :=
  ⟨#[], 0, heap_alloc_new w _, stamped_empty 0, Nat.le_refl _, fun x hx => by simp at hx, fun s v => by simp⟩
theorem keys_of {es : Array MapEntry} (h : ∀ x ∈ es.toList, ∃ s : ByteArray, x.key = .string s ∧ s.size ≤ maxLen) : ∀ x ∈ es.toList, ∃ l, keyOf Try.prog 9 x.key = some l := fun x hx => by
  obtain ⟨s, e, hs⟩ := h x hx
  exact ⟨_, by rw [e]; exact keyOf_string_mk key_str hs⟩
/-- m[s], and whether it is there -/
theorem run_get (h : MapAt w b k F) {t e : TypeId} (ht : Try.prog.underlying t = some (.map 9 e)) {z : Value} (hz : (zeroValue e).run Try.prog w = .ok z w) (c : Bool) {s : ByteArray} (hs : s.size ≤ maxLen) :
    (Instr.lookup t (.map (some b)) (.string s) c).run Try.prog w = .ok (match F s with | some v => if c then .tuple #[v, .bool true] else v | none => if c then .tuple #[z, .bool false] else z) w := by
  obtain ⟨es, clock, hb, hst, hsz, hks, hF⟩ := h
  have hkey := keyOf_string_mk (P := Try.prog) key_str hs
  rcases str_keyed.find w hkey es.toList (keys_of hks) with ⟨h1, h2⟩ | ⟨j, e0, h1, h2, h3⟩
  · have hn : F s = none := by
      cases hv : F s with
      | none => rfl
      | some v =>
        obtain ⟨x, hx, hxk, _⟩ := (hF s v).1 hv
        exact absurd hxk (h2 x hx)
    rw [hn]
    simp [Instr.lookup, run_underlying ht, MapKept.run_getObj_map hb, str_keyed.check w _ hkey, h1, hz, Result.andThen]
  · have hv : F s = some e0.val := (hF s e0.val).2 ⟨e0, List.mem_of_getElem? h2, h3, rfl⟩
    rw [hv]
    simp [Instr.lookup, run_underlying ht, MapKept.run_getObj_map hb, str_keyed.check w _ hkey, h1, Result.andThen]
theorem grown_set {es : Array MapEntry} {clock : Nat} (hb : w.heap[b]? = some (.map es clock)) (o : Obj) : w.grownBy (setBlock w b o) (some b) :=
  ⟨rfl, rfl, rfl, by simp [setBlock], fun j _ hne => heap_setBlock_other hb o (fun e => hne (by rw [e]))⟩
/-- m[s] = v -/
theorem run_set (h : MapAt w b k F) {t e : TypeId} (ht : Try.prog.underlying t = some (.map 9 e)) {s : ByteArray} (hs : s.size ≤ maxLen) (v : Value) :
    ∃ w', (Instr.mapUpdate t (.map (some b)) (.string s) v).run Try.prog w = .ok () w' ∧ MapAt w' b (k + 1) (putF F s v) ∧ w.grownBy w' (some b) := by
  obtain ⟨es, clock, hb, hst, hsz, hks, hF⟩ := h
  have hkey := keyOf_string_mk (P := Try.prog) key_str hs
  have hlist : ∀ e0 : MapEntry, ∀ j, es.toList[j]? = some e0 → (es.modify j (fun e' => { e' with key := .string s, val := v })).toList = es.toList.set j { e0 with key := .string s, val := v } := fun e0 j h2 => by rw [Array.toList_modify, modify_eq_set _ _ _ _ h2]
  rcases str_keyed.find w hkey es.toList (keys_of hks) with ⟨h1, h2⟩ | ⟨j, e0, h1, h2, h3⟩
  · refine ⟨setBlock w b (.map (es.push ⟨.string s, v, clock⟩) (clock + 1)), ?_, ⟨_, _, heap_setBlock_same hb _, stamped_push hst h2, by simp; omega, ?_, ?_⟩, grown_set hb _⟩
    · simp [Instr.mapUpdate, run_underlying ht, MapKept.run_getObj_map hb, str_keyed.check w false hkey, h1, MapKept.run_setObj_map _ hb, Result.andThen, setBlock]
    · intro x hx
      simp only [Array.toList_push, List.mem_append, List.mem_singleton] at hx
      rcases hx with hx | rfl
      · exact hks x hx
      · exact ⟨s, rfl, hs⟩
    · intro t u
      simp only [Array.toList_push, List.mem_append, List.mem_singleton]
      unfold putF
      by_cases e : t = s
      · subst e
        rw [if_pos rfl]
        constructor
        · intro e
          injection e with e
          exact ⟨_, .inr rfl, rfl, e⟩
        · rintro ⟨x, hx | rfl, hk, hv⟩
          · exact absurd hk (h2 x hx)
          · rw [← hv]
      · rw [if_neg e, hF]
        constructor
        · rintro ⟨x, hx, hkv⟩
          exact ⟨x, .inl hx, hkv⟩
        · rintro ⟨x, hx | rfl, hk, hv⟩
          · exact ⟨x, hx, hk, hv⟩
          · injection hk with hk
            exact absurd hk.symm e
  · have hj : es[j]? = some e0 := by simpa using h2
    have hkeyf : ∀ e', es[j]? = some e' → ({ e' with key := .string s, val := v } : MapEntry).key = e'.key := fun e' he' => by rw [hj] at he'; cases he'; exact h3.symm
    refine ⟨setBlock w b (.map (es.modify j (fun e' => { e' with key := .string s, val := v })) clock), ?_, ⟨_, _, heap_setBlock_same hb _, stamped_modify hst _ _ (fun _ _ => rfl) (fun e' _ he' => hkeyf e' he'), by simp; omega, ?_, ?_⟩, grown_set hb _⟩
    · simp [Instr.mapUpdate, run_underlying ht, MapKept.run_getObj_map hb, str_keyed.check w false hkey, h1, hj, h3, str_keyed.stays w hkey, MapKept.run_setObj_map _ hb, Result.andThen, setBlock]
    · intro x hx
      rw [hlist e0 j h2, mem_set_key hst.2.2 h2] at hx
      rcases hx with rfl | ⟨hx, _⟩
      · exact ⟨s, rfl, hs⟩
      · exact hks x hx
    · intro t u
      rw [hlist e0 j h2]
      unfold putF
      by_cases e : t = s
      · subst e
        rw [if_pos rfl]
        constructor
        · intro e
          injection e with e
          exact ⟨_, (mem_set_key hst.2.2 h2 _ _).2 (.inl rfl), rfl, e⟩
        · rintro ⟨x, hx, hk, hv⟩
          rcases (mem_set_key hst.2.2 h2 _ _).1 hx with rfl | ⟨_, hne⟩
          · rw [← hv]
          · exact absurd (hk.trans h3.symm) hne
      · rw [if_neg e, hF]
        constructor
        · rintro ⟨x, hx, hk, hv⟩
          refine ⟨x, (mem_set_key hst.2.2 h2 _ _).2 (.inr ⟨hx, fun e' => e ?_⟩), hk, hv⟩
          have := (hk.symm.trans e').trans h3
          injection this
        · rintro ⟨x, hx, hk, hv⟩
          rcases (mem_set_key hst.2.2 h2 _ _).1 hx with rfl | ⟨hx, _⟩
          · injection hk with hk
            exact absurd hk.symm e
          · exact ⟨x, hx, hk, hv⟩
/-- delete(m, s) -/
theorem run_del (h : MapAt w b k F) {t e ty : TypeId} (ht : Try.prog.underlying t = some (.map 9 e)) {s : ByteArray} (hs : s.size ≤ maxLen) :
    ∃ w', (Builtin.delete_ #[t, 9] ty #[.map (some b), .string s]).run Try.prog w = .ok (.tuple #[]) w' ∧ MapAt w' b k (delF F s) ∧ w.grownBy w' (some b) := by
  obtain ⟨es, clock, hb, hst, hsz, hks, hF⟩ := h
  have hkey := keyOf_string_mk (P := Try.prog) key_str hs
  rcases str_keyed.find w hkey es.toList (keys_of hks) with ⟨h1, h2⟩ | ⟨j, e0, h1, h2, h3⟩
  · refine ⟨setBlock w b (.map es clock), ?_, ⟨es, clock, heap_setBlock_same hb _, hst, hsz, hks, ?_⟩, grown_set hb _⟩
    · simp [Builtin.delete_, run_underlying ht, MapKept.run_getObj_map hb, str_keyed.check w _ hkey, h1, MapKept.run_setObj_map _ hb, Result.andThen, setBlock]
    · intro t u
      unfold delF
      by_cases e : t = s
      · subst e
        rw [if_pos rfl]
        exact ⟨(fun h => by cases h), fun ⟨x, hx, hk, _⟩ => absurd hk (h2 x hx)⟩
      · rw [if_neg e, hF]
  · have hjl : j < es.toList.length := (List.getElem?_eq_some_iff.1 h2).1
    have hsub : (es.eraseIdxIfInBounds j).toList = es.toList.eraseIdx j := by
      unfold Array.eraseIdxIfInBounds
      rw [dif_pos (by simpa using hjl)]
      simp
    refine ⟨setBlock w b (.map (es.eraseIdxIfInBounds j) clock), ?_, ⟨_, clock, heap_setBlock_same hb _, stamped_erase hst j, Nat.le_trans (MapFrom.size_erase es j) hsz, ?_, ?_⟩, grown_set hb _⟩
    · simp [Builtin.delete_, run_underlying ht, MapKept.run_getObj_map hb, str_keyed.check w _ hkey, h1, MapKept.run_setObj_map _ hb, Result.andThen, setBlock]
    · intro x hx
      rw [hsub, mem_erase_key hst.2.2 h2] at hx
      exact hks x hx.1
    · intro t u
      rw [hsub]
      unfold delF
      by_cases e : t = s
      · subst e
        rw [if_pos rfl]
        refine ⟨(fun h => by cases h), fun ⟨x, hx, hk, _⟩ => ?_⟩
        exact absurd (hk.trans h3.symm) ((mem_erase_key hst.2.2 h2 _).1 hx).2
      · rw [if_neg e, hF]
        constructor
        · rintro ⟨x, hx, hk, hv⟩
          refine ⟨x, (mem_erase_key hst.2.2 h2 _).2 ⟨hx, fun e' => e ?_⟩, hk, hv⟩
          have := (hk.symm.trans e').trans h3
          injection this
        · rintro ⟨x, hx, hk, hv⟩
          exact ⟨x, ((mem_erase_key hst.2.2 h2 _).1 hx).1, hk, hv⟩
end
end Go.Proofs.Ytkgcccllabofoaa
