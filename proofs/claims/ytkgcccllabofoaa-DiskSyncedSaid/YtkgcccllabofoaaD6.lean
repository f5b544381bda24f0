/-
  The disk: which names may be.
-/
import Derived.Test.YtkgcccllabofoaaD5
import Derived.Laws.RangeString
namespace Go.Proofs.Ytkgcccllabofoaa
open Go.RowKit Go.Maps

/-- may a byte stand in a name? -/
def okB (c : Nat) : Bool := (decide (97 ≤ c) && decide (c ≤ 122)) || (decide (48 ≤ c) && decide (c ≤ 57)) || decide (c = 45) || decide (c = 95)
def mayF (s : ByteArray) : Bool := decide (1 ≤ s.size ∧ s.size ≤ 24 ∧ ∀ i (h : i < s.size), okB (s[i]'h).toNat = true)
theorem decode_high (s : ByteArray) (pos : Nat) (h : pos < s.size) (ha : 128 ≤ (s[pos]'h).toNat) : 128 ≤ (Utf8.decode s pos).1 ∧ (Utf8.decode s pos).1 ≤ 1114111 := by
  have e : (s.get! (pos + 0)).toNat = (s[pos]'h).toNat := by
    show (s.get! pos).toNat = _
    simp [ByteArray.get!, getElem!_pos, h]
    rfl
  have hb := (s[pos]'h).toNat_lt
  unfold Utf8.decode
  simp only [e]
  generalize (s[pos]'h).toNat = b at *
  have hr : Utf8.runeError = 65533 := rfl
  rw [if_neg (by omega)]
  repeat' split
  all_goals simp only [hr]
  all_goals try omega
  all_goals
    rename_i hc
    first
      | omega
      | (have h1 : 128 ≤ _ := hc; omega)
      | (simp only [Utf8.valid, Bool.and_eq_true, Bool.or_eq_true, decide_eq_true_eq, ge_iff_le, beq_iff_eq] at *; omega)

theorem toList_len (s : ByteArray) : s.toList.length = s.size := by rw [ByteArray.toList_eq]; rfl
theorem run_next_any {P : Program} (w : World) (s : ByteArray) (pos : Nat) (ty : TypeId) (h : pos < s.size) :
    (Instr.next (.pointer (some ⟨w.heap.size, 0, none⟩)) true ty).run P (w.iter s pos) =
      .ok (.tuple #[.bool true, .int .i64 pos, .int .i32 (Utf8.decode s pos).1]) (w.iter s (pos + (Utf8.decode s pos).2)) := by
  simp only [Instr.next, getObj, setObj, Sem.run_bind, Sem.run, World.iter_heap, Result.andThen, h, if_true, World.iter_set]
  simp [goInt]
def leftS (w : World) (g : Nat) (s : ByteArray) : Nat := s.size - (match w.heap[g]? with | some (.stringIter _ p) => p | _ => 0)
theorem leftS_at (w : World) (s : ByteArray) (p : Nat) : leftS (w.iter s p) w.heap.size s = s.size - p := by
  unfold leftS; rw [World.iter_heap]
theorem leftS_next (w : World) (s : ByteArray) (p : Nat) (h : p < s.size) : leftS (w.iter s (p + 1)) w.heap.size s < leftS (w.iter s p) w.heap.size s := by
  rw [leftS_at, leftS_at]; omega
set_option maxRecDepth 100000 in
theorem may_any (s : ByteArray) (w : World) : Calls Try.prog 76 #[.string s] w fun e w' => e = .returned (.bool (mayF s)) ∧ Below w.heap.size w w' := by
  have hit : ∀ pos, Below w.heap.size w (w.iter s pos) := fun pos => (Below.refl _ _).alloc (Nat.le_refl _) _
  go_enter Try.func76, Try.ntmps76
  go_wp2_with fail
  go_loopw [] (fun wr => ∃ pos, pos ≤ s.size ∧ wr = w.iter s pos ∧ ∀ i (h : i < s.size), i < pos → okB (s[i]'h).toNat = true) (fun wr => leftS wr w.heap.size s)
  case atStart => exact ⟨0, Nat.zero_le _, rfl, fun i _ h => absurd h (Nat.not_lt_zero _)⟩
  case round =>
    obtain ⟨pos, hpos, rfl, hok⟩ := hrel
    by_cases hlt : pos < s.size
    · have hnx := fun ty => run_next_any (P := Try.prog) w s pos ty hlt
      by_cases ha : (s[pos]'hlt).toNat < 128
      · have hd := decode_ascii s pos hlt ha
        simp only [hd] at hnx
        generalize hc : (s[pos]'hlt).toNat = c at *
        have hcl : (okB c = false ∧ (c < 45 ∨ (45 < c ∧ c < 48) ∨ (57 < c ∧ c < 95) ∨ c = 96 ∨ 122 < c)) ∨ (okB c = true ∧ ((97 ≤ c ∧ c ≤ 122) ∨ (48 ≤ c ∧ c ≤ 57) ∨ c = 45 ∨ c = 95)) := by
          unfold okB
          simp only [Bool.or_eq_true, Bool.or_eq_false_iff, Bool.and_eq_true, Bool.and_eq_false_iff, decide_eq_true_eq, decide_eq_false_iff_not]
          omega
        rcases hcl with ⟨hb, h⟩ | ⟨hb, h⟩
        · have Hf := Lib.hid (show mayF s = false from decide_eq_false fun h => by have := h.2.2 pos hlt; rw [hc, hb] at this; cases this)
          have hq := hit (pos + 1)
          clear hb hok hd
          rcases h with h | ⟨h, h'⟩ | ⟨h, h'⟩ | h | h
          all_goals
            have e1 : ((c : Int) == 45) = false := beq_eq_false_iff_ne.2 (by omega)
            have e2 : ((c : Int) == 95) = false := beq_eq_false_iff_ne.2 (by omega)
            go_wp2_with fail
            all_goals first
              | (go_ret; exact ⟨by rw [Hf.out]; rfl, hq⟩)
              | (exfalso; rename_i hx; simp at hx; omega)
        · have Hok := Lib.hid (show ∀ i (h : i < s.size), i < pos + 1 → okB (s[i]'h).toNat = true from fun i hi hlt' => by
            rcases Nat.lt_succ_iff_lt_or_eq.1 hlt' with h | rfl
            · exact hok i hi h
            · rw [hc]; exact hb)
          clear hb hok hd hc
          have Hlt := Lib.hid (leftS_next w s pos hlt)
          rcases h with ⟨h, h'⟩ | ⟨h, h'⟩ | h | h
          all_goals
            try subst h
            try have e1 : ((c : Int) == 45) = false := beq_eq_false_iff_ne.2 (by omega)
            try have e2 : ((c : Int) == 95) = false := beq_eq_false_iff_ne.2 (by omega)
            go_wp2_with fail
            all_goals first
              | exact ⟨⟨pos + 1, hlt, rfl, Hok.out⟩, Hlt.out⟩
              | (exfalso; rename_i hx; simp at hx; omega)
      · obtain ⟨hd1, hd2⟩ := decode_high s pos hlt (by omega)
        have Hf := Lib.hid (show mayF s = false from decide_eq_false fun h => by
          have h1 := h.2.2 pos hlt
          unfold okB at h1
          simp only [Bool.or_eq_true, Bool.and_eq_true, decide_eq_true_eq] at h1
          omega)
        have hq := hit (pos + (Utf8.decode s pos).2)
        clear hok ha
        generalize (Utf8.decode s pos).1 = c at *
        have e1 : ((c : Int) == 45) = false := beq_eq_false_iff_ne.2 (by omega)
        have e2 : ((c : Int) == 95) = false := beq_eq_false_iff_ne.2 (by omega)
        go_wp2_with fail
        all_goals first
          | (go_ret; exact ⟨by rw [Hf.out]; rfl, hq⟩)
          | (exfalso; rename_i hx; simp at hx; omega)
    · have hnx := fun ty => run_next_end (P := Try.prog) w s pos ty hlt
      have hE : mayF s = (decide (1 ≤ s.size) && decide ((s.size : Int) ≤ 24)) := by
        unfold mayF
        rw [Bool.eq_iff_iff, decide_eq_true_eq, Bool.and_eq_true, decide_eq_true_eq, decide_eq_true_eq]
        exact ⟨fun h => ⟨h.1, by omega⟩, fun h => ⟨h.1, by omega, fun i hi => hok i hi (by omega)⟩⟩
      have Hm := Lib.hid hE
      clear hE hok
      go_wp2_with fail
      all_goals
        go_ret
        refine ⟨?_, hit _⟩
        rw [Hm.out]
        rename_i hx
        have hsz := toList_len s
        first
          | (have h0 : s.size = 0 := by rw [hx] at hsz; exact hsz.symm
             rw [h0]; rfl)
          | (have h1 : 1 ≤ s.size := by
               have : s.toList.length ≠ 0 := fun h => hx (List.eq_nil_of_length_eq_zero h)
               omega
             have h2 : s.toList.isEmpty = false := by cases hl : s.toList with
               | nil => exact absurd hl hx
               | cons a l => rfl
             have h3 : decide (1 ≤ s.size) = true := decide_eq_true h1
             rw [h3]
             show Ending.returned (.bool (!s.toList.isEmpty && decide ((s.size : Int) ≤ 24))) = _
             rw [h2]; rfl)
end Go.Proofs.Ytkgcccllabofoaa
