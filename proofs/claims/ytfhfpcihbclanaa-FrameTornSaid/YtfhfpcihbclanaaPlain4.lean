/-
  Plain facts (no program in sight): frames put one behind the other; turned; cut.
-/
import Derived.Test.YtfhfpcihbclanaaPlain3
namespace Go.Proofs.Ytfhfpcihbclanaa

theorem leS_at (n i : Nat) (h : i < 4) : (leS 4 n)[i]? = some (UInt8.ofNat (n / 256 ^ i)) := by
  unfold leS sh8
  rw [List.getElem?_map, List.getElem?_range h]; rfl
theorem numL_of {l : List UInt8} {n : Nat} (hn : n < 4294967296) (h : ∀ i, i < 4 → l[i]? = (leS 4 n)[i]?) : numL l = n := by
  have e : ∀ i, i < 4 → (l[i]?.getD 0).toNat = n / 256 ^ i % 256 := fun i hi => by
    rw [h i hi, leS_at n i hi]; simp
  unfold numL
  rw [e 0 (by omega), e 1 (by omega), e 2 (by omega), e 3 (by omega)]
  omega
theorem frame_first (k : Nat) (body rest : List UInt8) (i : Nat) (h : i < 4) : (frameB k body ++ rest)[i]? = (leS 4 body.length)[i]? := by
  have hl := leS_len 4 body.length
  unfold frameB frameH
  rw [List.append_assoc, List.append_assoc, List.append_assoc, List.getElem?_append_left (by omega)]
theorem numL_frame (k : Nat) (body rest : List UInt8) (hb : body.length ≤ 65536) : numL (frameB k body ++ rest) = body.length := numL_of (by omega) fun i h => frame_first k body rest i h
theorem whole_frame (k : Nat) (body : List UInt8) : wholeF (frameB k body) = true := whole_with _
theorem getF_frame (k : Nat) (body rest : List UInt8) (hk : k ≤ 255) (hb : body.length ≤ 65536) : getF (frameB k body ++ rest) = ⟨k, body, body.length + 9, 0⟩ := by
  have hn := numL_frame k body rest hb
  have hl := frameB_len k body
  have hL : (frameB k body ++ rest).length = body.length + 9 + rest.length := by rw [List.length_append, hl]
  have ht : (frameB k body ++ rest).take (body.length + 9) = frameB k body := by rw [← hl, List.take_left']; rfl
  have h4 : ((frameB k body ++ rest)[4]?.getD 0).toNat = k := by
    have h : (frameB k body ++ rest)[4]? = some (UInt8.ofNat k) := by
      have hl4 := leS_len 4 body.length
      unfold frameB frameH
      rw [List.append_assoc, List.append_assoc, List.append_assoc, List.getElem?_append_right (by omega), hl4]
      rfl
    rw [h]; simp; omega
  have hbody : ((frameB k body ++ rest).take (body.length + 5)).drop 5 = body := by
    have hh : (leS 4 body.length ++ [UInt8.ofNat k]).length = 5 := by simp [leS_len]
    have e : frameB k body ++ rest = (leS 4 body.length ++ [UInt8.ofNat k]) ++ (body ++ (leS 4 (moreF 0 (frameH k body)) ++ rest)) := by
      unfold frameB; rw [show frameH k body = leS 4 body.length ++ [UInt8.ofNat k] ++ body from rfl]; simp only [List.append_assoc]
    rw [e, Nat.add_comm, ← hh, List.take_length_add_append, List.drop_left']
    · simp
    · rfl
  rw [getF_ok _ (by omega) (by omega) (by omega) (by rw [hn, ht]; exact whole_frame k body), hn, h4, hbody]

/-- turning behind the first four bytes leaves these -/
theorem turnL_first (l : List UInt8) (f b i : Nat) (h : i * 8 + 8 ≤ f) : ∀ k, (turnL l f b k)[i]? = l[i]? := by
  intro k
  induction k with
  | zero => rfl
  | succ k ih =>
    unfold turnL
    split
    · rw [← ih]
      unfold flipB
      rw [List.getElem?_set_ne (by omega)]
    · exact ih
theorem tell_frame (k : Nat) (body : List UInt8) (f b : Nat) (hb : body.length ≤ 65536) (hf : 32 ≤ f) :
    (turnS (frameB k body) f b 32 = true → getF (turnL (frameB k body) f b 32) = ⟨0, [], 0, 4⟩) ∧
    (turnS (frameB k body) f b 32 = false → ∃ kd bd, getF (turnL (frameB k body) f b 32) = ⟨kd, bd, body.length + 9, 0⟩) := by
  have hl := frameB_len k body
  have hT := turnL_len (frameB k body) f b 32
  have hbu := burst (frameB k body) f b (by omega) (whole_frame k body)
  have hn : numL (turnL (frameB k body) f b 32) = body.length := numL_of (by omega) fun i h => by
    rw [turnL_first _ f b i (by omega)]
    have := frame_first k body [] i h
    rwa [List.append_nil] at this
  generalize turnL (frameB k body) f b 32 = t at *
  have ht : t.take (body.length + 9) = t := List.take_of_length_le (by omega)
  constructor
  · intro h
    exact getF_crc t (by omega) (by omega) (by omega) (by rw [hn, ht, hbu, h]; rfl)
  · intro h
    have e := getF_ok t (by omega) (by omega) (by omega) (by rw [hn, ht, hbu, h]; rfl)
    rw [hn] at e
    exact ⟨_, _, e⟩

/-- frames, one behind the other -/
def framesB (fs : List Fr) : List UInt8 := fs.flatMap fun f => frameB f.kind f.body
def okFr (f : Fr) : Prop := f.kind ≤ 255 ∧ f.body.length ≤ 65536
theorem framesB_cons (f : Fr) (fs : List Fr) : framesB (f :: fs) = frameB f.kind f.body ++ framesB fs := by simp [framesB]
theorem framesB_snoc (f : Fr) (fs : List Fr) : framesB (fs ++ [f]) = framesB fs ++ frameB f.kind f.body := by simp [framesB]
theorem getF_cut (k : Nat) (body rest : List UInt8) (hb : body.length ≤ 65536) (c : Nat) (hc : c < body.length + 9) : getF ((frameB k body ++ rest).take c) = ⟨0, [], 0, 3⟩ := by
  have hl := frameB_len k body
  have hL : ((frameB k body ++ rest).take c).length = c := by rw [List.length_take, List.length_append]; omega
  by_cases h4 : c < 4
  · exact getF_short _ (by omega)
  · have hn : numL ((frameB k body ++ rest).take c) = body.length := numL_of (by omega) fun i h => by
      rw [List.getElem?_take, if_pos (by omega)]
      exact frame_first k body rest i h
    exact getF_ends _ (by omega) (by omega) (by omega)
theorem scan_cut (fs : List Fr) : ∀ (k c : Nat), (∀ f ∈ fs, okFr f) → c ≤ (framesB fs).length → k ≤ fs.length → (framesB (fs.take k)).length ≤ c → (k = fs.length ∨ c < (framesB (fs.take (k + 1))).length) →
    scanF ((framesB fs).take c) = ⟨fs.take k, (framesB (fs.take k)).length, if (framesB (fs.take k)).length = c then 0 else 3⟩ := by
  induction fs with
  | nil =>
    intro k c _ hc hk _ _
    simp [framesB] at hc
    subst hc
    simp at hk
    subst hk
    rfl
  | cons f fs ih =>
    intro k c hok hc hk hlo hhi
    have hf := hok f (by simp)
    have hl := frameB_len f.kind f.body
    rw [framesB_cons] at hc ⊢
    cases k with
    | zero =>
      have hlt : c < f.body.length + 9 := by
        rcases hhi with h | h
        · simp at h
        · simpa [framesB, hl] using h
      simp only [List.take_zero]
      by_cases h0 : c = 0
      · subst h0; rfl
      · have hne : (frameB f.kind f.body ++ framesB fs).take c ≠ [] := fun e => by
          have := congrArg List.length e
          rw [List.length_take, List.length_append, List.length_nil] at this
          omega
        rw [scanF_err _ hne 3 (getF_cut f.kind f.body _ hf.2 c hlt) (by omega)]
        simp [framesB]; omega
    | succ k =>
      rw [List.take_succ_cons, framesB_cons, List.length_append] at hlo
      rw [List.take_succ_cons, framesB_cons, List.length_append]
      have e : (frameB f.kind f.body ++ framesB fs).take c = frameB f.kind f.body ++ (framesB fs).take (c - (f.body.length + 9)) := by
        rw [List.take_append, List.take_of_length_le (by omega), hl]
      have hne : frameB f.kind f.body ++ (framesB fs).take (c - (f.body.length + 9)) ≠ [] := fun e => by
        have := congrArg List.length e
        rw [List.length_append, List.length_nil] at this
        omega
      have hd : (frameB f.kind f.body ++ (framesB fs).take (c - (f.body.length + 9))).drop (f.body.length + 9) = (framesB fs).take (c - (f.body.length + 9)) := by
        rw [← hl, List.drop_left']; rfl
      have hi := ih k (c - (f.body.length + 9)) (fun g hg => hok g (by simp [hg])) (by rw [List.length_append] at hc; omega) (by simp at hk; omega) (by omega) (by
        rcases hhi with h | h
        · exact .inl (by simpa using h)
        · right
          rw [List.take_succ_cons, framesB_cons, List.length_append] at h
          omega)
      rw [e, scanF_ok _ hne f.kind _ f.body (getF_frame f.kind f.body _ hf.1 hf.2) (by omega), hd, hi]
      simp only [ScanR.mk.injEq, true_and]
      refine ⟨by omega, ?_⟩
      split <;> split <;> first | rfl | (exfalso; omega)
theorem scan_round (fs : List Fr) (hok : ∀ f ∈ fs, okFr f) : scanF (framesB fs) = ⟨fs, (framesB fs).length, 0⟩ := by
  have h := scan_cut fs fs.length (framesB fs).length hok (Nat.le_refl _) (Nat.le_refl _) (by simp) (.inl rfl)
  simpa using h
end Go.Proofs.Ytfhfpcihbclanaa
