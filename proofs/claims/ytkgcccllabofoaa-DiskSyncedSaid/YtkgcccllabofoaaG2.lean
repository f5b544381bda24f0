/-
  The law DiskSynced: plain.
-/
import Derived.Test.YtkgcccllabofoaaDOpen
namespace Go.Proofs.Ytkgcccllabofoaa
open Go.RowKit Go.Maps

theorem app_at {G : FS} {x : Dd} (hk : x.kind = 0) (s : ByteArray) : doF G x s = if s = x.name then some ((G x.name).getD [] ++ x.data) else G s := by
  unfold doF nowF putG
  rw [if_neg (by omega), if_pos hk]
theorem app_keep {G : FS} {x : Dd} {s : ByteArray} {b : List UInt8} (hk : x.kind = 0) (h : G s = some b) : ∃ b', doF G x s = some b' ∧ b <+: b' := by
  rw [app_at hk]
  by_cases e : s = x.name
  · subst e
    rw [if_pos rfl, h]
    exact ⟨_, rfl, List.prefix_append _ _⟩
  · rw [if_neg e]
    exact ⟨b, h, List.prefix_refl _⟩
theorem apps_keep {G : FS} {D : List Dd} {s : ByteArray} {b : List UInt8} (hk : ∀ x ∈ D, x.kind = 0) (h : G s = some b) : ∃ b', doAll G D s = some b' ∧ b <+: b' := by
  induction D generalizing G b with
  | nil => exact ⟨b, h, List.prefix_refl _⟩
  | cons x D ih =>
    obtain ⟨b1, h1, h2⟩ := app_keep (hk x List.mem_cons_self) h
    obtain ⟨b2, h3, h4⟩ := ih (fun y hy => hk y (List.mem_cons_of_mem _ hy)) h1
    exact ⟨b2, h3, h2.trans h4⟩
theorem doAll_append (G : FS) (D E : List Dd) : doAll G (D ++ E) = doAll (doAll G D) E := by
  induction D generalizing G with
  | nil => rfl
  | cons x D ih => exact ih _
theorem apps_part {G : FS} {D : List Dd} {k : Nat} {s : ByteArray} {b : List UInt8} (hk : ∀ x ∈ D, x.kind = 0) (h : doAll G (D.take k) s = some b) : ∃ c, doAll G D s = some c ∧ b <+: c := by
  have e : doAll G D = doAll (doAll G (D.take k)) (D.drop k) := by rw [← doAll_append, List.take_append_drop]
  rw [e]
  exact apps_keep (fun x hx => hk x (List.mem_of_mem_drop hx)) h
theorem crash_keep {S : St} {keep torn : Int} {s : ByteArray} {b : List UInt8} (hk : ∀ x ∈ S.done, x.kind = 0) (h : S.last s = some b) : ∃ b', crashG S keep torn s = some b' ∧ b <+: b' := by
  obtain ⟨b1, h1, h2⟩ := apps_keep (D := S.done.take (restF keep (S.done.length + 1))) (fun x hx => hk x (List.mem_of_mem_take hx)) h
  unfold crashG
  cases hd : S.done[restF keep (S.done.length + 1)]? with
  | none => exact ⟨b1, h1, h2⟩
  | some x =>
    simp only []
    split
    · rename_i hc
      obtain ⟨b3, h3, h4⟩ := app_keep (x := tornF x torn) hc.1 h1
      exact ⟨b3, h3, h2.trans h4⟩
    · exact ⟨b1, h1, h2⟩
theorem crash_part {S : St} {keep torn : Int} {s : ByteArray} {b : List UInt8} (hk : ∀ x ∈ S.done, x.kind = 0) (h : crashG S keep torn s = some b) : ∃ c, S.files s = some c ∧ b <+: c := by
  unfold crashG at h
  cases hd : S.done[restF keep (S.done.length + 1)]? with
  | none =>
    rw [hd] at h
    exact apps_part hk h
  | some x =>
    rw [hd] at h
    simp only [] at h
    split at h
    · rename_i hc
      have hx0 : x.kind = 0 := hc.1
      rw [app_at (x := tornF x torn) hc.1] at h
      have hfull : ∃ c', doAll S.last (S.done.take (restF keep (S.done.length + 1) + 1)) s = some c' ∧ b <+: c' := by
        rw [take_do hd, app_at hx0]
        have hn : (tornF x torn).name = x.name := rfl
        rw [hn] at h
        by_cases e : s = x.name
        · rw [if_pos e] at h ⊢
          injection h with h
          refine ⟨_, rfl, ?_⟩
          rw [← h]
          exact (List.prefix_append_right_inj _).2 (List.take_prefix _ _)
        · rw [if_neg e] at h ⊢
          exact ⟨b, h, List.prefix_refl _⟩
      obtain ⟨c', h1, h2⟩ := hfull
      obtain ⟨c, h3, h4⟩ := apps_part hk h1
      exact ⟨c, h3, h2.trans h4⟩
    · exact apps_part hk h

/-! names -/
def NmOk (R : Rt) : Prop := (∀ s ∈ nms R.last, mayF s = true) ∧ ∀ x ∈ R.done, mayF x.name = true
theorem ready_may {R : Rt} {s : ByteArray} (h : R.ready s = 0) : mayF s = true := by
  unfold Rt.ready readyN at h
  split at h
  · assumption
  · cases h
theorem nms_does {L : FL} {x : Dd} {s : ByteArray} (h : s ∈ nms (doesL L x)) : s ∈ nms L ∨ s = x.name := by
  obtain ⟨a, ha, rfl⟩ := List.mem_map.1 h
  unfold doesL at ha
  cases hb : (x.kind == 2) with
  | true =>
    rw [hb] at ha
    exact .inl (List.mem_map.2 ⟨a, (mem_true _ _ _ _ ha).1, rfl⟩)
  | false =>
    rw [hb] at ha
    rcases mem_false _ _ _ _ ha with h1 | h1
    · exact .inl (List.mem_map.2 ⟨a, h1, rfl⟩)
    · rw [h1]; exact .inr rfl
theorem nms_all {L : FL} {D : List Dd} (hL : ∀ s ∈ nms L, mayF s = true) (hD : ∀ x ∈ D, mayF x.name = true) : ∀ s ∈ nms (doAllL L D), mayF s = true := by
  induction D generalizing L with
  | nil => exact hL
  | cons x D ih =>
    refine ih (fun s hs => ?_) fun y hy => hD y (List.mem_cons_of_mem _ hy)
    rcases nms_does hs with h | h
    · exact hL s h
    · rw [h]; exact hD x List.mem_cons_self
theorem NmOk.files {R : Rt} (h : NmOk R) : ∀ s ∈ nms R.files, mayF s = true := nms_all h.1 h.2
theorem NmOk.put {R : Rt} (h : NmOk R) {x : Dd} (hx : mayF x.name = true) : NmOk (R.put x) := ⟨h.1, fun y hy => by
  rcases List.mem_append.1 (show y ∈ R.done ++ [x] from hy) with h1 | h1
  · exact h.2 y h1
  · rw [List.mem_singleton.1 h1]; exact hx⟩
theorem NmOk.append {R : Rt} (h : NmOk R) (s : ByteArray) (l : List UInt8) : NmOk (R.append s l).2 := by
  unfold Rt.append
  split
  · rename_i hr
    split
    · exact h.put (ready_may hr)
    · exact h
  · exact h
theorem NmOk.truncate {R : Rt} (h : NmOk R) (s : ByteArray) (n : Int) : NmOk (R.truncate s n).2 := by
  unfold Rt.truncate
  split
  · rename_i hr
    cases lookL R.files s with
    | none => exact h
    | some b =>
      simp only []
      split
      · exact h.put (ready_may hr)
      · exact h
  · exact h
theorem NmOk.remove {R : Rt} (h : NmOk R) (s : ByteArray) : NmOk (R.remove s).2 := by
  unfold Rt.remove
  split
  · rename_i hr
    cases lookL R.files s with
    | none => exact h
    | some b => exact h.put (ready_may hr)
  · exact h
theorem NmOk.sync {R : Rt} (h : NmOk R) : NmOk R.sync.2 := by
  unfold Rt.sync
  split
  · exact h
  · exact ⟨h.files, fun x hx => by cases hx⟩
theorem NmOk.setFuse {R : Rt} (h : NmOk R) (n : Int) : NmOk (R.setFuse n).2 := by
  unfold Rt.setFuse
  split
  · exact h
  · exact h
theorem NmOk.crash {R : Rt} (h : NmOk R) (keep torn : Int) : NmOk (R.crash keep torn) := by
  refine ⟨?_, fun x hx => by cases hx⟩
  show ∀ s ∈ nms (crashL R keep torn), _
  have hk := nms_all (D := R.done.take (restF keep (R.done.length + 1))) h.1 fun x hx => h.2 x (List.mem_of_mem_take hx)
  unfold crashL
  cases hd : R.done[restF keep (R.done.length + 1)]? with
  | none => exact hk
  | some x =>
    simp only []
    split
    · intro s hs
      rcases nms_does hs with h1 | h1
      · exact hk s h1
      · rw [h1]; exact h.2 x (List.mem_of_getElem? hd)
    · exact hk
theorem NmOk.step {R : Rt} (h : NmOk R) (x : Ld) : NmOk (R.step x) := by
  unfold Rt.step Rt.stepK
  split
  · exact h.append _ _
  · exact h.truncate _ _
  · exact h.remove _
  · exact h.sync
  · exact h
  · exact h.setFuse _
  · exact h.crash _ _
def MayS (S : St) : Prop := ∀ s, S.files s ≠ none → mayF s = true
theorem NmOk.may {R : Rt} (h : NmOk R) (hs : srt (nms R.last)) : MayS R.st := fun s hn => by
  rw [st_files hs] at hn
  rcases Classical.em (s ∈ nms R.files) with h1 | h1
  · exact h.files s h1
  · exact absurd (lookL_none.2 h1) hn
/-- behind some appends -/
structure ExtS (S S' : St) : Prop where
  l : S'.last = S.last
  d : ∀ x ∈ S'.done, x.kind = 0 ∧ mayF x.name = true
theorem apps_none {G : FS} {D : List Dd} {s : ByteArray} (hk : ∀ x ∈ D, x.kind = 0) (h : doAll G D s ≠ none) : G s ≠ none ∨ ∃ x ∈ D, x.name = s := by
  induction D generalizing G with
  | nil => exact .inl h
  | cons x D ih =>
    rcases ih (fun y hy => hk y (List.mem_cons_of_mem _ hy)) h with h1 | ⟨y, hy, e⟩
    · rw [app_at (hk x List.mem_cons_self)] at h1
      by_cases e : s = x.name
      · exact .inr ⟨x, List.mem_cons_self, e.symm⟩
      · rw [if_neg e] at h1; exact .inl h1
    · exact .inr ⟨y, List.mem_cons_of_mem _ hy, e⟩
theorem ExtS.may {S S' : St} (h : ExtS S S') (hS : MayS S) (hd : S.done = []) : MayS S' := fun s hn => by
  unfold St.files at hn
  rw [h.l] at hn
  rcases apps_none (fun x hx => (h.d x hx).1) hn with h1 | ⟨x, hx, e⟩
  · refine hS s ?_
    unfold St.files
    rw [hd]
    exact h1
  · rw [← e]; exact (h.d x hx).2
theorem ExtS.append {S S' : St} (h : ExtS S S') (s : ByteArray) (l : List UInt8) : ExtS S (S'.append s l).2 := by
  unfold St.append
  split
  · rename_i hr
    split
    · refine ⟨h.l, fun x hx => ?_⟩
      rcases List.mem_append.1 (show x ∈ S'.done ++ [_] from hx) with h1 | h1
      · exact h.d x h1
      · rw [List.mem_singleton.1 h1]
        refine ⟨rfl, ?_⟩
        unfold St.ready readyN at hr
        show mayF s = true
        split at hr
        · assumption
        · cases hr
    · exact h
  · exact h
theorem read_ok {S : St} {s : ByteArray} {b : List UInt8} (hm : mayF s = true) (hf : S.fuse ≠ some 0) (h : S.files s = some b) : S.read s = (b, 0) := by
  have hr : S.ready s = 0 := by unfold St.ready readyN; rw [hm, decide_eq_false hf]; rfl
  unfold St.read
  rw [if_pos hr, h]
theorem read_non {S : St} {s : ByteArray} (hm : mayF s = true) (hf : S.fuse ≠ some 0) (h : S.files s = none) : S.read s = ([], 31) := by
  have hr : S.ready s = 0 := by unfold St.ready readyN; rw [hm, decide_eq_false hf]; rfl
  unfold St.read
  rw [if_pos hr, h]
theorem crash_files (S : St) (keep torn : Int) : (S.crash keep torn).files = crashG S keep torn := rfl
end Go.Proofs.Ytkgcccllabofoaa
