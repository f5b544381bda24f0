/-
  The disk: Append, Truncate, Remove, Read, Pending.
-/
import Derived.Test.YtkgcccllabofoaaD11
namespace Go.Proofs.Ytkgcccllabofoaa
open Go.RowKit Go.Maps

def St.ready (S : St) (s : ByteArray) : Nat := readyN (mayF s) (decide (S.fuse = some 0))
theorem ready_cases (S : St) (s : ByteArray) : S.ready s = 1 ∨ S.ready s = 30 ∨ (S.ready s = 0 ∧ s.size ≤ 24 ∧ S.fuse ≠ some 0) := by
  unfold St.ready readyN
  cases hm : mayF s with
  | false => exact .inl rfl
  | true =>
    by_cases h : S.fuse = some 0
    · rw [decide_eq_true h]; exact .inr (.inl rfl)
    · rw [decide_eq_false h]
      unfold mayF at hm
      have := of_decide_eq_true hm
      exact .inr (.inr ⟨rfl, this.2.1, h⟩)
def St.append (S : St) (s : ByteArray) (l : List UInt8) : Nat × St :=
  if S.ready s = 0 then (if ((S.files s).getD []).length + l.length ≤ 1048576 then (0, S.put ⟨0, s, l, 0⟩) else (1, S)) else (S.ready s, S)
def St.truncate (S : St) (s : ByteArray) (n : Int) : Nat × St :=
  if S.ready s = 0 then (match S.files s with | none => (31, S) | some b => if 0 ≤ n ∧ n ≤ b.length then (0, S.put ⟨1, s, [], n.toNat⟩) else (1, S)) else (S.ready s, S)
def St.remove (S : St) (s : ByteArray) : Nat × St :=
  if S.ready s = 0 then (match S.files s with | none => (31, S) | some _ => (0, S.put ⟨2, s, [], 0⟩)) else (S.ready s, S)
def St.read (S : St) (s : ByteArray) : List UInt8 × Nat :=
  if S.ready s = 0 then (match S.files s with | none => ([], 31) | some b => (b, 0)) else ([], S.ready s)

section
variable {z : Zb} {g c : Nat} {S : St} {w : World}
theorem DkIn.get {bl bf n cp : Nat} {A : Option Addr} {left : Int} {xs : List (Value × Dd)} (h : DkIn z w g c S bl bf A n cp left xs) : DiskAt z w g c S := ⟨bl, bf, A, n, cp, left, xs, h⟩

/-- what an operation tells, and what the disk is behind it -/
def Told (z : Zb) (g c : Nat) (w : World) (r : Nat × St) (e : Ending) (w' : World) : Prop := e = .returned (.int .i64 r.1) ∧ DiskAt z w' g c r.2 ∧ Chg z.b TP w w'

set_option maxRecDepth 100000 in
theorem append_any (s : ByteArray) (B : Option Addr) (m d : Nat) (l : List UInt8) (hD : DiskAt z w g c S) (hz : z.z < w.heap.size) (hc : c ≤ 100000) (hl : Rd w B m l) (hm : m ≤ 100000000) :
    Calls Try.prog 34 #[.pointer (some ⟨g, 0, none⟩), .string s, .slice B m d] w (Told z g (c + 1) w (S.append s l)) := by
  have hD' := hD
  obtain ⟨bl, bf, A, n, cp, left, xs, hI⟩ := hD'
  go_enter Try.func34, Try.ntmps34
  go_wp2_with fail
  refine (ready_any s hI.b).mono ?_
  rintro e w1 ⟨rfl, hb⟩
  rw [hI.down]
  have hD1 := hD.below hb
  have hch : Chg z.b TP w w1 := Chg.of_below hb
  obtain ⟨bl, bf, A, n, cp, left, xs, hI⟩ := hD1
  have hl1 := hl.below hb
  have hlm := hl.len
  rcases ready_cases S s with hr | hr | ⟨hr, hs, h0⟩
  · have hA := Lib.hid (show S.append s l = (1, S) by unfold St.append; rw [if_neg (by omega), hr])
    unfold St.ready at hr
    rw [hr]
    go_wp2_with fail
    go_ret
    exact ⟨by rw [hA.out]; rfl, by rw [hA.out]; exact hI.get.more (by omega), hch⟩
  · have hA := Lib.hid (show S.append s l = (30, S) by unfold St.append; rw [if_neg (by omega), hr])
    unfold St.ready at hr
    rw [hr]
    go_wp2_with fail
    go_ret
    exact ⟨by rw [hA.out]; rfl, by rw [hA.out]; exact hI.get.more (by omega), hch⟩
  · have h1 := hI.b.cell 1
    simp only [dkCells, List.getElem?_toArray, List.getElem?_cons_zero, List.getElem?_cons_succ] at h1
    obtain ⟨A2, n2, c2, hv, hget, _⟩ := hI.mf.get (s := s) (by unfold maxLen; omega)
    have hvl := hv.len
    have hvm := hI.mf.lenD s
    by_cases hf : ((S.files s).getD []).length + l.length ≤ 1048576
    · have hA := Lib.hid (show S.append s l = (0, S.put ⟨0, s, l, 0⟩) by unfold St.append; rw [if_pos hr, if_pos hf])
      unfold St.ready at hr
      rw [hr]
      have hf0 := Lib.hid hf
      rw [hvl, hlm] at hf
      rw [hvl] at hvm
      go_wp2_with fail
      refine (clone_any B m d l w1 hl1 (by omega)).mono ?_
      rintro e w2 ⟨A3, c3, rfl, hown, hb2⟩
      have hD2 := hI.get.below hb2
      have hz2 := hb2.size
      have hz1 := hb.size
      go_wp2_with fail
      refine (do_any z g c S ⟨0, s, l, 0⟩ _ w2 hD2 (BytesV.of_own hown (by omega)) (by omega) ⟨by show 0 < 3; omega, fun _ => hf0.out, fun h => (by cases h), hs, Nat.le_trans (Nat.le_add_left _ _) hf0.out⟩ h0 hc).mono ?_
      rintro e w3 ⟨rfl, hD3, hc3⟩
      go_wp2_with fail
      go_ret
      exact ⟨by rw [hA.out]; rfl, by rw [hA.out]; exact hD3, (hch.trans (Chg.of_below hb2)).trans hc3⟩
    · have hA := Lib.hid (show S.append s l = (1, S) by unfold St.append; rw [if_pos hr, if_neg hf])
      unfold St.ready at hr
      rw [hr]
      rw [hvl, hlm] at hf
      rw [hvl] at hvm
      go_wp2_with fail
      go_ret
      exact ⟨by rw [hA.out]; rfl, by rw [hA.out]; exact hI.get.more (by omega), hch⟩
set_option maxRecDepth 100000 in
theorem truncate_any (s : ByteArray) (k : Int) (hD : DiskAt z w g c S) (hz : z.z < w.heap.size) (hc : c ≤ 100000) :
    Calls Try.prog 42 #[.pointer (some ⟨g, 0, none⟩), .string s, .int .i64 k] w (Told z g (c + 1) w (S.truncate s k)) := by
  have hD' := hD
  obtain ⟨bl, bf, A, n, cp, left, xs, hI⟩ := hD'
  go_enter Try.func42, Try.ntmps42
  go_wp2_with fail
  refine (ready_any s hI.b).mono ?_
  rintro e w1 ⟨rfl, hb⟩
  rw [hI.down]
  have hD1 := hD.below hb
  have hch : Chg z.b TP w w1 := Chg.of_below hb
  obtain ⟨bl, bf, A, n, cp, left, xs, hI⟩ := hD1
  rcases ready_cases S s with hr | hr | ⟨hr, hs, h0⟩
  · have hA := Lib.hid (show S.truncate s k = (1, S) by unfold St.truncate; rw [if_neg (by omega), hr])
    unfold St.ready at hr
    rw [hr]
    go_wp2_with fail
    go_ret
    exact ⟨by rw [hA.out]; rfl, by rw [hA.out]; exact hI.get.more (by omega), hch⟩
  · have hA := Lib.hid (show S.truncate s k = (30, S) by unfold St.truncate; rw [if_neg (by omega), hr])
    unfold St.ready at hr
    rw [hr]
    go_wp2_with fail
    go_ret
    exact ⟨by rw [hA.out]; rfl, by rw [hA.out]; exact hI.get.more (by omega), hch⟩
  · have h1 := hI.b.cell 1
    simp only [dkCells, List.getElem?_toArray, List.getElem?_cons_zero, List.getElem?_cons_succ] at h1
    obtain ⟨A2, n2, c2, hv, _, hget⟩ := hI.mf.get (s := s) (by unfold maxLen; omega)
    have hvl := hv.len
    have hvm := hI.mf.lenD s
    cases hf : S.files s with
    | none =>
      have hA := Lib.hid (show S.truncate s k = (31, S) by unfold St.truncate; rw [if_pos hr, hf])
      rw [hf] at hget
      unfold St.ready at hr
      rw [hr]
      clear hvl hvm hf
      go_wp2_with fail
      go_ret
      exact ⟨by rw [hA.out]; rfl, by rw [hA.out]; exact hI.get.more (by omega), hch⟩
    | some l =>
      rw [hf] at hget hvl hvm
      simp only [Option.getD_some] at hvl hvm
      have hf := Lib.hid hf
      by_cases hk : 0 ≤ k ∧ k ≤ l.length
      · have hA := Lib.hid (show S.truncate s k = (0, S.put ⟨1, s, [], k.toNat⟩) by unfold St.truncate; rw [if_pos hr, hf.out]; simp only [if_pos hk])
        have hk2 : k ≤ n2 := by omega
        have hk3 : k.toNat ≤ l.length := by omega
        have hcu := Lib.hid (show cutOf ⟨1, s, [], k.toNat⟩ = k by unfold cutOf; simp; omega)
        obtain ⟨hk1, _⟩ := hk
        unfold St.ready at hr
        rw [hr]
        clear hvl
        have hz1 := hb.size
        have hdo := do_any z g c S ⟨1, s, [], k.toNat⟩ (.slice none 0 0) w1 hI.get (BytesV.nil _ _) (by omega) ⟨by show 1 < 3; omega, fun h => (by cases h), fun _ => by show k.toNat ≤ _; rw [hf.out]; exact hk3, hs, Nat.zero_le _⟩ h0 hc
        unfold deedV at hdo
        rw [hcu.out] at hdo
        go_wp2_with fail
        refine hdo.mono ?_
        rintro e w3 ⟨rfl, hD3, hc3⟩
        go_wp2_with fail
        go_ret
        exact ⟨by rw [hA.out]; rfl, by rw [hA.out]; exact hD3, hch.trans hc3⟩
      · have hA := Lib.hid (show S.truncate s k = (1, S) by unfold St.truncate; rw [if_pos hr, hf.out]; simp only [if_neg hk])
        unfold St.ready at hr
        rw [hr]
        rcases (show k < 0 ∨ (0 ≤ k ∧ (n2 : Int) < k) by omega) with hk | ⟨hk, hk'⟩
        all_goals
          clear hvl
          go_wp2_with fail
          go_ret
          exact ⟨by rw [hA.out]; rfl, by rw [hA.out]; exact hI.get.more (by omega), hch⟩
set_option maxRecDepth 100000 in
theorem remove_any (s : ByteArray) (hD : DiskAt z w g c S) (hz : z.z < w.heap.size) (hc : c ≤ 100000) :
    Calls Try.prog 43 #[.pointer (some ⟨g, 0, none⟩), .string s] w (Told z g (c + 1) w (S.remove s)) := by
  have hD' := hD
  obtain ⟨bl, bf, A, n, cp, left, xs, hI⟩ := hD'
  go_enter Try.func43, Try.ntmps43
  go_wp2_with fail
  refine (ready_any s hI.b).mono ?_
  rintro e w1 ⟨rfl, hb⟩
  rw [hI.down]
  have hD1 := hD.below hb
  have hch : Chg z.b TP w w1 := Chg.of_below hb
  obtain ⟨bl, bf, A, n, cp, left, xs, hI⟩ := hD1
  rcases ready_cases S s with hr | hr | ⟨hr, hs, h0⟩
  · have hA := Lib.hid (show S.remove s = (1, S) by unfold St.remove; rw [if_neg (by omega), hr])
    unfold St.ready at hr
    rw [hr]
    go_wp2_with fail
    go_ret
    exact ⟨by rw [hA.out]; rfl, by rw [hA.out]; exact hI.get.more (by omega), hch⟩
  · have hA := Lib.hid (show S.remove s = (30, S) by unfold St.remove; rw [if_neg (by omega), hr])
    unfold St.ready at hr
    rw [hr]
    go_wp2_with fail
    go_ret
    exact ⟨by rw [hA.out]; rfl, by rw [hA.out]; exact hI.get.more (by omega), hch⟩
  · have h1 := hI.b.cell 1
    simp only [dkCells, List.getElem?_toArray, List.getElem?_cons_zero, List.getElem?_cons_succ] at h1
    obtain ⟨A2, n2, c2, hv, _, hget⟩ := hI.mf.get (s := s) (by unfold maxLen; omega)
    have hz1 := hb.size
    cases hf : S.files s with
    | none =>
      have hA := Lib.hid (show S.remove s = (31, S) by unfold St.remove; rw [if_pos hr, hf])
      rw [hf] at hget
      unfold St.ready at hr
      rw [hr]
      clear hf
      go_wp2_with fail
      go_ret
      exact ⟨by rw [hA.out]; rfl, by rw [hA.out]; exact hI.get.more (by omega), hch⟩
    | some l =>
      have hA := Lib.hid (show S.remove s = (0, S.put ⟨2, s, [], 0⟩) by unfold St.remove; rw [if_pos hr, hf])
      rw [hf] at hget
      unfold St.ready at hr
      rw [hr]
      clear hf
      have hdo := do_any z g c S ⟨2, s, [], 0⟩ (.slice none 0 0) w1 hI.get (BytesV.nil _ _) (by omega) ⟨by show 2 < 3; omega, fun h => (by cases h), fun h => (by cases h), hs, Nat.zero_le _⟩ h0 hc
      unfold deedV at hdo
      rw [show cutOf ⟨2, s, [], 0⟩ = -2 from rfl] at hdo
      go_wp2_with fail
      refine hdo.mono ?_
      rintro e w3 ⟨rfl, hD3, hc3⟩
      go_wp2_with fail
      go_ret
      exact ⟨by rw [hA.out]; rfl, by rw [hA.out]; exact hD3, hch.trans hc3⟩
set_option maxRecDepth 100000 in
theorem read_any (s : ByteArray) (hD : DiskAt z w g c S) :
    Calls Try.prog 33 #[.pointer (some ⟨g, 0, none⟩), .string s] w fun e w' => ∃ A' n' c', e = .returned (.tuple #[.slice A' n' c', .int .i64 (S.read s).2]) ∧ w'.ownsRow w.heap.size 5 1 (.slice A' n' c') n' ((S.read s).1.map vb) ∧ n' ≤ 1048576 ∧ Below w.heap.size w w' := by
  have hD' := hD
  obtain ⟨bl, bf, A, n, cp, left, xs, hI⟩ := hD'
  go_enter Try.func33, Try.ntmps33
  go_wp2_with fail
  refine (ready_any s hI.b).mono ?_
  rintro e w1 ⟨rfl, hb⟩
  rw [hI.down]
  have hD1 := hD.below hb
  obtain ⟨bl, bf, A, n, cp, left, xs, hI⟩ := hD1
  rcases ready_cases S s with hr | hr | ⟨hr, hs, h0⟩
  · have hA := Lib.hid (show S.read s = ([], 1) by unfold St.read; rw [if_neg (by omega), hr])
    unfold St.ready at hr
    rw [hr]
    go_wp2_with fail
    refine bodyPost_ret (v := .tuple #[.slice none 0 0, .int .i64 1]) (by simp [results, Try.results33, go_sem]) rfl ?_
    exact ⟨none, 0, 0, by rw [hA.out]; rfl, by rw [hA.out]; exact own_nil _ _, by omega, hb⟩
  · have hA := Lib.hid (show S.read s = ([], 30) by unfold St.read; rw [if_neg (by omega), hr])
    unfold St.ready at hr
    rw [hr]
    go_wp2_with fail
    refine bodyPost_ret (v := .tuple #[.slice none 0 0, .int .i64 30]) (by simp [results, Try.results33, go_sem]) rfl ?_
    exact ⟨none, 0, 0, by rw [hA.out]; rfl, by rw [hA.out]; exact own_nil _ _, by omega, hb⟩
  · have h1 := hI.b.cell 1
    simp only [dkCells, List.getElem?_toArray, List.getElem?_cons_zero, List.getElem?_cons_succ] at h1
    obtain ⟨A2, n2, c2, hv, _, hget⟩ := hI.mf.get (s := s) (by unfold maxLen; omega)
    have hvm := hI.mf.lenD s
    cases hf : S.files s with
    | none =>
      have hA := Lib.hid (show S.read s = ([], 31) by unfold St.read; rw [if_pos hr, hf])
      rw [hf] at hget
      unfold St.ready at hr
      rw [hr]
      clear hf hvm
      go_wp2_with fail
      refine bodyPost_ret (v := .tuple #[.slice none 0 0, .int .i64 31]) (by simp [results, Try.results33, go_sem]) rfl ?_
      exact ⟨none, 0, 0, by rw [hA.out]; rfl, by rw [hA.out]; exact own_nil _ _, by omega, hb⟩
    | some l =>
      have hA := Lib.hid (show S.read s = (l, 0) by unfold St.read; rw [if_pos hr, hf])
      rw [hf] at hget hv hvm
      simp only [Option.getD_some] at hv hvm
      have hvl := hv.len
      unfold St.ready at hr
      rw [hr]
      clear hf
      go_wp2_with fail
      refine (clone_any A2 n2 c2 l w1 hv.get.1 (by omega)).mono ?_
      rintro e w2 ⟨A3, c3, rfl, hown, hb2⟩
      have hz1 := hb.size
      go_wp2_with fail
      refine bodyPost_ret (v := .tuple #[.slice A3 n2 c3, .int .i64 0]) (by simp [results, Try.results33, go_sem]) rfl ?_
      exact ⟨A3, n2, c3, by rw [hA.out]; rfl, by rw [hA.out]; exact own_mono hown hz1, by omega, hb.trans (hb2.mono hz1)⟩
theorem pending_any (hD : DiskAt z w g c S) : Calls Try.prog 37 #[.pointer (some ⟨g, 0, none⟩)] w fun e w' => e = .returned (.int .i64 S.done.length) ∧ w = w' := by
  obtain ⟨bl, bf, A, n, cp, left, xs, hI⟩ := hD
  have h2 := hI.b.cell 2
  simp only [dkCells, List.getElem?_toArray, List.getElem?_cons_zero, List.getElem?_cons_succ] at h2
  have hl := Lib.hid hI.len.1
  go_enter Try.func37, Try.ntmps37
  go_wp2_with fail
  go_ret
  exact ⟨by rw [← hl.out]; rfl, rfl⟩
end
end Go.Proofs.Ytkgcccllabofoaa
