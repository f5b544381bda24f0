/-
  The disk's answer: Append, Truncate, Remove, Read.
-/
import Derived.Test.YtkgcccllabofoaaE5
namespace Go.Proofs.Ytkgcccllabofoaa
open Go.RowKit Go.Maps

def Rt.ready (R : Rt) (s : ByteArray) : Nat := readyN (mayF s) (decide (R.fuse = some 0))
theorem rready_cases (R : Rt) (s : ByteArray) : R.ready s = 1 ∨ R.ready s = 30 ∨ (R.ready s = 0 ∧ s.size ≤ 24 ∧ R.fuse ≠ some 0) := ready_cases R.st s
def Rt.append (R : Rt) (s : ByteArray) (l : List UInt8) : Nat × Rt :=
  if R.ready s = 0 then (if ((lookL R.files s).getD []).length + l.length ≤ 1048576 then (0, R.put ⟨0, s, l, 0⟩) else (1, R)) else (R.ready s, R)
def Rt.truncate (R : Rt) (s : ByteArray) (n : Int) : Nat × Rt :=
  if R.ready s = 0 then (match lookL R.files s with | none => (31, R) | some b => if 0 ≤ n ∧ n ≤ b.length then (0, R.put ⟨1, s, [], n.toNat⟩) else (1, R)) else (R.ready s, R)
def Rt.remove (R : Rt) (s : ByteArray) : Nat × Rt :=
  if R.ready s = 0 then (match lookL R.files s with | none => (31, R) | some _ => (0, R.put ⟨2, s, [], 0⟩)) else (R.ready s, R)
def Rt.read (R : Rt) (s : ByteArray) : List UInt8 × Nat :=
  if R.ready s = 0 then (match lookL R.files s with | none => ([], 31) | some b => (b, 0)) else ([], R.ready s)
def RTold (z : Zb) (g c : Nat) (w : World) (r : Nat × Rt) (e : Ending) (w' : World) : Prop := e = .returned (.int .i64 r.1) ∧ RefAt z w' g c r.2 ∧ Chg z.b TR w w'
theorem RefAt.more {z : Zb} {g c : Nat} {w : World} {R : Rt} (h : RefAt z w g c R) {c' : Nat} (hc : c ≤ c') : RefAt z w g c' R := by
  obtain ⟨A, n, cp, ys, B, m, cq, left, xs, h⟩ := h
  exact ⟨A, n, cp, ys, B, m, cq, left, xs, h.b, h.f, h.l, h.o, h.d, h.v, Nat.le_trans h.c hc, h.ok, h.s, h.lo⟩
theorem filesV_n {z n c : Nat} {w : World} {A : Option Addr} {ys : List FV} {R : Rt} {k : Nat} (h : FilesV z w A n c ys R.files) (hc : R.last.length + R.done.length ≤ k) : n ≤ k := by
  have h1 := h.len.2
  have h2 := doAllL_len R.last R.done
  have : R.files.length ≤ _ := h2
  omega
section
variable {z : Zb} {g c : Nat} {R : Rt} {w : World}
set_option maxRecDepth 100000 in
theorem refappend_any (s : ByteArray) (B : Option Addr) (m d : Nat) (l : List UInt8) (hD : RefAt z w g c R) (hz : z.z < w.heap.size) (hc : c ≤ 100000) (hl : RdS z w (.slice B m d) l) (hm : m ≤ 100000000) :
    Calls Try.prog 47 #[.pointer (some ⟨g, 0, none⟩), .string s, .slice B m d] w (RTold z g (c + 1) w (R.append s l)) := by
  have hD' := hD
  obtain ⟨A, n, cp, ys, Bd, md, cq, left, xs, hI⟩ := hD'
  go_enter Try.func47, Try.ntmps47
  go_wp2_with fail
  refine (refready_any s hI.b).mono ?_
  rintro e w1 ⟨rfl, rfl⟩
  rw [hI.down]
  have hlm := hl.len
  rcases rready_cases R s with hr | hr | ⟨hr, hs, h0⟩
  · have hA := Lib.hid (show R.append s l = (1, R) by unfold Rt.append; rw [if_neg (by omega), hr])
    unfold Rt.ready at hr
    rw [hr]
    go_wp2_with fail
    go_ret
    exact ⟨by rw [hA.out]; rfl, by rw [hA.out]; exact hI.get.more (by omega), Chg.refl _ _ _⟩
  · have hA := Lib.hid (show R.append s l = (30, R) by unfold Rt.append; rw [if_neg (by omega), hr])
    unfold Rt.ready at hr
    rw [hr]
    go_wp2_with fail
    go_ret
    exact ⟨by rw [hA.out]; rfl, by rw [hA.out]; exact hI.get.more (by omega), Chg.refl _ _ _⟩
  · have hr0 := hr
    unfold Rt.ready at hr
    rw [hr]
    have hr0 := Lib.hid hr0
    have h0 := Lib.hid h0
    go_wp2_with fail
    refine (files_any hD hz hc).mono ?_
    rintro e w2 ⟨⟨A2, n2, c2, ys2, rfl, hF⟩, hb2⟩
    have hn2 := filesV_n hF hI.c
    go_wp2_with fail
    refine (find_any s hF (by omega)).mono ?_
    rintro e w3 ⟨⟨i, rfl, hi⟩, rfl⟩
    have hD2 := hD.below hb2
    have hz2 := hb2.size
    have hl2 := hl.below hb2
    have hch : Chg z.b TR w w2 := Chg.of_below hb2
    have hdo := fun hx => refdo_any z g c R ⟨0, s, l, 0⟩ (.slice B m d) w2 hD2 hl2 (by show l.length ≤ _; omega) (by omega) hx h0.out hc
    unfold rdV at hdo
    rcases hi with ⟨rfl, hi⟩ | ⟨k, dt, rfl, hk, hi⟩
    · by_cases hf : ((lookL R.files s).getD []).length + l.length ≤ 1048576
      · have hA := Lib.hid (show R.append s l = (0, R.put ⟨0, s, l, 0⟩) by unfold Rt.append; rw [if_pos hr0.out, if_pos hf])
        have hdo := hdo ⟨by show 0 < 3; omega, fun _ => hf, fun h => (by cases h), hs, Nat.le_trans (Nat.le_add_left _ _) hf⟩
        rw [hi, Option.getD_none, List.length_nil, Nat.zero_add, hlm] at hf
        clear hi
        go_wp2_with fail
        refine hdo.mono ?_
        rintro e w4 ⟨rfl, hD3, hc3⟩
        go_wp2_with fail
        go_ret
        exact ⟨by rw [hA.out]; rfl, by rw [hA.out]; exact hD3, hch.trans hc3⟩
      · have hA := Lib.hid (show R.append s l = (1, R) by unfold Rt.append; rw [if_pos hr0.out, if_neg hf])
        rw [hi, Option.getD_none, List.length_nil, Nat.zero_add, hlm] at hf
        clear hi
        go_wp2_with fail
        go_ret
        exact ⟨by rw [hA.out]; rfl, by rw [hA.out]; exact hD2.more (by omega), hch⟩
    · have hkn : k < n2 := by have := (List.getElem?_eq_some_iff.1 hk).1; have := hF.len; omega
      obtain ⟨gf, ⟨pv, pn, pd⟩, rfl, hgf, hy, hL, c0, c1, hpv, hpl⟩ := hF.at_ hkn
      have hp : pd = dt := by rw [hk] at hL; injection hL with hL; exact (congrArg Prod.snd hL).symm
      subst hp
      simp only [] at hpv hpl c1
      obtain ⟨Ap, np, cp, rfl, _⟩ := id hpv
      have hpn := hpv.len
      by_cases hf : ((lookL R.files s).getD []).length + l.length ≤ 1048576
      · have hA := Lib.hid (show R.append s l = (0, R.put ⟨0, s, l, 0⟩) by unfold Rt.append; rw [if_pos hr0.out, if_pos hf])
        have hdo := hdo ⟨by show 0 < 3; omega, fun _ => hf, fun h => (by cases h), hs, Nat.le_trans (Nat.le_add_left _ _) hf⟩
        rw [hi, Option.getD_some, hpn, hlm] at hf
        clear hi hk hL hy hpn
        go_wp2_with fail
        refine hdo.mono ?_
        rintro e w4 ⟨rfl, hD3, hc3⟩
        go_wp2_with fail
        go_ret
        exact ⟨by rw [hA.out]; rfl, by rw [hA.out]; exact hD3, hch.trans hc3⟩
      · have hA := Lib.hid (show R.append s l = (1, R) by unfold Rt.append; rw [if_pos hr0.out, if_neg hf])
        rw [hi, Option.getD_some, hpn, hlm] at hf
        rw [hpn] at hpl
        clear hi hk hL hy hpn
        go_wp2_with fail
        go_ret
        exact ⟨by rw [hA.out]; rfl, by rw [hA.out]; exact hD2.more (by omega), hch⟩
set_option maxRecDepth 100000 in
theorem reftruncate_any (s : ByteArray) (q : Int) (hD : RefAt z w g c R) (hz : z.z < w.heap.size) (hc : c ≤ 100000) :
    Calls Try.prog 48 #[.pointer (some ⟨g, 0, none⟩), .string s, .int .i64 q] w (RTold z g (c + 1) w (R.truncate s q)) := by
  have hD' := hD
  obtain ⟨A, n, cp, ys, Bd, md, cq, left, xs, hI⟩ := hD'
  go_enter Try.func48, Try.ntmps48
  go_wp2_with fail
  refine (refready_any s hI.b).mono ?_
  rintro e w1 ⟨rfl, rfl⟩
  rw [hI.down]
  rcases rready_cases R s with hr | hr | ⟨hr, hs, h0⟩
  · have hA := Lib.hid (show R.truncate s q = (1, R) by unfold Rt.truncate; rw [if_neg (by omega), hr])
    unfold Rt.ready at hr
    rw [hr]
    go_wp2_with fail
    go_ret
    exact ⟨by rw [hA.out]; rfl, by rw [hA.out]; exact hI.get.more (by omega), Chg.refl _ _ _⟩
  · have hA := Lib.hid (show R.truncate s q = (30, R) by unfold Rt.truncate; rw [if_neg (by omega), hr])
    unfold Rt.ready at hr
    rw [hr]
    go_wp2_with fail
    go_ret
    exact ⟨by rw [hA.out]; rfl, by rw [hA.out]; exact hI.get.more (by omega), Chg.refl _ _ _⟩
  · have hr0 := hr
    unfold Rt.ready at hr
    rw [hr]
    have hr0 := Lib.hid hr0
    have h0 := Lib.hid h0
    go_wp2_with fail
    refine (files_any hD hz hc).mono ?_
    rintro e w2 ⟨⟨A2, n2, c2, ys2, rfl, hF⟩, hb2⟩
    have hn2 := filesV_n hF hI.c
    go_wp2_with fail
    refine (find_any s hF (by omega)).mono ?_
    rintro e w3 ⟨⟨i, rfl, hi⟩, rfl⟩
    have hD2 := hD.below hb2
    have hz2 := hb2.size
    have hch : Chg z.b TR w w2 := Chg.of_below hb2
    have hdo := fun hx => refdo_any z g c R ⟨1, s, [], q.toNat⟩ (.slice none 0 0) w2 hD2 ((BytesV.nil z.z _).rds z) (Nat.zero_le _) (by omega) hx h0.out hc
    unfold rdV at hdo
    rcases hi with ⟨rfl, hi⟩ | ⟨k, dt, rfl, hk, hi⟩
    · have hA := Lib.hid (show R.truncate s q = (31, R) by unfold Rt.truncate; rw [if_pos hr0.out, hi])
      clear hi
      go_wp2_with fail
      go_ret
      exact ⟨by rw [hA.out]; rfl, by rw [hA.out]; exact hD2.more (by omega), hch⟩
    · have hkn : k < n2 := by have := (List.getElem?_eq_some_iff.1 hk).1; have := hF.len; omega
      obtain ⟨gf, ⟨pv, pn, pd⟩, rfl, hgf, hy, hL, c0, c1, hpv, hpl⟩ := hF.at_ hkn
      have hp : pd = dt := by rw [hk] at hL; injection hL with hL; exact (congrArg Prod.snd hL).symm
      subst hp
      simp only [] at hpv hpl c1
      obtain ⟨Ap, np, cp, rfl, _⟩ := id hpv
      have hpn := hpv.len
      by_cases hf : 0 ≤ q ∧ q ≤ pd.length
      · have hA := Lib.hid (show R.truncate s q = (0, R.put ⟨1, s, [], q.toNat⟩) by unfold Rt.truncate; rw [if_pos hr0.out, hi]; simp only [if_pos hf])
        have hdo := hdo ⟨by show 1 < 3; omega, fun h => (by cases h), fun _ => (by show q.toNat ≤ ((lookL R.files s).getD []).length; rw [hi, Option.getD_some]; omega), hs, Nat.zero_le _⟩
        rw [hpn] at hf
        obtain ⟨hf1, hf2⟩ := hf
        have hqn := Lib.hid (show ((q.toNat : Nat) : Int) = q by omega)
        simp only [hqn.out] at hdo
        clear hi hk hL hy hpn
        go_wp2_with fail
        refine hdo.mono ?_
        rintro e w4 ⟨rfl, hD3, hc3⟩
        go_wp2_with fail
        go_ret
        exact ⟨by rw [hA.out]; rfl, by rw [hA.out]; exact hD3, hch.trans hc3⟩
      · have hA := Lib.hid (show R.truncate s q = (1, R) by unfold Rt.truncate; rw [if_pos hr0.out, hi]; simp only [if_neg hf])
        rw [hpn] at hf
        rcases (show q < 0 ∨ (0 ≤ q ∧ (np : Int) < q) by omega) with hq | ⟨hq, hq'⟩
        all_goals
          clear hi hk hL hy hpn hf
          go_wp2_with fail
          go_ret
          exact ⟨by rw [hA.out]; rfl, by rw [hA.out]; exact hD2.more (by omega), hch⟩
set_option maxRecDepth 100000 in
theorem refremove_any (s : ByteArray) (hD : RefAt z w g c R) (hz : z.z < w.heap.size) (hc : c ≤ 100000) :
    Calls Try.prog 49 #[.pointer (some ⟨g, 0, none⟩), .string s] w (RTold z g (c + 1) w (R.remove s)) := by
  have hD' := hD
  obtain ⟨A, n, cp, ys, Bd, md, cq, left, xs, hI⟩ := hD'
  go_enter Try.func49, Try.ntmps49
  go_wp2_with fail
  refine (refready_any s hI.b).mono ?_
  rintro e w1 ⟨rfl, rfl⟩
  rw [hI.down]
  rcases rready_cases R s with hr | hr | ⟨hr, hs, h0⟩
  · have hA := Lib.hid (show R.remove s = (1, R) by unfold Rt.remove; rw [if_neg (by omega), hr])
    unfold Rt.ready at hr
    rw [hr]
    go_wp2_with fail
    go_ret
    exact ⟨by rw [hA.out]; rfl, by rw [hA.out]; exact hI.get.more (by omega), Chg.refl _ _ _⟩
  · have hA := Lib.hid (show R.remove s = (30, R) by unfold Rt.remove; rw [if_neg (by omega), hr])
    unfold Rt.ready at hr
    rw [hr]
    go_wp2_with fail
    go_ret
    exact ⟨by rw [hA.out]; rfl, by rw [hA.out]; exact hI.get.more (by omega), Chg.refl _ _ _⟩
  · have hr0 := hr
    unfold Rt.ready at hr
    rw [hr]
    have hr0 := Lib.hid hr0
    have h0 := Lib.hid h0
    go_wp2_with fail
    refine (files_any hD hz hc).mono ?_
    rintro e w2 ⟨⟨A2, n2, c2, ys2, rfl, hF⟩, hb2⟩
    have hn2 := filesV_n hF hI.c
    go_wp2_with fail
    refine (find_any s hF (by omega)).mono ?_
    rintro e w3 ⟨⟨i, rfl, hi⟩, rfl⟩
    have hD2 := hD.below hb2
    have hz2 := hb2.size
    have hch : Chg z.b TR w w2 := Chg.of_below hb2
    have hdo := refdo_any z g c R ⟨2, s, [], 0⟩ (.slice none 0 0) w2 hD2 ((BytesV.nil z.z _).rds z) (Nat.zero_le _) (by omega) ⟨by show 2 < 3; omega, fun h => (by cases h), fun h => (by cases h), hs, Nat.zero_le _⟩ h0.out hc
    unfold rdV at hdo
    rcases hi with ⟨rfl, hi⟩ | ⟨k, dt, rfl, hk, hi⟩
    · have hA := Lib.hid (show R.remove s = (31, R) by unfold Rt.remove; rw [if_pos hr0.out, hi])
      clear hi
      go_wp2_with fail
      go_ret
      exact ⟨by rw [hA.out]; rfl, by rw [hA.out]; exact hD2.more (by omega), hch⟩
    · have hA := Lib.hid (show R.remove s = (0, R.put ⟨2, s, [], 0⟩) by unfold Rt.remove; rw [if_pos hr0.out, hi])
      clear hi hk
      go_wp2_with fail
      refine hdo.mono ?_
      rintro e w4 ⟨rfl, hD3, hc3⟩
      go_wp2_with fail
      go_ret
      exact ⟨by rw [hA.out]; rfl, by rw [hA.out]; exact hD3, hch.trans hc3⟩
set_option maxRecDepth 100000 in
theorem refread_any (s : ByteArray) (hD : RefAt z w g c R) (hz : z.z < w.heap.size) (hc : c ≤ 100000) :
    Calls Try.prog 51 #[.pointer (some ⟨g, 0, none⟩), .string s] w fun e w' => (∃ A' n' c', e = .returned (.tuple #[.slice A' n' c', .int .i64 (R.read s).2]) ∧ BytesV z w' (.slice A' n' c') (R.read s).1 ∧ n' ≤ 1048576) ∧ Below w.heap.size w w' := by
  have hD' := hD
  obtain ⟨A, n, cp, ys, Bd, md, cq, left, xs, hI⟩ := hD'
  go_enter Try.func51, Try.ntmps51
  go_wp2_with fail
  refine (refready_any s hI.b).mono ?_
  rintro e w1 ⟨rfl, rfl⟩
  rw [hI.down]
  rcases rready_cases R s with hr | hr | ⟨hr, hs, h0⟩
  · have hA := Lib.hid (show R.read s = ([], 1) by unfold Rt.read; rw [if_neg (by omega), hr])
    unfold Rt.ready at hr
    rw [hr]
    go_wp2_with fail
    refine bodyPost_ret (v := .tuple #[.slice none 0 0, .int .i64 1]) (by simp [results, Try.results51, go_sem]) rfl ?_
    exact ⟨⟨none, 0, 0, by rw [hA.out]; rfl, by rw [hA.out]; exact BytesV.nil _ _, by omega⟩, Below.refl _ _⟩
  · have hA := Lib.hid (show R.read s = ([], 30) by unfold Rt.read; rw [if_neg (by omega), hr])
    unfold Rt.ready at hr
    rw [hr]
    go_wp2_with fail
    refine bodyPost_ret (v := .tuple #[.slice none 0 0, .int .i64 30]) (by simp [results, Try.results51, go_sem]) rfl ?_
    exact ⟨⟨none, 0, 0, by rw [hA.out]; rfl, by rw [hA.out]; exact BytesV.nil _ _, by omega⟩, Below.refl _ _⟩
  · have hr0 := hr
    unfold Rt.ready at hr
    rw [hr]
    have hr0 := Lib.hid hr0
    clear h0
    go_wp2_with fail
    refine (files_any hD hz hc).mono ?_
    rintro e w2 ⟨⟨A2, n2, c2, ys2, rfl, hF⟩, hb2⟩
    have hn2 := filesV_n hF hI.c
    go_wp2_with fail
    refine (find_any s hF (by omega)).mono ?_
    rintro e w3 ⟨⟨i, rfl, hi⟩, rfl⟩
    rcases hi with ⟨rfl, hi⟩ | ⟨k, dt, rfl, hk, hi⟩
    · have hA := Lib.hid (show R.read s = ([], 31) by unfold Rt.read; rw [if_pos hr0.out, hi])
      clear hi
      go_wp2_with fail
      refine bodyPost_ret (v := .tuple #[.slice none 0 0, .int .i64 31]) (by simp [results, Try.results51, go_sem]) rfl ?_
      exact ⟨⟨none, 0, 0, by rw [hA.out]; rfl, by rw [hA.out]; exact BytesV.nil _ _, by omega⟩, hb2⟩
    · have hkn : k < n2 := by have := (List.getElem?_eq_some_iff.1 hk).1; have := hF.len; omega
      obtain ⟨gf, ⟨pv, pn, pd⟩, rfl, hgf, hy, hL, c0, c1, hpv, hpl⟩ := hF.at_ hkn
      have hp : pd = dt := by rw [hk] at hL; injection hL with hL; exact (congrArg Prod.snd hL).symm
      subst hp
      simp only [] at hpv hpl c1
      obtain ⟨Ap, np, cp, rfl, _⟩ := id hpv
      have hpn := hpv.len
      have hA := Lib.hid (show R.read s = (pd, 0) by unfold Rt.read; rw [if_pos hr0.out, hi])
      rw [hpn] at hpl
      clear hi hk hL hy hpn
      go_wp2_with fail
      refine bodyPost_ret (v := .tuple #[.slice Ap np cp, .int .i64 0]) (by simp [results, Try.results51, go_sem]) rfl ?_
      exact ⟨⟨Ap, np, cp, by rw [hA.out]; rfl, by rw [hA.out]; exact hpv, hpl⟩, hb2⟩
end
end Go.Proofs.Ytkgcccllabofoaa
