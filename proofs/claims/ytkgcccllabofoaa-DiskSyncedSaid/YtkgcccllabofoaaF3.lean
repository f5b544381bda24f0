/-
  The law: like; the deeds handed in.
-/
import Derived.Test.YtkgcccllabofoaaF2
namespace Go.Proofs.Ytkgcccllabofoaa
open Go.RowKit Go.Maps

def ldC (ys : List (Value × Ld)) : List Value := ys.flatMap fun p => [.int .i64 p.2.kind, .string p.2.name, p.1, .int .i64 p.2.n, .int .i64 p.2.torn]
theorem ldC_len (ys : List (Value × Ld)) : (ldC ys).length = 5 * ys.length := by
  unfold ldC
  induction ys with
  | nil => rfl
  | cons a l ih => simp [ih]; omega
theorem ldC_at (ys : List (Value × Ld)) (i : Nat) (p : Value × Ld) (h : ys[i]? = some p) : (ldC ys)[i * 5]? = some (.int .i64 p.2.kind) ∧ (ldC ys)[i * 5 + 1]? = some (.string p.2.name) ∧ (ldC ys)[i * 5 + 2]? = some p.1 ∧ (ldC ys)[i * 5 + 3]? = some (.int .i64 p.2.n) ∧ (ldC ys)[i * 5 + 4]? = some (.int .i64 p.2.torn) := by
  induction ys generalizing i with
  | nil => simp at h
  | cons a l ih =>
    cases i with
    | zero =>
      simp only [List.getElem?_cons_zero, Option.some.injEq] at h
      subst h
      exact ⟨rfl, rfl, rfl, rfl, rfl⟩
    | succ i =>
      simp only [List.getElem?_cons_succ] at h
      have e : ldC (a :: l) = .int .i64 a.2.kind :: .string a.2.name :: a.1 :: .int .i64 a.2.n :: .int .i64 a.2.torn :: ldC l := rfl
      have := ih i h
      rw [e, show (i + 1) * 5 = i * 5 + 1 + 1 + 1 + 1 + 1 by omega, show (i * 5 + 1 + 1 + 1 + 1 + 1) + 1 = (i * 5 + 1) + 1 + 1 + 1 + 1 + 1 by omega, show (i * 5 + 1 + 1 + 1 + 1 + 1) + 2 = (i * 5 + 2) + 1 + 1 + 1 + 1 + 1 by omega, show (i * 5 + 1 + 1 + 1 + 1 + 1) + 3 = (i * 5 + 3) + 1 + 1 + 1 + 1 + 1 by omega, show (i * 5 + 1 + 1 + 1 + 1 + 1) + 4 = (i * 5 + 4) + 1 + 1 + 1 + 1 + 1 by omega]
      simp only [List.getElem?_cons_succ]
      exact this
/-- the deeds handed in -/
structure LdsV (z : Zb) (w : World) (A : Option Addr) (n : Nat) (ys : List (Value × Ld)) : Prop where
  r : Rds w 5 A n (ldC ys)
  b : ∀ ad, A = some ad → 0 < n → ad.block < z.b
  v : ∀ p ∈ ys, RdL z w p.1 p.2.data ∧ p.2.Ok
section
variable {z : Zb} {w w' : World} {A : Option Addr} {n : Nat} {ys : List (Value × Ld)}
theorem LdsV.len (h : LdsV z w A n ys) : ys.length = n := by
  have := h.r.1
  rw [ldC_len] at this
  omega
theorem LdsV.kept (h : LdsV z w A n ys) (hc : ∀ j o, w.heap[j]? = some o → j < z.b → w'.heap[j]? = some o) : LdsV z w' A n ys :=
  ⟨⟨h.r.1, fun hn => by
    obtain ⟨ad, e, hcl⟩ := h.r.2 hn
    refine ⟨ad, e, fun j u hu => ?_⟩
    have h1 := hcl j u hu
    have hlt := lt_of_cell h1
    rw [← h1]
    refine World.cell?_of_block ?_
    have ho : w.heap[(ad.add j).block]? = some (w.heap[(ad.add j).block]) := Array.getElem?_eq_getElem hlt
    rw [ho]
    refine hc _ _ ho ?_
    rw [block_of_add]
    exact h.b ad e hn⟩, h.b, fun p hp => ⟨(h.v p hp).1.kept hc, (h.v p hp).2⟩⟩
theorem LdsV.chg {T : Obj → Bool} (h : LdsV z w A n ys) (hc : Chg z.b T w w') (_ : ∀ cs fz, T (.cells cs 5 fz) = false) : LdsV z w' A n ys := h.kept fun j o hj hlt => hc.block j o hj (.inl hlt)
theorem LdsV.below (h : LdsV z w A n ys) (hb : Below z.b w w') : LdsV z w' A n ys := h.kept fun j _ hj hlt => (hb.block j hlt).trans hj
theorem LdsV.at_ (h : LdsV z w A n ys) {i : Nat} (hi : i < n) :
    ∃ ad X x, A = some ad ∧ ys[i]? = some (X, x) ∧ RdS z w X x.data ∧ x.Ok ∧ w.cell? (ad.add (i * 5)) = some (.int .i64 x.kind) ∧ w.cell? ⟨(ad.add (i * 5)).block, (ad.add (i * 5)).off + 1, none⟩ = some (.string x.name) ∧
      w.cell? ⟨(ad.add (i * 5)).block, (ad.add (i * 5)).off + 2, none⟩ = some X ∧ w.cell? ⟨(ad.add (i * 5)).block, (ad.add (i * 5)).off + 3, none⟩ = some (.int .i64 x.n) ∧ w.cell? ⟨(ad.add (i * 5)).block, (ad.add (i * 5)).off + 4, none⟩ = some (.int .i64 x.torn) := by
  obtain ⟨ad, e, hc⟩ := h.r.2 (by omega)
  have hil : i < ys.length := by rw [h.len]; exact hi
  have hy : ys[i]? = some (ys[i]'hil) := List.getElem?_eq_getElem hil
  obtain ⟨h0, h1, h2, h3, h4⟩ := ldC_at ys i _ hy
  have hv := h.v _ (List.mem_of_getElem? hy)
  exact ⟨ad, _, _, e, hy, hv.1.rds, hv.2, hc _ _ h0, (congrArg w.cell? (add_of_add ad (i * 5) 1)).trans (hc _ _ h1), (congrArg w.cell? (add_of_add ad (i * 5) 2)).trans (hc _ _ h2), (congrArg w.cell? (add_of_add ad (i * 5) 3)).trans (hc _ _ h3), (congrArg w.cell? (add_of_add ad (i * 5) 4)).trans (hc _ _ h4)⟩
end
theorem TB_u8 (cs : Array Value) (fz : Nat × Nat) : TB (.cells cs 5 fz) = false := rfl
theorem names_eq {R : Rt} (h : srt (nms R.last)) {names : List ByteArray} (hs : srt names) (hm : ∀ s, s ∈ names ↔ R.st.files s ≠ none) : names = nms R.files :=
  srt_eq hs (look_all R.last h R.done).2 fun s => by
    rw [hm, st_files h]
    constructor
    · intro h1
      rcases Classical.em (s ∈ nms R.files) with h2 | h2
      · exact h2
      · exact absurd (lookL_none.2 h2) h1
    · intro h1 h2
      exact lookL_none.1 h2 h1
def lq (R : Rt) : Int := if R.fuse = some 0 then 30 else 0
def ll (R : Rt) : List ByteArray := if R.fuse = some 0 then [] else nms R.files
theorem list_u {z : Zb} {gd gr c : Nat} {w : World} {R : Rt} (hP : Pair z w gd gr c R) (hc : c ≤ 100000) :
    Calls Try.prog 32 #[.pointer (some ⟨gd, 0, none⟩)] w fun e w' => ∃ A n cc, e = .returned (.tuple #[.slice A n cc, .int .i64 (lq R)]) ∧ w'.ownsRow w.heap.size 9 1 (.slice A n cc) n ((ll R).map vst) ∧ n ≤ c ∧ Below w.heap.size w w' := by
  have hlist := list_any hP.d hc
  unfold lq ll
  by_cases h0 : R.fuse = some 0
  · have h0' : R.st.fuse = some 0 := h0
    simp only [h0', if_true] at hlist
    refine hlist.mono ?_
    rintro e w1 ⟨rfl, hb1⟩
    simp only [h0, if_true]
    exact ⟨none, 0, 0, rfl, own_nil _ _, Nat.zero_le _, hb1⟩
  · have h0' : ¬ R.st.fuse = some 0 := h0
    simp only [h0', if_false] at hlist
    refine hlist.mono ?_
    rintro e w1 ⟨⟨A, n, cc, names, rfl, hown, hs, hn, hm⟩, hb1⟩
    simp only [h0, if_false]
    rw [names_eq hP.s hs hm] at hown
    exact ⟨A, n, cc, rfl, hown, hn, hb1⟩
theorem reflist_u {z : Zb} {gd gr c : Nat} {w : World} {R : Rt} (hP : Pair z w gd gr c R) (hc : c ≤ 100000) :
    Calls Try.prog 53 #[.pointer (some ⟨gr, 0, none⟩)] w fun e w' => ∃ A n cc, e = .returned (.tuple #[.slice A n cc, .int .i64 (lq R)]) ∧ w'.ownsRow w.heap.size 9 1 (.slice A n cc) n ((ll R).map vst) ∧ Below w.heap.size w w' := by
  refine (reflist_any hP.r hP.zl hc).mono ?_
  unfold lq ll
  rintro e w2 ⟨⟨h0, rfl⟩ | ⟨h0, A, n, cc, rfl, hn, hown⟩, hb2⟩
  · simp only [h0, if_true]
    exact ⟨none, 0, 0, rfl, own_nil _ _, hb2⟩
  · simp only [h0, if_false]
    exact ⟨A, n, cc, rfl, hown, hb2⟩
set_option maxRecDepth 100000 in
set_option maxHeartbeats 2000000 in
theorem like_any {z : Zb} {gd gr c : Nat} {w : World} {R : Rt} (hP : Pair z w gd gr c R) (hc : c ≤ 100000) :
    Calls Try.prog 27 #[.pointer (some ⟨gd, 0, none⟩), .pointer (some ⟨gr, 0, none⟩)] w fun e w' => e = .returned (.bool true) ∧ Below w.heap.size w w' := by
  go_enter Try.func27, Try.ntmps27
  go_wp2_with fail
  refine (list_u hP hc).mono ?_
  rintro e w1 ⟨A, n, c1, rfl, hown1, hnc, hb1⟩
  have hP1 := hP.below hb1
  have hcall := reflist_u hP1 hc
  generalize lq R = q0 at *
  generalize ll R = l0 at *
  go_wp2_with fail
  refine hcall.mono ?_
  rintro e w2 ⟨B, n', c2, rfl, hown2, hb2⟩
  obtain rfl : n' = n := by
    have h1 := hown1.1
    have h2 := hown2.1
    simp at h1 h2
    omega
  have hP2 := hP1.below hb2
  have hr1 : RdN w2 A n' l0 := (Rds.of_own hown1).below hb2
  have hr2 : RdN w2 B n' l0 := Rds.of_own hown2
  go_wp2_with fail
  refine (sameN_any hr1 hr2 (by omega)).mono ?_
  rintro e w3 ⟨rfl, q, rfl⟩
  have hb3 : Below w2.heap.size w2 (w2.drewN q) := below_drewN (Below.refl _ _) q
  have hP3 := hP2.below hb3
  have hr3 := hr2.below hb3
  have hb13 := below_then (below_then hb1 hb2 (Nat.le_refl _)) hb3 (by have := hb1.size; have := hb2.size; omega)
  generalize w2.drewN q = w3 at *
  obtain ⟨An, nn, cp, ys, Bd, m, cq, left, xs, hI⟩ := id hP3.r
  have r1 := hI.b.cell 1
  simp only [rfCells, List.getElem?_toArray, List.getElem?_cons_zero, List.getElem?_cons_succ] at r1
  have hmd := Lib.hid hI.len.1
  have kr := keep_cell (gs := [gr]) r1 (by simp)
  have hP3d := hP3.below ((Below.refl w3.heap.size w3).drew)
  have hpend := pending_any hP3d.d
  rw [show R.st.done.length = m from hmd.out.symm] at hpend
  go_wp2_with fail
  refine wp_region_mix (C := keepW [gr] w3) [([0, 1, 2, 3, 4, 5, 6, 7, 8, 10, 11, 12, 13, 14], 9)] [15, 16] (by kernel_rfl) (by kernel_rfl) (fun _ _ _ _ e h => ⟨e.symm.trans h.1, h.2⟩) keepW_refl ?_
  refine wpSegs_step fun K1 hK1 => ?_
  simp only [pickL, List.getElem?_cons_zero, List.getElem?_cons_succ]
  repeat (go_big_quiet_step (fail))
  refine wpQuiet_nil ?_
  go_wp2_with fail
  refine hpend.mono ?_
  rintro e w4 ⟨rfl, rfl⟩
  go_wp2_with fail
  refine ⟨keepW_of (fun _ _ => rfl), hK1 _ _ ?_⟩
  refine wpSegs_last ?_
  simp only [pickL, List.getElem?_cons_zero, List.getElem?_cons_succ]
  repeat (go_big_quiet_step (fail))
  refine wpQuiet_nil ?_
  go_wp2_with fail
  have hr4 := hr3.below ((Below.refl w3.heap.size w3).drew)
  have hb14 := hb13.trans (((Below.refl w3.heap.size w3).drew).mono hb13.size)
  generalize w3.drew = w4 at *
  clear hI hP hP1 hP2 hP3 hr1 hr2 hr3 hb1 hb2 hb3 hb13 hown1 hown2 hcall hpend r1 kr
  go_loopw [10] (fun i wr => ∃ k : Nat, k ≤ n' ∧ i = .int .i64 k ∧ Below w4.heap.size w4 wr) (fun i _ => n' - (intOf i).toNat)
  case atStart => exact ⟨0, Nat.zero_le _, rfl, Below.refl _ _⟩
  case round =>
    obtain ⟨k, hk, rfl, hb⟩ := hrel
    have hPw := hP3d.below hb
    have hrw := hr4.below hb
    by_cases hlt : k < n'
    · obtain ⟨ad, s, rfl, hs, cs⟩ := hrw.at_ hlt
      obtain ⟨⟨l, qc⟩, hr⟩ : ∃ r, R.read s = r := ⟨_, rfl⟩
      have hcall := read_any s hPw.d
      rw [st_read hPw.s, hr] at hcall
      have hs := Lib.hid hs
      go_wp2_with fail
      refine hcall.mono ?_
      rintro e w5 ⟨A5, n5, c5, rfl, hown5, hn5, hb5⟩
      have hP5 := hPw.below hb5
      have hrcall := refread_any s hP5.r hP5.zl hc
      rw [hr] at hrcall
      obtain ⟨ad', s', e1, hs', cs'⟩ := (hrw.below hb5).at_ hlt
      injection e1 with e1
      subst e1
      rw [hs.out] at hs'
      injection hs' with hs'
      subst hs'
      go_wp2_with fail
      refine hrcall.mono ?_
      rintro e w6 ⟨⟨A6, n6, c6, rfl, hv6, hn6⟩, hb6⟩
      have h45 : n6 = n5 := by
        have h1 := hown5.1
        have h2 := hv6.len
        simp at h1
        omega
      subst h45
      go_wp2_with fail
      refine (sameB_any ((Rd.of_own hown5).below hb6) hv6.get.1 (by omega)).mono ?_
      rintro e w7 ⟨rfl, qq, rfl⟩
      have hb7 : Below w6.heap.size w6 (w6.drewN qq) := below_drewN (Below.refl _ _) _
      have hbz := below_then (below_then (below_then hb hb5 (Nat.le_refl _)) hb6 (Nat.le_refl _)) hb7 (Nat.le_refl _)
      go_wp2_with fail
      go_roundw
      case rel => exact ⟨k + 1, hlt, by go_num, hbz⟩
      case measure => simp [intOf]; omega
    · go_wp2_with fail
      go_ret
      exact ⟨rfl, hb14.trans (hb.mono hb14.size)⟩
end Go.Proofs.Ytkgcccllabofoaa
