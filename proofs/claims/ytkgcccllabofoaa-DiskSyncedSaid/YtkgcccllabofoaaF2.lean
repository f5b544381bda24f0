/-
  The law: a deed done to both.
-/
import Derived.Test.YtkgcccllabofoaaF1
namespace Go.Proofs.Ytkgcccllabofoaa
open Go.RowKit Go.Maps

def TB : Obj → Bool := fun o => TP o || TR o
theorem TP_not_TR {o : Obj} (h : TP o = true) : TR o = false := by
  cases o <;> simp [TP] at h <;> simp [TR]
  rcases h with h | h <;> subst h <;> decide
theorem TR_not_TP {o : Obj} (h : TR o = true) : TP o = false := by
  cases o <;> simp [TR] at h <;> simp [TP]
  rcases h with h | h <;> subst h <;> decide
theorem Chg.P {base : Nat} {w w' : World} (h : Chg base TP w w') : Chg base TB w w' := ⟨h.os, h.tape, h.output, h.size, fun j o hj ho => h.block j o hj (ho.imp id fun h => by unfold TB at h; simp at h; exact h.1)⟩
theorem Chg.R {base : Nat} {w w' : World} (h : Chg base TR w w') : Chg base TB w w' := ⟨h.os, h.tape, h.output, h.size, fun j o hj ho => h.block j o hj (ho.imp id fun h => by unfold TB at h; simp at h; exact h.2)⟩
theorem DiskAt.chgR {base : Nat} {z : Zb} {g c : Nat} {w w' : World} {S : St} (h : DiskAt z w g c S) (hc : Chg base TR w w') : DiskAt z w' g c S :=
  h.kept fun j o hj ho => hc.block j o hj (.inr (by
    rcases ho with ho | ⟨_, cs, fz, rfl⟩
    · exact TP_not_TR ho
    · rfl))
theorem RefAt.chgP {base : Nat} {z : Zb} {g c : Nat} {w w' : World} {R : Rt} (h : RefAt z w g c R) (hc : Chg base TP w w') : RefAt z w' g c R :=
  h.kept fun j o hj ho => hc.block j o hj (.inr (by
    rcases ho with ho | ⟨cs, rfl⟩ | ⟨_, cs, fz, rfl⟩
    · exact TR_not_TP ho
    · rfl
    · rfl))
/-- both disks, alike -/
structure Pair (z : Zb) (w : World) (gd gr c : Nat) (R : Rt) : Prop where
  d : DiskAt z w gd c R.st
  r : RefAt z w gr c R
  s : srt (nms R.last)
  zl : z.z < w.heap.size
  bl : z.b ≤ w.heap.size
section
variable {z : Zb} {gd gr c : Nat} {w w' : World} {R : Rt}
theorem Pair.below (h : Pair z w gd gr c R) (hb : Below w.heap.size w w') : Pair z w' gd gr c R := ⟨h.d.below hb, h.r.below hb, h.s, by have := h.zl; have := hb.size; omega, by have := h.bl; have := hb.size; omega⟩
theorem Pair.more (h : Pair z w gd gr c R) {c' : Nat} (hc : c ≤ c') : Pair z w gd gr c' R := ⟨h.d.more hc, h.r.more hc, h.s, h.zl, h.bl⟩
theorem RefAt.srt {g : Nat} (h : RefAt z w g c R) : srt (nms R.last) := by
  obtain ⟨A, n, cp, ys, B, m, cq, left, xs, h⟩ := h
  exact h.s
theorem st_files (h : srt (nms R.last)) : R.st.files = lookL R.files := (look_all R.last h R.done).1.symm
theorem st_append (h : srt (nms R.last)) (s : ByteArray) (l : List UInt8) : R.st.append s l = ((R.append s l).1, (R.append s l).2.st) := by
  unfold St.append Rt.append
  rw [st_files h]
  show (if R.ready s = 0 then _ else (R.ready s, R.st)) = _
  split
  · split <;> rfl
  · rfl
theorem st_truncate (h : srt (nms R.last)) (s : ByteArray) (n : Int) : R.st.truncate s n = ((R.truncate s n).1, (R.truncate s n).2.st) := by
  unfold St.truncate Rt.truncate
  rw [st_files h]
  show (if R.ready s = 0 then _ else (R.ready s, R.st)) = _
  split
  · cases lookL R.files s with
    | none => rfl
    | some b => simp only []; split <;> rfl
  · rfl
theorem st_remove (h : srt (nms R.last)) (s : ByteArray) : R.st.remove s = ((R.remove s).1, (R.remove s).2.st) := by
  unfold St.remove Rt.remove
  rw [st_files h]
  show (if R.ready s = 0 then _ else (R.ready s, R.st)) = _
  split
  · cases lookL R.files s <;> rfl
  · rfl
theorem st_read (h : srt (nms R.last)) (s : ByteArray) : R.st.read s = R.read s := by
  unfold St.read Rt.read
  rw [st_files h]
  rfl
theorem st_sync (h : srt (nms R.last)) : R.st.sync = (R.sync.1, R.sync.2.st) := by
  unfold St.sync Rt.sync
  rw [st_files h]
  show (if R.fuse = some 0 then _ else _) = _
  split <;> rfl
theorem st_fuse (n : Int) : R.st.setFuse n = ((R.setFuse n).1, (R.setFuse n).2.st) := by
  unfold St.setFuse Rt.setFuse
  split <;> rfl
theorem st_crash (h : srt (nms R.last)) (keep torn : Int) : R.st.crash keep torn = (R.crash keep torn).st := by
  unfold St.crash Rt.crash Rt.st
  rw [(crashL_ok R keep torn h).1]
  rfl
end
/-- a deed of the law -/
structure Ld where
  kind : Int
  name : ByteArray
  data : List UInt8
  n : Int
  torn : Int
structure Ld.Ok (x : Ld) : Prop where
  k1 : -9223372036854775808 ≤ x.kind
  k2 : x.kind ≤ 9223372036854775807
  n1 : -9223372036854775808 ≤ x.n
  n2 : x.n ≤ 9223372036854775807
  t1 : -9223372036854775808 ≤ x.torn
  t2 : x.torn ≤ 9223372036854775807
def ldV (x : Ld) (X : Value) : Value := .agg #[.int .i64 x.kind, .string x.name, X, .int .i64 x.n, .int .i64 x.torn]
/-- a deed done by the answer -/
def Rt.stepK (R : Rt) (x : Ld) (k : Nat) : Rt :=
  match k with
  | 0 => (R.append x.name (x.data.take 200)).2
  | 1 => (R.truncate x.name x.n).2
  | 2 => (R.remove x.name).2
  | 3 => R.sync.2
  | 4 => R
  | 5 => (R.setFuse x.n).2
  | _ => R.crash x.n x.torn
def Rt.step (R : Rt) (x : Ld) : Rt := R.stepK x (restF x.kind 7)
set_option maxRecDepth 100000 in
theorem lawdoes_any {z : Zb} {gd gr c : Nat} {w : World} {R : Rt} (x : Ld) (X : Value) (hx : x.Ok) (hP : Pair z w gd gr c R) (hX : RdS z w X x.data) (hc : c ≤ 99999) :
    Calls Try.prog 26 #[.pointer (some ⟨gd, 0, none⟩), .pointer (some ⟨gr, 0, none⟩), ldV x X] w fun e w' => e = .returned (.bool true) ∧ Pair z w' gd gr (c + 1) (R.step x) ∧ Chg z.b TB w w' := by
  obtain ⟨B, m, d, rfl, _⟩ := id hX
  have hbd := hX.get.2
  have hmd := hbd.1
  have hbA : Below w.heap.size w (w.alloc (.cells #[.int .i64 x.kind, .string x.name, .slice B m d, .int .i64 x.n, .int .i64 x.torn] 42)) := (Below.refl _ _).alloc (Nat.le_refl _) _
  have hbx := Blk.new w 42 #[.int .i64 x.kind, .string x.name, .slice B m d, .int .i64 x.n, .int .i64 x.torn]
  have x0 := hbx.cell 0
  have x2 := hbx.cell 2
  have f2 := hbx.free 2
  simp only [List.getElem?_toArray, List.getElem?_cons_zero, List.getElem?_cons_succ] at x0 x2
  have hlt := restF_lt x.kind (m := 7) (by omega)
  have hP1 := hP.below hbA
  have hX1 := hX.below hbA
  have hs1 : (w.alloc (.cells #[.int .i64 x.kind, .string x.name, .slice B m d, .int .i64 x.n, .int .i64 x.torn] 42)).heap.size = w.heap.size + 1 := by simp
  unfold ldV
  go_enter Try.func26, Try.ntmps26
  go_wp2_with fail
  generalize w.alloc (.cells #[.int .i64 x.kind, .string x.name, .slice B m d, .int .i64 x.n, .int .i64 x.torn] 42) = w1 at *
  refine (few_any B m d w1 hmd).mono ?_
  rintro e w2 ⟨rfl, rfl⟩
  have hbB : Below w.heap.size w (w1.setCell ⟨w.heap.size, 2, none⟩ (.slice B (min m 200) d)) := hbA.setCell (Nat.le_refl _) _
  have hP2 := hP.below hbB
  have hchB : Chg z.b TB w _ := Chg.of_below hbB
  have hX2 := (hX.below hbB).cut (Nat.min_le_left m 200)
  have hbx2 := hbx.set_ 2 (.slice B (min m 200) d)
  have hlen := hX.len
  rw [show x.data.take (min m 200) = x.data.take 200 by
    rcases Nat.le_total m 200 with h | h
    · rw [Nat.min_eq_left h, List.take_of_length_le (by omega), List.take_of_length_le (by omega)]
    · rw [Nat.min_eq_right h]] at hX2
  have y0 := hbx2.cell 0
  have y1 := hbx2.cell 1
  have y2 := hbx2.cell 2
  have y3 := hbx2.cell 3
  have y4 := hbx2.cell 4
  simp only [List.getElem?_toArray, List.getElem?_cons_zero, List.getElem?_cons_succ, List.setIfInBounds_toArray, List.set_cons_zero, List.set_cons_succ] at y0 y1 y2 y3 y4
  have hmn : min m 200 ≤ 200 := Nat.min_le_right _ _
  generalize hgx0 : w.heap.size = gx at *
  go_upto_region 2 with fail
  generalize w1.setCell ⟨gx, 2, none⟩ (.slice B (min m 200) d) = w2 at *
  generalize min m 200 = m2 at *
  clear x0 x2 f2 hP1 hX1 hbA hbx hlen
  go_wp2_with fail
  refine (pick_any x.kind 7 w2 hx.k1 hx.k2 (by omega) (by omega)).mono ?_
  rintro e w3 ⟨rfl, rfl⟩
  have hstep : R.step x = R.stepK x (restF x.kind 7) := rfl
  generalize restF x.kind 7 = t at *
  have hstep := Lib.hid hstep
  have hz2 := hP2.zl
  have hz3 := hP2.bl
  have k1 := keep_cell (gs := [gx]) y1 (by simp)
  have k2 := keep_cell (gs := [gx]) y2 (by simp)
  have k3 := keep_cell (gs := [gx]) y3 (by simp)
  have hd : ∀ (w' : World) {T : Obj → Bool}, T (.cells #[.int .i64 x.kind, .string x.name, .slice B m2 d, .int .i64 x.n, .int .i64 x.torn] 42 (0, 0)) = false → Chg z.b T w2 w' → w'.heap[gx]? = w2.heap[gx]? := fun w' T hT hch => by
    have := hbx2
    unfold Blk at this
    rw [this]
    exact hch.block gx _ this (.inr hT)
  have hPd := hP2.below ((Below.refl w2.heap.size w2).drew)
  have hXd := hX2.below ((Below.refl w2.heap.size w2).drew)
  rcases (show t = 0 ∨ t = 1 ∨ t = 2 ∨ t = 3 ∨ t = 4 ∨ t = 5 ∨ t = 6 by omega) with rfl | rfl | rfl | rfl | rfl | rfl | rfl
  · obtain ⟨⟨q, R4⟩, hr⟩ : ∃ r, R.append x.name (x.data.take 200) = r := ⟨_, rfl⟩
    have hst : R.step x = R4 := by rw [hstep.out]; show (R.append x.name (x.data.take 200)).2 = R4; rw [hr]
    have hst := Lib.hid hst
    have hcall := append_any x.name B m2 d _ hPd.d hPd.zl (by omega) hXd.get.1 (by omega)
    rw [st_append hP2.s, hr] at hcall
    go_wp2_with fail
    refine wp_region_mix (C := keepW [gx] w2) [([0, 1, 2, 3, 4, 6, 7, 8, 9, 10], 5), ([], 11)] [12, 13] (by kernel_rfl) (by kernel_rfl) (fun _ _ _ _ e h => ⟨e.symm.trans h.1, h.2⟩) keepW_refl ?_
    refine wpSegs_step fun K1 hK1 => ?_
    simp only [pickL, List.getElem?_cons_zero, List.getElem?_cons_succ]
    repeat (go_big_quiet_step (fail))
    refine wpQuiet_nil ?_
    go_wp2_with fail
    refine hcall.mono ?_
    rintro e w4 ⟨rfl, hD4, hc4⟩
    have hc4 : Chg z.b TP w2 w4 := (Chg.of_below ((Below.refl w2.heap.size w2).drew)).trans hc4
    have hr4 := hP2.r.chgP hc4
    have hz4 := hc4.size
    have hrcall := refappend_any x.name B m2 d (x.data.take 200) hr4 (by omega) (by omega) (hX2.chg hc4 TP_u8) (by omega)
    rw [hr] at hrcall
    go_wp2_with fail
    refine ⟨keepW_of (by simp; exact hd _ rfl hc4), hK1 _ _ ?_⟩
    refine wpSegs_step fun K2 hK2 => ?_
    simp only [pickL, List.getElem?_cons_zero, List.getElem?_cons_succ]
    repeat (go_big_quiet_step (fail))
    refine wpQuiet_nil ?_
    go_wp2_with fail
    refine hrcall.mono ?_
    rintro e w5 ⟨rfl, hD5, hc5⟩
    go_wp2_with fail
    refine ⟨keepW_of (by simp; exact hd _ rfl (hc4.P.trans hc5.R)), hK2 _ _ ?_⟩
    refine wpSegs_last ?_
    simp only [pickL, List.getElem?_cons_zero, List.getElem?_cons_succ]
    repeat (go_big_quiet_step (fail))
    refine wpQuiet_nil ?_
    go_wp2_with fail
    go_ret
    exact ⟨rfl, ⟨by rw [hst.out]; exact (hD4.chgR hc5).more (by omega), by rw [hst.out]; exact hD5.more (by omega), by rw [hst.out]; exact hD5.srt, by have := hc5.size; omega, by have := hc5.size; omega⟩, hchB.trans (hc4.P.trans hc5.R)⟩
  · obtain ⟨⟨q, R4⟩, hr⟩ : ∃ r, R.truncate x.name x.n = r := ⟨_, rfl⟩
    have hst : R.step x = R4 := by rw [hstep.out]; show (R.truncate x.name x.n).2 = R4; rw [hr]
    have hst := Lib.hid hst
    have hcall := truncate_any x.name x.n hPd.d hPd.zl (by omega)
    rw [st_truncate hP2.s, hr] at hcall
    go_wp2_with fail
    refine wp_region_mix (C := keepW [gx] w2) [([0, 1, 2, 3, 4, 6, 7, 8, 9, 10], 5), ([], 11)] [12, 13] (by kernel_rfl) (by kernel_rfl) (fun _ _ _ _ e h => ⟨e.symm.trans h.1, h.2⟩) keepW_refl ?_
    refine wpSegs_step fun K1 hK1 => ?_
    simp only [pickL, List.getElem?_cons_zero, List.getElem?_cons_succ]
    repeat (go_big_quiet_step (fail))
    refine wpQuiet_nil ?_
    go_wp2_with fail
    refine hcall.mono ?_
    rintro e w4 ⟨rfl, hD4, hc4⟩
    have hc4 : Chg z.b TP w2 w4 := (Chg.of_below ((Below.refl w2.heap.size w2).drew)).trans hc4
    have hr4 := hP2.r.chgP hc4
    have hz4 := hc4.size
    have hrcall := reftruncate_any x.name x.n hr4 (by omega) (by omega)
    rw [hr] at hrcall
    go_wp2_with fail
    refine ⟨keepW_of (by simp; exact hd _ rfl hc4), hK1 _ _ ?_⟩
    refine wpSegs_step fun K2 hK2 => ?_
    simp only [pickL, List.getElem?_cons_zero, List.getElem?_cons_succ]
    repeat (go_big_quiet_step (fail))
    refine wpQuiet_nil ?_
    go_wp2_with fail
    refine hrcall.mono ?_
    rintro e w5 ⟨rfl, hD5, hc5⟩
    go_wp2_with fail
    refine ⟨keepW_of (by simp; exact hd _ rfl (hc4.P.trans hc5.R)), hK2 _ _ ?_⟩
    refine wpSegs_last ?_
    simp only [pickL, List.getElem?_cons_zero, List.getElem?_cons_succ]
    repeat (go_big_quiet_step (fail))
    refine wpQuiet_nil ?_
    go_wp2_with fail
    go_ret
    exact ⟨rfl, ⟨by rw [hst.out]; exact (hD4.chgR hc5).more (by omega), by rw [hst.out]; exact hD5.more (by omega), by rw [hst.out]; exact hD5.srt, by have := hc5.size; omega, by have := hc5.size; omega⟩, hchB.trans (hc4.P.trans hc5.R)⟩
  · obtain ⟨⟨q, R4⟩, hr⟩ : ∃ r, R.remove x.name = r := ⟨_, rfl⟩
    have hst : R.step x = R4 := by rw [hstep.out]; show (R.remove x.name).2 = R4; rw [hr]
    have hst := Lib.hid hst
    have hcall := remove_any x.name hPd.d hPd.zl (by omega)
    rw [st_remove hP2.s, hr] at hcall
    go_wp2_with fail
    refine wp_region_mix (C := keepW [gx] w2) [([0, 1, 2, 4, 5, 6], 3), ([], 7)] [8, 9] (by kernel_rfl) (by kernel_rfl) (fun _ _ _ _ e h => ⟨e.symm.trans h.1, h.2⟩) keepW_refl ?_
    refine wpSegs_step fun K1 hK1 => ?_
    simp only [pickL, List.getElem?_cons_zero, List.getElem?_cons_succ]
    repeat (go_big_quiet_step (fail))
    refine wpQuiet_nil ?_
    go_wp2_with fail
    refine hcall.mono ?_
    rintro e w4 ⟨rfl, hD4, hc4⟩
    have hc4 : Chg z.b TP w2 w4 := (Chg.of_below ((Below.refl w2.heap.size w2).drew)).trans hc4
    have hr4 := hP2.r.chgP hc4
    have hz4 := hc4.size
    have hrcall := refremove_any x.name hr4 (by omega) (by omega)
    rw [hr] at hrcall
    go_wp2_with fail
    refine ⟨keepW_of (by simp; exact hd _ rfl hc4), hK1 _ _ ?_⟩
    refine wpSegs_step fun K2 hK2 => ?_
    simp only [pickL, List.getElem?_cons_zero, List.getElem?_cons_succ]
    repeat (go_big_quiet_step (fail))
    refine wpQuiet_nil ?_
    go_wp2_with fail
    refine hrcall.mono ?_
    rintro e w5 ⟨rfl, hD5, hc5⟩
    go_wp2_with fail
    refine ⟨keepW_of (by simp; exact hd _ rfl (hc4.P.trans hc5.R)), hK2 _ _ ?_⟩
    refine wpSegs_last ?_
    simp only [pickL, List.getElem?_cons_zero, List.getElem?_cons_succ]
    repeat (go_big_quiet_step (fail))
    refine wpQuiet_nil ?_
    go_wp2_with fail
    go_ret
    exact ⟨rfl, ⟨by rw [hst.out]; exact (hD4.chgR hc5).more (by omega), by rw [hst.out]; exact hD5.more (by omega), by rw [hst.out]; exact hD5.srt, by have := hc5.size; omega, by have := hc5.size; omega⟩, hchB.trans (hc4.P.trans hc5.R)⟩
  · obtain ⟨⟨q, R4⟩, hr⟩ : ∃ r, R.sync = r := ⟨_, rfl⟩
    have hst : R.step x = R4 := by rw [hstep.out]; show (R.sync).2 = R4; rw [hr]
    have hst := Lib.hid hst
    have hcall := sync_any hP2.d
    rw [st_sync hP2.s, hr] at hcall
    go_wp2_with fail
    refine hcall.mono ?_
    rintro e w4 ⟨rfl, hD4, hc4⟩
    have hr4 := hP2.r.chgP hc4
    have hz4 := hc4.size
    have hrcall := refsync_any hr4 (by omega) (by omega)
    rw [hr] at hrcall
    go_wp2_with fail
    refine hrcall.mono ?_
    rintro e w5 ⟨rfl, hD5, hc5⟩
    go_wp2_with fail
    go_ret
    exact ⟨rfl, ⟨by rw [hst.out]; exact (hD4.chgR hc5).more (by omega), by rw [hst.out]; exact hD5.more (by omega), by rw [hst.out]; exact hD5.srt, by have := hc5.size; omega, by have := hc5.size; omega⟩, hchB.trans (hc4.P.trans hc5.R)⟩
  · obtain ⟨⟨l, q⟩, hr⟩ : ∃ r, R.read x.name = r := ⟨_, rfl⟩
    have hst : R.step x = R := by rw [hstep.out]; rfl
    have hst := Lib.hid hst
    have hcall := read_any x.name hP2.d
    rw [st_read hP2.s, hr] at hcall
    go_wp2_with fail
    refine hcall.mono ?_
    rintro e w4 ⟨A4, n4, c4, rfl, hown4, hn4, hb4⟩
    have hP4 := hP2.below hb4
    have hrcall := refread_any x.name hP4.r hP4.zl (by omega)
    rw [hr] at hrcall
    have y1' := (hbx2.kept hb4).cell 1
    simp only [List.getElem?_toArray, List.getElem?_cons_zero, List.getElem?_cons_succ, List.setIfInBounds_toArray, List.set_cons_zero, List.set_cons_succ] at y1'
    go_wp2_with fail
    refine hrcall.mono ?_
    rintro e w5 ⟨⟨A5, n5, c5, rfl, hv5, hn5⟩, hb5⟩
    have h45 : n5 = n4 := by
      have h1 := hown4.1
      have h2 := hv5.len
      simp at h1
      omega
    subst h45
    go_wp2_with fail
    refine (sameB_any ((Rd.of_own hown4).below hb5) hv5.get.1 (by omega)).mono ?_
    rintro e w6 ⟨rfl, qq, rfl⟩
    have hb6 : Below w5.heap.size w5 (w5.drewN qq) := below_drewN (Below.refl _ _) _
    have hbz := below_then (below_then hb4 hb5 (Nat.le_refl _)) hb6 (by have := hb4.size; have := hb5.size; omega)
    go_wp2_with fail
    go_ret
    exact ⟨rfl, by rw [hst.out]; exact (hP2.below hbz).more (by omega), hchB.trans (Chg.of_below hbz)⟩
  · obtain ⟨⟨q, R4⟩, hr⟩ : ∃ r, R.setFuse x.n = r := ⟨_, rfl⟩
    have hst : R.step x = R4 := by rw [hstep.out]; show (R.setFuse x.n).2 = R4; rw [hr]
    have hst := Lib.hid hst
    have hcall := fuse_any x.n hPd.d
    rw [st_fuse, hr] at hcall
    go_wp2_with fail
    refine wp_region_mix (C := keepW [gx] w2) [([0, 1, 2, 4, 5, 6], 3), ([], 7)] [8, 9] (by kernel_rfl) (by kernel_rfl) (fun _ _ _ _ e h => ⟨e.symm.trans h.1, h.2⟩) keepW_refl ?_
    refine wpSegs_step fun K1 hK1 => ?_
    simp only [pickL, List.getElem?_cons_zero, List.getElem?_cons_succ]
    repeat (go_big_quiet_step (fail))
    refine wpQuiet_nil ?_
    go_wp2_with fail
    refine hcall.mono ?_
    rintro e w4 ⟨rfl, hD4, hc4⟩
    have hc4 : Chg z.b TP w2 w4 := (Chg.of_below ((Below.refl w2.heap.size w2).drew)).trans hc4
    have hr4 := hP2.r.chgP hc4
    have hz4 := hc4.size
    have hrcall := reffuse_any x.n hr4
    rw [hr] at hrcall
    go_wp2_with fail
    refine ⟨keepW_of (by simp; exact hd _ rfl hc4), hK1 _ _ ?_⟩
    refine wpSegs_step fun K2 hK2 => ?_
    simp only [pickL, List.getElem?_cons_zero, List.getElem?_cons_succ]
    repeat (go_big_quiet_step (fail))
    refine wpQuiet_nil ?_
    go_wp2_with fail
    refine hrcall.mono ?_
    rintro e w5 ⟨rfl, hD5, hc5⟩
    go_wp2_with fail
    refine ⟨keepW_of (by simp; exact hd _ rfl (hc4.P.trans hc5.R)), hK2 _ _ ?_⟩
    refine wpSegs_last ?_
    simp only [pickL, List.getElem?_cons_zero, List.getElem?_cons_succ]
    repeat (go_big_quiet_step (fail))
    refine wpQuiet_nil ?_
    go_wp2_with fail
    go_ret
    exact ⟨rfl, ⟨by rw [hst.out]; exact (hD4.chgR hc5).more (by omega), by rw [hst.out]; exact hD5.more (by omega), by rw [hst.out]; exact hD5.srt, by have := hc5.size; omega, by have := hc5.size; omega⟩, hchB.trans (hc4.P.trans hc5.R)⟩
  · have hst : R.step x = R.crash x.n x.torn := by rw [hstep.out]; rfl
    have hst := Lib.hid hst
    have hcall := crash_any x.n x.torn hx.n1 hx.n2 hx.t1 hx.t2 hP2.d hP2.zl (by omega)
    rw [st_crash hP2.s] at hcall
    go_wp2_with fail
    refine hcall.mono ?_
    rintro e w4 ⟨rfl, hD4, hc4⟩
    have hr4 := hP2.r.chgP hc4
    have hz4 := hc4.size
    have hb4 : Blk w4 gx _ _ := (hd _ rfl hc4).trans hbx2
    have z3 := hb4.cell 3
    have z4 := hb4.cell 4
    simp only [List.getElem?_toArray, List.getElem?_cons_zero, List.getElem?_cons_succ, List.setIfInBounds_toArray, List.set_cons_zero, List.set_cons_succ] at z3 z4
    go_wp2_with fail
    refine (refcrash_any x.n x.torn hx.n1 hx.n2 hx.t1 hx.t2 hr4 (by omega) (by omega)).mono ?_
    rintro e w5 ⟨rfl, hD5, hc5⟩
    go_wp2_with fail
    go_ret
    exact ⟨rfl, ⟨by rw [hst.out]; exact (hD4.chgR hc5).more (by omega), by rw [hst.out]; exact hD5.more (by omega), by rw [hst.out]; exact hD5.srt, by have := hc5.size; omega, by have := hc5.size; omega⟩, hchB.trans (hc4.P.trans hc5.R)⟩
end Go.Proofs.Ytkgcccllabofoaa
