/-
  The law: DiskOwns.
-/
import Derived.Test.YtkgcccllabofoaaDOpen
namespace Go.Proofs.Ytkgcccllabofoaa
open Go.RowKit Go.Maps

section
variable {z : Zb} {gd gr c q : Nat} {w w' : World} {R : Rt}
theorem MapB.turn {p b k : Nat} {G : FS} (h : MapB p w b k G) (hq : w.heap.size ≤ q) : MapB q w b k G := by
  obtain ⟨F, h1, h2, h3⟩ := h
  refine ⟨F, h1, h2, fun s l hs => ?_⟩
  obtain ⟨v, h4, h5, h6⟩ := h3 s l hs
  exact ⟨v, h4, h5.turn hq, h6⟩
theorem Pair.turn (h : Pair z w gd gr c R) (hq : w.heap.size ≤ q) (hb : Below w.heap.size w w') (hq2 : q < w'.heap.size) : Pair ⟨q, z.b⟩ w' gd gr c R := by
  have h1 : DiskAt ⟨q, z.b⟩ w gd c R.st := by
    obtain ⟨bl, bf, A, n, cp, left, xs, hI⟩ := h.d
    exact ⟨bl, bf, A, n, cp, left, xs, hI.b, hI.f, hI.ne, hI.ml.turn hq, hI.mf.turn hq, hI.o, hI.d, fun p hp => (hI.v p hp).turn hq, hI.c, hI.ok, hI.lo⟩
  have h2 : RefAt ⟨q, z.b⟩ w gr c R := by
    obtain ⟨A, n, cp, ys, B, m, cq, left, xs, hI⟩ := h.r
    exact ⟨A, n, cp, ys, B, m, cq, left, xs, hI.b, hI.f, ⟨hI.l.o, hI.l.d, fun p hp => ⟨(hI.l.v p hp).1.turn hq, (hI.l.v p hp).2⟩⟩, hI.o, hI.d, fun p hp => (hI.v p hp).turn hq, hI.c, hI.ok, hI.s, hI.lo⟩
  exact ⟨h1.below hb, h2.below hb, h.s, hq2, by have := h.bl; have := hb.size; show z.b ≤ _; omega⟩
/-- the block that is left alone has turned -/
theorem Pair.other (h : Pair z w gd gr c R) (hg : w.grownBy w' (some z.z)) {cs : Array Value} {fz : Nat × Nat} (hz : w.heap[z.z]? = some (.cells cs 5 fz)) : Pair z w' gd gr c R := by
  have hk : ∀ j o, w.heap[j]? = some o → j ≠ z.z → w'.heap[j]? = some o := fun j o hj hne => (hg.block j (lt_of_heap hj) fun e => hne (Option.some.inj e)).trans hj
  refine ⟨h.d.kept fun j o hj ho => hk j o hj fun e => ?_, h.r.kept fun j o hj ho => hk j o hj fun e => ?_, h.s, by have := h.zl; have := hg.size; omega, by have := h.bl; have := hg.size; omega⟩
  · subst e
    rcases ho with ho | ⟨hne, _⟩
    · rw [hz] at hj; injection hj with hj; rw [← hj] at ho; cases ho
    · exact hne rfl
  · subst e
    rcases ho with ho | ⟨cs', rfl⟩ | ⟨hne, _⟩
    · rw [hz] at hj; injection hj with hj; rw [← hj] at ho; cases ho
    · rw [hz] at hj; injection hj with hj; injection hj with _ hj; cases hj
    · exact hne rfl
end
theorem own_chg {base base' : Nat} {T : Obj → Bool} {w w' : World} {e : TypeId} {size n : Nat} {v : Value} {xs : List Value} (h : w.ownsRow base e size v n xs) (hc : Chg base' T w w') (hT : ∀ cs, T (.cells cs e (0, 0)) = false) : w'.ownsRow base e size v n xs :=
  own_same h fun _ _ hj => hc.block _ _ hj (.inr (hT _))
set_option maxRecDepth 100000 in
set_option maxHeartbeats 4000000 in
theorem owns_law {z : Zb} {w : World} {A : Option Addr} {n c : Nat} {ys : List (Value × Ld)} (hZ : Law0 z w) (hzw : z.b = w.heap.size) (hL : LdsV z w A n ys) :
    Calls Try.prog 12 #[.slice A n c] w fun e w' => e = .returned (.bool true) ∧ Below w.heap.size w w' := by
  go_enter Try.func12, Try.ntmps12
  go_wp2_with fail
  refine (new_any z w hZ.bl).mono ?_
  rintro e w1 ⟨g, rfl, hg, hD1, hb1⟩
  obtain ⟨hP2, hc2⟩ := pair_new hZ hg hD1 hb1
  have hb2 := hc2.below (by omega)
  rw [hzw] at hb2
  go_wp2_with fail
  generalize w1.alloc (.cells #[.slice none 0 0, .slice none 0 0, .bool false, .int .i64 0] 38) = w2 at *
  generalize w1.heap.size = gr at *
  have hP2' : Pair ⟨z.z, z.b⟩ w2 g gr 0 R0 := hP2
  go_loopw [5] (fun i wr => ∃ (k : Nat) (R : Rt) (q : Nat), k ≤ n ∧ k ≤ 25 ∧ i = .int .i64 k ∧ Pair ⟨q, z.b⟩ wr g gr k R ∧ Below w.heap.size w wr) (fun i _ => n - (intOf i).toNat)
  case atStart => exact ⟨0, R0, z.z, Nat.zero_le _, Nat.zero_le _, rfl, hP2', hb2⟩
  case round =>
    clear hP2 hc2 hb1 hD1 hb2 hP2'
    obtain ⟨k, R, q0, hk, hkm, rfl, hP, hb⟩ := hrel
    by_cases hlt : k < n ∧ k < 25
    · obtain ⟨hlt, hlt2⟩ := hlt
      obtain ⟨ad, X, x, rfl, hy, hX, hx, d0, d1, d2, d3, d4⟩ := (hL.below (by rw [hzw]; exact hb)).at_ hlt
      obtain ⟨Bx, mx, dx, rfl, _⟩ := id hX
      have hdd := hX.get.2
      have hbA : Below wr.heap.size wr (wr.alloc (.cells #[.int .i64 x.kind, .string x.name, .slice Bx mx dx, .int .i64 x.n, .int .i64 x.torn] 42)) := (Below.refl _ _).alloc (Nat.le_refl _) _
      have hbx := Blk.new wr 42 #[.int .i64 x.kind, .string x.name, .slice Bx mx dx, .int .i64 x.n, .int .i64 x.torn]
      have hX1 := hX.below hbA
      have x0 := hbx.cell 0
      have x1 := hbx.cell 1
      have x2 := hbx.cell 2
      have x3 := hbx.cell 3
      have x4 := hbx.cell 4
      simp only [List.getElem?_toArray, List.getElem?_cons_zero, List.getElem?_cons_succ] at x0 x1 x2 x3 x4
      have hmeas := Lib.hid (show n - (k + 1) < n - k by omega)
      go_wp2_with fail
      generalize wr.alloc (.cells #[.int .i64 x.kind, .string x.name, .slice Bx mx dx, .int .i64 x.n, .int .i64 x.torn] 42) = w3 at *
      have hgx := hbx.lt
      have hgxE := Lib.hid (show ∃ gx, gx = wr.heap.size from ⟨_, rfl⟩)
      refine (few_any Bx mx dx w3 hdd.1).mono ?_
      rintro e w4 ⟨rfl, rfl⟩
      have hXr := (hX1.cut (Nat.min_le_left mx 200)).get.1
      have hmn : min mx 200 ≤ 200 := Nat.min_le_right _ _
      generalize x.data.take (min mx 200) = dt at *
      generalize min mx 200 = m2 at *
      have hnil : w3.ownsRow w3.heap.size 5 1 (.slice none 0 0) 0 (([] : List UInt8).map vb) := own_nil _ _
      go_upto_region 11 with (at_builtin; refine wpList_append_b rfl (.tmp 34) (.tmp 37) rfl w3.heap.size rfl hnil rfl hXr (by omega) (Nat.le_refl _) ?_; intro A4 c4 w4 hown4 hg4 hb4)
      rw [Nat.zero_add, List.nil_append] at hown4
      have hb14 : Below wr.heap.size wr w4 := hbA.trans (hb4.mono hbA.size)
      have hbx4 := hbx.kept hb4
      have v0 := hbx4.cell 0
      have v1 := hbx4.cell 1
      have v2 := hbx4.cell 2
      have v3 := hbx4.cell 3
      have v4 := hbx4.cell 4
      simp only [List.getElem?_toArray, List.getElem?_cons_zero, List.getElem?_cons_succ] at v0 v1 v2 v3 v4
      have hbY := Blk.new w4 42 #[.int .i64 x.kind, .string x.name, .slice Bx mx dx, .int .i64 x.n, .int .i64 x.torn]
      have hb45 : Below w4.heap.size w4 (w4.alloc (.cells #[.int .i64 x.kind, .string x.name, .slice A4 m2 c4, .int .i64 x.n, .int .i64 x.torn] 42)) := (Below.refl _ _).alloc (Nat.le_refl _) _
      have y2 := hbY.cell 2
      have f2 := hbY.free 2
      have hbY5 := Blk.new w4 42 #[.int .i64 x.kind, .string x.name, .slice A4 m2 c4, .int .i64 x.n, .int .i64 x.torn]
      simp only [List.getElem?_toArray, List.getElem?_cons_zero, List.getElem?_cons_succ] at y2
      clear x0 x1 x2 x3 x4 hX hX1 hXr hnil hbA hbx d0 d1 d2 d3 d4
      go_upto_region 13 with fail
      have hown5 := own_below hown4 hb45
      have hbx5 := hbx4.kept hb45
      have hb15 := below_then hb14 hb45 (Nat.le_refl _)
      have hgy : w4.heap.size < (w4.alloc (.cells #[.int .i64 x.kind, .string x.name, .slice A4 m2 c4, .int .i64 x.n, .int .i64 x.torn] 42)).heap.size := hbY5.lt
      generalize w4.alloc (.cells #[.int .i64 x.kind, .string x.name, .slice A4 m2 c4, .int .i64 x.n, .int .i64 x.torn] 42) = w5 at *
      have z0 := hbY5.cell 0
      have z1 := hbY5.cell 1
      have z2 := hbY5.cell 2
      have z3 := hbY5.cell 3
      have z4 := hbY5.cell 4
      simp only [List.getElem?_toArray, List.getElem?_cons_zero, List.getElem?_cons_succ] at z0 z1 z2 z3 z4
      have hq : ∃ q, wr.heap.size ≤ q ∧ q < w5.heap.size ∧ (0 < m2 → A4 = some ⟨q, 0, none⟩ ∧ ∃ cs, w5.heap[q]? = some (.cells cs 5)) := by
        rcases hown5.2 with ⟨h1, _⟩ | ⟨g4, cap, cur, h1, h2, h3, _⟩
        · injection h1 with _ h1
          exact ⟨w4.heap.size, hb14.size, hgy, fun h => by omega⟩
        · injection h1 with h1
          exact ⟨g4, by omega, lt_of_heap h3, fun _ => ⟨h1, cur, h3⟩⟩
      obtain ⟨q, hq1, hq2, hq3⟩ := hq
      have hP5 := hP.turn hq1 hb15 hq2
      have hXo : RdS ⟨q, z.b⟩ w5 (.slice A4 m2 c4) dt := (BytesV.of_own (z := 0) hown5 (by omega)).rds _
      have hxo : Ld.Ok ⟨x.kind, x.name, dt, x.n, x.torn⟩ := ⟨hx.k1, hx.k2, hx.n1, hx.n2, hx.t1, hx.t2⟩
      have hcall := lawdoes_any ⟨x.kind, x.name, dt, x.n, x.torn⟩ (.slice A4 m2 c4) hxo hP5 hXo (by omega)
      unfold ldV at hcall
      simp only [] at hcall
      clear v0 v1 v2 v3 v4 y2 f2 hbY hbY5 hbx4 hown4 hb4 hb14 hb45 hXo hP
      go_wp2_with fail
      refine hcall.mono ?_
      rintro e w6 ⟨rfl, hP6, hc6⟩
      have hb5z : z.b ≤ w5.heap.size := hP5.bl
      have hb6 : Below w.heap.size w w6 := by
        have h1 := hc6.below hb5z
        rw [hzw] at h1
        exact (hb.trans (hb15.mono hb.size)).trans h1
      have hown6 := own_chg hown5 hc6 (fun _ => rfl)
      have hx6 : Blk w6 wr.heap.size 42 #[.int .i64 x.kind, .string x.name, .slice Bx mx dx, .int .i64 x.n, .int .i64 x.torn] := hc6.block _ _ hbx5 (.inr rfl)
      have hq3 : 0 < m2 → A4 = some ⟨q, 0, none⟩ := fun h => (hq3 h).1
      have hq3 := Lib.hid hq3
      generalize Rt.step R ⟨x.kind, x.name, dt, x.n, x.torn⟩ = R6 at *
      have hwq : w.heap.size ≤ q := by have := hb.size; omega
      clear hown5 hbx5 hc6 hcall hP5 hb15
      go_wp2_with fail
      go_loopw [10] (fun i wr2 => ∃ (j : Nat) (l : List UInt8), j ≤ m2 ∧ i = .int .i64 j ∧ wr2.ownsRow w3.heap.size 5 1 (.slice A4 m2 c4) m2 (l.map vb) ∧ Pair ⟨q, z.b⟩ wr2 g gr (k + 1) R6 ∧ Below w.heap.size w wr2 ∧ Blk wr2 wr.heap.size 42 #[.int .i64 x.kind, .string x.name, .slice Bx mx dx, .int .i64 x.n, .int .i64 x.torn]) (fun i _ => m2 - (intOf i).toNat)
      case atStart => exact ⟨0, dt, Nat.zero_le _, rfl, hown6, hP6, hb6, hx6⟩
      case round =>
        clear hown6 hP6 hb6 hx6
        obtain ⟨j, l, hj, rfl, hown, hP2, hb2, hx2⟩ := hrel
        rename World => w7
        by_cases hjl : j < m2
        · obtain ⟨g4, e4, hbg, hcell, hfrz⟩ := own_at hown hjl
          have e5 := hq3.out (by omega)
          rw [e4] at e5
          injection e5 with e5
          injection e5 with e5
          subst e5
          subst e4
          have hnew := own_set hown j 7
          have hcells : ∃ cs, w7.heap[g4]? = some (.cells cs 5) := by
            rcases hown.2 with ⟨h1, _⟩ | ⟨g5, cap, cur, h1, h2, h3, _⟩
            · cases h1
            · injection h1 with h1; injection h1 with h1; injection h1 with h1
              subst h1
              exact ⟨cur, h3⟩
          obtain ⟨cs, hcs⟩ := hcells
          have hP3 := hP2.other (grown_cell w7 g4 j (.int .u8 7)) hcs
          have hb3 := hb2.setCell (p := ⟨g4, j, none⟩) hwq (.int .u8 7)
          have hx3 := hx2.far (p := ⟨g4, j, none⟩) (by show wr.heap.size ≠ g4; omega) (.int .u8 7)
          have hm7 := Lib.hid (show m2 - (j + 1) < m2 - j by omega)
          clear hown hP2 hb2 hx2
          go_wp2_with fail
          go_roundw
          case rel => exact ⟨j + 1, _, hjl, by go_num, hnew, hP3, hb3, hx3⟩
          case measure => simp [intOf]; exact hm7.out
        · have x1 := hx2.cell 1
          simp only [List.getElem?_toArray, List.getElem?_cons_zero, List.getElem?_cons_succ] at x1
          go_wp2_with fail
          refine (read_any x.name hP2.d).mono ?_
          rintro e w8 ⟨A8, n8, c8, rfl, hown8, hn8, hb8⟩
          go_wp2_with fail
          go_loopw [13] (fun i wr3 => ∃ (j : Nat) (l : List UInt8), j ≤ n8 ∧ i = .int .i64 j ∧ wr3.ownsRow w7.heap.size 5 1 (.slice A8 n8 c8) n8 (l.map vb) ∧ Below w7.heap.size w7 wr3) (fun i _ => n8 - (intOf i).toNat)
          case atStart => exact ⟨0, _, Nat.zero_le _, rfl, hown8, hb8⟩
          case round =>
            clear hown8 hb8
            obtain ⟨j2, l2, hj2, rfl, hown9, hb9⟩ := hrel
            rename World => w9
            by_cases hjl2 : j2 < n8
            · obtain ⟨g8, e8, hbg8, hcell8, hfrz8⟩ := own_at hown9 hjl2
              subst e8
              have hnew := own_set hown9 j2 9
              have hb10 := hb9.setCell (p := ⟨g8, j2, none⟩) hbg8 (.int .u8 9)
              have hm8 := Lib.hid (show n8 - (j2 + 1) < n8 - j2 by omega)
              clear hown9 hb9
              go_wp2_with fail
              go_roundw
              case rel => exact ⟨j2 + 1, _, hjl2, by go_num, hnew, hb10⟩
              case measure => simp [intOf]; exact hm8.out
            · have hP9 := hP2.below hb9
              have hb19 := hb2.trans (hb9.mono hb2.size)
              go_wp2_with fail
              go_roundw
              case rel => exact ⟨k + 1, R6, q, hlt, hlt2, by go_num, hP9, hb19⟩
              case measure => simp [intOf]; exact hmeas.out
    · rcases (show ¬ k < n ∨ (k < n ∧ ¬ k < 25) by omega) with h | ⟨h, h'⟩
      all_goals
        clear hlt
        go_wp2_with fail
        refine (like_any hP (by omega)).mono ?_
        rintro e w5 ⟨rfl, hb5⟩
        go_wp2_with fail
        refine (lives_any _).mono ?_
        rintro e w6 ⟨rfl, hb6⟩
        go_wp2_with fail
        go_ret
        exact ⟨rfl, (hb.trans (hb5.mono hb.size)).trans (hb6.mono (by have := hb.size; have := hb5.size; omega))⟩
theorem diskOwns_any {w : World} {A : Option Addr} {n c : Nat} {ys : List (Value × Ld)} (hL : LdsV (z0 w) w A n ys) :
    Calls Try.prog 12 #[.slice A n c] w fun e w' => e = .returned (.bool true) ∧ Below w.heap.size w w' := owns_law (law0 w) rfl hL
end Go.Proofs.Ytkgcccllabofoaa
