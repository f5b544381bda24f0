/-
  The disk: Crash.
-/
import Derived.Test.YtkgcccllabofoaaD13
namespace Go.Proofs.Ytkgcccllabofoaa
open Go.RowKit Go.Maps

theorem rest_at {n q : Int} {m : Nat} {w : World} (e : q = m) (h1 : -9223372036854775808 ≤ n) (h2 : n ≤ 9223372036854775807) (hm : 0 < m) (hm2 : m ≤ 1000000000) :
    Calls Try.prog 58 #[.int .i64 n, .int .i64 q] w fun e w' => e = .returned (.int .i64 (restF n m : Nat)) ∧ w = w' := by
  subst e
  exact rest_any n m w h1 h2 hm hm2
def tornF (x : Dd) (torn : Int) : Dd := { x with data := x.data.take (restF torn (x.data.length + 1)) }
def crashG (S : St) (keep torn : Int) : FS :=
  match S.done[restF keep (S.done.length + 1)]? with
  | none => doAll S.last (S.done.take (restF keep (S.done.length + 1)))
  | some x => if x.kind = 0 ∧ 0 < restF torn (x.data.length + 1) then doF (doAll S.last (S.done.take (restF keep (S.done.length + 1)))) (tornF x torn) else doAll S.last (S.done.take (restF keep (S.done.length + 1)))
def St.crash (S : St) (keep torn : Int) : St := ⟨crashG S keep torn, [], none⟩
theorem okAll_at {G : FS} {l : List Dd} (h : okAll G l) {i : Nat} {x : Dd} (hx : l[i]? = some x) : OkD (doAll G (l.take i)) x := by
  induction l generalizing G i with
  | nil => simp at hx
  | cons y l ih =>
    cases i with
    | zero =>
      simp only [List.getElem?_cons_zero, Option.some.injEq] at hx
      subst hx
      exact h.1
    | succ i =>
      simp only [List.getElem?_cons_succ] at hx
      exact ih h.2 hx
theorem take_do {G : FS} {l : List Dd} {i : Nat} {x : Dd} (hx : l[i]? = some x) : doAll G (l.take (i + 1)) = doF (doAll G (l.take i)) x := by
  rw [List.take_add_one, hx]
  exact doAll_snoc _ _ _
theorem deedC_at (xs : List (Value × Dd)) (i : Nat) (p : Value × Dd) (h : xs[i]? = some p) : (deedC xs)[i * 3]? = some (.string p.2.name) ∧ (deedC xs)[i * 3 + 1]? = some p.1 ∧ (deedC xs)[i * 3 + 2]? = some (.int .i64 (cutOf p.2)) := by
  induction xs generalizing i with
  | nil => simp at h
  | cons a l ih =>
    cases i with
    | zero =>
      simp only [List.getElem?_cons_zero, Option.some.injEq] at h
      subst h
      exact ⟨rfl, rfl, rfl⟩
    | succ i =>
      simp only [List.getElem?_cons_succ] at h
      have e : deedC (a :: l) = .string a.2.name :: a.1 :: .int .i64 (cutOf a.2) :: deedC l := rfl
      have := ih i h
      rw [e, show (i + 1) * 3 = i * 3 + 1 + 1 + 1 by omega, show (i * 3 + 1 + 1 + 1) + 1 = (i * 3 + 1) + 1 + 1 + 1 by omega, show (i * 3 + 1 + 1 + 1) + 2 = (i * 3 + 2) + 1 + 1 + 1 by omega]
      simp only [List.getElem?_cons_succ]
      exact this

/-- on the way through a crash: the files that last are G -/
structure CrIn (z : Zb) (w : World) (g bl bf n cp : Nat) (fs : Bool) (left : Int) (A : Option Addr) (xs : List (Value × Dd)) (wr : World) (k : Nat) (G : FS) : Prop where
  b : Blk wr g 74 (dkCells bl bf A n cp fs left)
  m : MapB z wr bl k G
  o : wr.ownsRow z.b 78 3 (.slice A n cp) n (deedC xs)
  v : ∀ p ∈ xs, BytesV z wr p.1 p.2.data
  ch : Chg z.b TP w wr
  lo : z.b ≤ g ∧ z.b ≤ bl
section
variable {z : Zb} {g bl bf n cp k k' : Nat} {fs : Bool} {left : Int} {A : Option Addr} {xs : List (Value × Dd)} {w wr w' : World} {G G' : FS}
theorem CrIn.below (h : CrIn z w g bl bf n cp fs left A xs wr k G) (hb : Below wr.heap.size wr w') : CrIn z w g bl bf n cp fs left A xs w' k G :=
  ⟨h.b.kept hb, h.m.below hb, own_below h.o hb, fun p hp => (h.v p hp).below hb, h.ch.trans (Chg.of_below hb), h.lo⟩
theorem CrIn.does (h : CrIn z w g bl bf n cp fs left A xs wr k G) (hg : wr.grownBy w' (some bl)) (hm : MapB z w' bl k' G') : CrIn z w g bl bf n cp fs left A xs w' k' G' := by
  obtain ⟨F, ⟨es, clock, e1, _⟩, _⟩ := h.m
  have hne : g ≠ bl := fun e => by
    have := h.b
    unfold Blk at this
    rw [e, e1] at this; cases this
  refine ⟨h.b.grown hg (by simp; exact hne), hm, own_same h.o fun j cs hj => (hg.block j (lt_of_heap hj) fun e => ?_).trans hj, fun p hp => (h.v p hp).grown hg (.inr fun cs fz e => by rw [e1] at e; cases e), h.ch.trans (chg_of_grown hg e1 rfl h.lo.2), h.lo⟩
  injection e with e
  rw [e, e1] at hj; cases hj
/-- the cells of the deed i -/
theorem CrIn.at_ (h : CrIn z w g bl bf n cp fs left A xs wr k G) {i : Nat} {p : Value × Dd} (hi : xs[i]? = some p) :
    ∃ gr, A = some ⟨gr, 0, none⟩ ∧ gr < wr.heap.size ∧ wr.cell? ⟨gr, i * 3, none⟩ = some (.string p.2.name) ∧ wr.cell? ⟨gr, i * 3 + 1, none⟩ = some p.1 ∧ wr.cell? ⟨gr, i * 3 + 2, none⟩ = some (.int .i64 (cutOf p.2)) := by
  have hl := h.o.1
  rw [deedC_len] at hl
  have hi' := (List.getElem?_eq_some_iff.1 hi).1
  obtain ⟨gr, cap, hv, _, hlt⟩ := h.o.form (by omega)
  injection hv with hA
  subst hA
  obtain ⟨h1, h2, h3⟩ := deedC_at xs i p hi
  have hc := h.o.cells (g := gr) rfl
  have ad : ∀ j, (⟨gr, 0, none⟩ : Addr).add j = ⟨gr, j, none⟩ := fun j => by unfold Addr.add; split <;> simp [*]
  have c1 := hc _ _ h1
  have c2 := hc _ _ h2
  have c3 := hc _ _ h3
  rw [ad] at c1 c2 c3
  exact ⟨gr, rfl, hlt, c1, c2, c3⟩
end
theorem crash_fin {z : Zb} {g bl bf n cp k c gn : Nat} {fs : Bool} {left : Int} {A : Option Addr} {xs : List (Value × Dd)} {w wr : World} {G : FS} (h : CrIn z w g bl bf n cp fs left A xs wr k G) (hm : MapB z wr gn k G) (hne : bl ≠ gn) (hk : k ≤ c) (hgn : z.b ≤ gn) :
    ((wr.frozen? ⟨g, 1, none⟩ = false ∧ wr.cell? ⟨g, 1, none⟩ = some (.map (some bf))) ∧
     ((wr.setCell ⟨g, 1, none⟩ (.map (some gn))).frozen? ⟨g, 2, none⟩ = false ∧ (wr.setCell ⟨g, 1, none⟩ (.map (some gn))).cell? ⟨g, 2, none⟩ = some (.slice A n cp)) ∧
     (((wr.setCell ⟨g, 1, none⟩ (.map (some gn))).setCell ⟨g, 2, none⟩ (.slice none 0 0)).frozen? ⟨g, 3, none⟩ = false ∧ ((wr.setCell ⟨g, 1, none⟩ (.map (some gn))).setCell ⟨g, 2, none⟩ (.slice none 0 0)).cell? ⟨g, 3, none⟩ = some (.bool fs))) ∧
    DiskAt z (((wr.setCell ⟨g, 1, none⟩ (.map (some gn))).setCell ⟨g, 2, none⟩ (.slice none 0 0)).setCell ⟨g, 3, none⟩ (.bool false)) g c ⟨G, [], none⟩ ∧
    Chg z.b TP w (((wr.setCell ⟨g, 1, none⟩ (.map (some gn))).setCell ⟨g, 2, none⟩ (.slice none 0 0)).setCell ⟨g, 3, none⟩ (.bool false)) := by
  have hB0 := h.b
  have hB1 := hB0.set_ 1 (.map (some gn))
  have hB2 := hB1.set_ 2 (.slice none 0 0)
  have hB3 := hB2.set_ 3 (.bool false)
  refine ⟨⟨⟨hB0.free 1, hB0.cell 1⟩, ⟨hB1.free 2, hB1.cell 2⟩, hB2.free 3, hB2.cell 3⟩, ?_, (h.ch.trans (chg_set hB0 rfl _ h.lo.1)).trans ((chg_set hB1 rfl _ h.lo.1).trans (chg_set hB2 rfl _ h.lo.1))⟩
  have h1 := mapB_struct hB2 (grown_cell _ g 3 (.bool false)) (mapB_struct hB1 (grown_cell _ _ _ _) (mapB_struct hB0 (grown_cell _ _ _ _) h.m))
  have h2 := mapB_struct hB2 (grown_cell _ g 3 (.bool false)) (mapB_struct hB1 (grown_cell _ _ _ _) (mapB_struct hB0 (grown_cell _ _ _ _) hm))
  exact ⟨bl, gn, none, 0, 0, left, [], hB3, fun k h => (by cases h), hne, h1.more hk, h2.more hk, own_nil _ _, rfl, fun p hp => (by cases hp), Nat.zero_le _, trivial, h.lo.1, h.lo.2, hgn⟩
section
variable {z : Zb} {g c : Nat} {S : St} {w : World}
set_option maxRecDepth 100000 in
theorem crash_any (keep torn : Int) (h1 : -9223372036854775808 ≤ keep) (h2 : keep ≤ 9223372036854775807) (h3 : -9223372036854775808 ≤ torn) (h4 : torn ≤ 9223372036854775807) (hD : DiskAt z w g c S) (hz : z.z < w.heap.size) (hc : c ≤ 100000) :
    Calls Try.prog 31 #[.pointer (some ⟨g, 0, none⟩), .int .i64 keep, .int .i64 torn] w fun e w' => e = .returned (.tuple #[]) ∧ DiskAt z w' g c (S.crash keep torn) ∧ Chg z.b TP w w' := by
  obtain ⟨bl, bf, A, n, cp, left, xs, hI⟩ := hD
  have hn := hI.len
  have hlo1 := hI.lo.1
  have hbw0 := hI.b.lt
  have hcn := hI.c
  have hcp := (own_bounds hI.o).1
  have hcm := (own_bounds hI.o).2
  unfold maxLen at hcm
  have c2 := hI.b.cell 2
  simp only [dkCells, List.getElem?_toArray, List.getElem?_cons_zero, List.getElem?_cons_succ] at c2
  have hkl := restF_lt keep (m := S.done.length + 1) (by omega)
  have hG0 : CrIn z w g bl bf n cp S.fuse.isSome left A xs w (c - S.done.length + 0) (doAll S.last (S.done.take 0)) := ⟨hI.b, hI.ml, hI.o, hI.v, Chg.refl _ _ _, hI.lo.1, hI.lo.2.1⟩
  have HC := Lib.hid (show S.crash keep torn = ⟨crashG S keep torn, [], none⟩ from rfl)
  have HG := Lib.hid (show crashG S keep torn = match S.done[restF keep (S.done.length + 1)]? with
  | none => doAll S.last (S.done.take (restF keep (S.done.length + 1)))
  | some x => if x.kind = 0 ∧ 0 < restF torn (x.data.length + 1) then doF (doAll S.last (S.done.take (restF keep (S.done.length + 1)))) (tornF x torn) else doAll S.last (S.done.take (restF keep (S.done.length + 1))) from rfl)
  obtain ⟨hn1, hn2⟩ := hn
  have hnc : n ≤ 100000 := by omega
  have hnl := Lib.hid hn1
  generalize hk : restF keep (S.done.length + 1) = k at *
  have hk := Lib.hid hk
  have hxl := Lib.hid hn2
  have hkn : k ≤ n := by omega
  have hkcp : k ≤ cp := by omega
  clear hn1 hcn hn2
  go_enter Try.func31, Try.ntmps31
  go_wp2_with fail
  refine (rest_at (m := n + 1) (by omega) h1 h2 (by omega) (by omega)).mono ?_
  rintro e w1 ⟨rfl, rfl⟩
  rw [show restF keep (n + 1) = k by rw [hnl.out]; exact hk.out]
  go_wp2_with fail
  go_loopw [25] (fun i wr => ∃ q : Nat, q ≤ k ∧ i = .int .i64 q ∧ CrIn z w g bl bf n cp S.fuse.isSome left A xs wr (c - S.done.length + q) (doAll S.last (S.done.take q))) (fun i _ => k - (intOf i).toNat)
  case atStart => exact ⟨0, Nat.zero_le _, rfl, hG0⟩
  case round =>
    clear hG0
    obtain ⟨q, hqk, rfl, hq⟩ := hrel
    have hqc : q ≤ 100000 := by omega
    have c2 := hq.b.cell 2
    have c0 := hq.b.cell 0
    simp only [dkCells, List.getElem?_toArray, List.getElem?_cons_zero, List.getElem?_cons_succ] at c0 c2
    by_cases hlt : q < k
    · obtain ⟨⟨X, x⟩, hp⟩ : ∃ p, xs[q]? = some p := ⟨_, List.getElem?_eq_getElem (by have := hxl.out; omega)⟩
      obtain ⟨gr, rfl, hgr, d0, d1, d2⟩ := hq.at_ hp
      have hX := hq.v _ (List.mem_of_getElem? hp)
      have hdx : S.done[q]? = some x := by rw [← hI.d, List.getElem?_map, hp]; rfl
      have hok := okAll_at hI.ok hdx
      have hG1 := Lib.hid (take_do (G := S.last) hdx)
      simp only [] at d0 d1 d2 hX
      have hX' := hX
      obtain ⟨B, m, d, rfl, _⟩ := hX'
      have hqn : q < n := by omega
      have hbA : Below wr.heap.size wr (wr.alloc (.cells #[.string x.name, .slice B m d, .int .i64 (cutOf x)] 78)) := (Below.refl _ _).alloc (Nat.le_refl _) _
      have hq1 := hq.below hbA
      have hbx := Blk.new wr 78 #[.string x.name, .slice B m d, .int .i64 (cutOf x)]
      have hX1 := hX.below hbA
      clear hq
      go_wp2_with fail
      generalize wr.alloc (.cells #[.string x.name, .slice B m d, .int .i64 (cutOf x)] 78) = w1 at *
      have hgx := hbx.lt
      have hgw := hq1.b.lt
      have g0 := hq1.b.cell 0
      have x0 := hbx.cell 0
      have x1 := hbx.cell 1
      have x2 := hbx.cell 2
      simp only [dkCells, List.getElem?_toArray, List.getElem?_cons_zero, List.getElem?_cons_succ] at g0 x0 x1 x2
      have k0 := keep_cell (gs := [g, wr.heap.size]) g0 (by simp)
      have kx0 := keep_cell (gs := [g, wr.heap.size]) x0 (by simp)
      have kx1 := keep_cell (gs := [g, wr.heap.size]) x1 (by simp)
      have kx2 := keep_cell (gs := [g, wr.heap.size]) x2 (by simp)
      have hq1d : CrIn z w g bl bf n cp S.fuse.isSome left (some ⟨gr, 0, none⟩) xs w1.drew (c - S.done.length + q) (doAll S.last (S.done.take q)) := hq1.below ((Below.refl _ _).drew)
      have hda := does_any z bl _ _ x (.slice B m d) w1.drew hq1d.m (hX1.below ((Below.refl _ _).drew)) (by have := hq1.ch.size; show z.z < w1.heap.size; omega) hok
      unfold deedV at hda
      generalize hcc : cutOf x = cc at *
      have hgs : g ≠ bl := fun e => by
        obtain ⟨F, ⟨es, clock, e1, _⟩, _⟩ := hq1.m
        have := hq1.b
        unfold Blk at this
        rw [e, e1] at this; cases this
      have hxs : wr.heap.size ≠ bl := fun e => by
        obtain ⟨F, ⟨es, clock, e1, _⟩, _⟩ := hq1.m
        have := hbx
        unfold Blk at this
        rw [e, e1] at this; cases this
      generalize hgx0 : wr.heap.size = gx at *
      refine wp_region_mix (C := keepW [g, gx] w1) [([0, 1, 2, 3, 4], 5)] [] (by kernel_rfl) (by kernel_rfl) (fun _ _ _ _ e h => ⟨e.symm.trans h.1, h.2⟩) keepW_refl ?_
      refine wpSegs_step fun K1 hK1 => ?_
      simp only [pickL, List.getElem?_cons_zero, List.getElem?_cons_succ]
      repeat (go_big_quiet_step (fail))
      refine wpQuiet_nil ?_
      go_wp2_with fail
      refine hda.mono ?_
      rintro e w3 ⟨rfl, hm3, hg3⟩
      have hq3 := hq1d.does hg3 hm3
      go_wp2_with fail
      refine ⟨keepW_of (by simp; exact ⟨hg3.block g hgw (by simp; omega), hg3.block gx hgx (by simp; omega)⟩), hK1 _ _ ?_⟩
      refine wpSegs_last ?_
      simp only [pickL]
      refine wpQuiet_nil ?_
      go_wp2_with fail
      go_roundw
      case rel => exact ⟨q + 1, by omega, by go_num, by rw [hG1.out]; exact hq3⟩
      case measure => simp [intOf]; omega
    · obtain rfl : q = k := by omega
      clear hlt hqk
      have hqd : q ≤ S.done.length := by have := hnl.out; omega
      rcases Nat.lt_or_ge q n with hqn | hqn
      · obtain ⟨⟨X, x⟩, hp⟩ : ∃ p, xs[q]? = some p := ⟨_, List.getElem?_eq_getElem (by have := hxl.out; omega)⟩
        obtain ⟨gr, rfl, hgr, d0, d1, d2⟩ := hq.at_ hp
        have hX := hq.v _ (List.mem_of_getElem? hp)
        have hdx : S.done[q]? = some x := by rw [← hI.d, List.getElem?_map, hp]; rfl
        have hok := okAll_at hI.ok hdx
        have hdl := (List.getElem?_eq_some_iff.1 hdx).1
        have HG := HG.out
        rw [hdx] at HG
        simp only [] at HG d0 d1 d2 hX
        have hX' := hX
        obtain ⟨B, m, d, rfl, _⟩ := hX'
        have hxln := hX.len
        have hxm := hX.get.2
        unfold maxLen at hxm
        by_cases hk0 : x.kind = 0
        · have hcut : cutOf x = -1 := by unfold cutOf; rw [if_pos hk0]
          have hxl2 : m ≤ 1048576 := by have := hok.app hk0; omega
          rw [hcut] at d2
          have hbA : Below wr.heap.size wr (wr.alloc (.cells #[.string x.name, .slice B m d, .int .i64 (-1)] 78)) := (Below.refl _ _).alloc (Nat.le_refl _) _
          have hq1 := hq.below hbA
          have hbx := Blk.new wr 78 #[.string x.name, .slice B m d, .int .i64 (-1)]
          have hX1 := hX.below hbA
          have htl := restF_lt torn (m := x.data.length + 1) (by omega)
          generalize hwA : wr.alloc (.cells #[.string x.name, .slice B m d, .int .i64 (-1)] 78) = w1 at *
          have hwA := Lib.hid hwA
          have hgx := hbx.lt
          have xc1 := hbx.cell 1
          simp only [List.getElem?_toArray, List.getElem?_cons_zero, List.getElem?_cons_succ] at xc1
          go_wp2_with fail
          refine (rest_at (m := x.data.length + 1) (by omega) h3 h4 (by omega) (by omega)).mono ?_
          rintro e w2 ⟨rfl, rfl⟩
          generalize ht : restF torn (x.data.length + 1) = t at *
          rcases Nat.eq_zero_or_pos t with ht0 | ht0
          · rw [if_neg (fun h => by omega)] at HG
            have HG := Lib.hid HG
            rw [ht0]
            clear ht htl ht0
            have t0 := hq1.b.cell 0
            have hlE := hq1.m.lt
            simp only [dkCells, List.getElem?_toArray, List.getElem?_cons_zero] at t0
            go_wp2_with fail
            refine (same_b hq1.m).mono ?_
            rintro e w9 ⟨gn, rfl, hgn, hmn, hb9⟩
            obtain ⟨⟨⟨y1, y2⟩, ⟨y3, y4⟩, y5, y6⟩, hfin⟩ := crash_fin (c := c) (hq1.below hb9) hmn (by omega) (by have := hI.c; omega) (by have := hq1.ch.size; omega)
            have hfin := Lib.hid hfin
            go_wp2_with fail
            exact bodyPost_end0' rfl rfl ⟨rfl, by rw [HC.out, HG.out]; exact hfin.out.1, hfin.out.2⟩
          · rw [if_pos ⟨hk0, ht0⟩] at HG
            have HG := Lib.hid HG
            have htm : t ≤ m := by omega
            have htd : t ≤ d := by omega
            have xf1 := hbx.free 1
            have ht := Lib.hid ht
            go_wp2_with fail
            have hbB : Below wr.heap.size wr (w1.setCell ⟨wr.heap.size, 1, none⟩ (.slice B t d)) := hbA.setCell (Nat.le_refl _) _
            have hq2 := hq.below hbB
            have hbx2 := hbx.set_ 1 (.slice B t d)
            have hX2 := (hX.below hbB).cut htm
            have hdata : (tornF x torn).data = x.data.take t := by unfold tornF; rw [ht.out]
            have hcT : cutOf (tornF x torn) = -1 := hcut
            have hokT : OkD (doAll S.last (S.done.take q)) (tornF x torn) := ⟨hok.k, fun _ => by
              have h1 := hok.app hk0
              have h2 : (x.data.take (restF torn (x.data.length + 1))).length ≤ x.data.length := by rw [List.length_take]; omega
              show _ + (x.data.take (restF torn (x.data.length + 1))).length ≤ _
              have h3 : (tornF x torn).name = x.name := rfl
              rw [h3]; omega, fun h => absurd (hk0.symm.trans h) (by omega), hok.name, by show (x.data.take _).length ≤ _; rw [List.length_take]; have := hok.len; omega⟩
            generalize hwB : w1.setCell ⟨wr.heap.size, 1, none⟩ (.slice B t d) = w4 at *
            have hgx4 := hbx2.lt
            have hgw := hq2.b.lt
            have g0 := hq2.b.cell 0
            have x0 := hbx2.cell 0
            have x1 := hbx2.cell 1
            have x2 := hbx2.cell 2
            simp only [dkCells, List.getElem?_toArray, List.getElem?_cons_zero, List.getElem?_cons_succ, List.setIfInBounds_toArray, List.set_cons_zero, List.set_cons_succ] at g0 x0 x1 x2
            have k0 := keep_cell (gs := [g, wr.heap.size]) g0 (by simp)
            have kx0 := keep_cell (gs := [g, wr.heap.size]) x0 (by simp)
            have kx1 := keep_cell (gs := [g, wr.heap.size]) x1 (by simp)
            have kx2 := keep_cell (gs := [g, wr.heap.size]) x2 (by simp)
            have hq2d : CrIn z w g bl bf n cp S.fuse.isSome left (some ⟨gr, 0, none⟩) xs w4.drew (c - S.done.length + q) (doAll S.last (S.done.take q)) := hq2.below ((Below.refl _ _).drew)
            have hda := does_any z bl _ _ (tornF x torn) (.slice B t d) w4.drew hq2d.m (by rw [hdata]; exact hX2.below ((Below.refl _ _).drew)) (by have := hq2.ch.size; show z.z < w4.heap.size; omega) hokT
            unfold deedV at hda
            rw [hcT] at hda
            rw [show (tornF x torn).name = x.name from rfl] at hda
            have hgs : g ≠ bl := fun e => by
              obtain ⟨F, ⟨es, clock, e1, _⟩, _⟩ := hq2.m
              have := hq2.b
              unfold Blk at this
              rw [e, e1] at this; cases this
            have hxs : wr.heap.size ≠ bl := fun e => by
              obtain ⟨F, ⟨es, clock, e1, _⟩, _⟩ := hq2.m
              have := hbx2
              unfold Blk at this
              rw [e, e1] at this; cases this
            clear hq1 hX1 hbA hwB
            generalize hgx0 : wr.heap.size = gx at *
            refine wp_region_mix (C := keepW [g, gx] w4) [([0, 1, 2, 3, 4], 5)] [] (by kernel_rfl) (by kernel_rfl) (fun _ _ _ _ e h => ⟨e.symm.trans h.1, h.2⟩) keepW_refl ?_
            refine wpSegs_step fun K1 hK1 => ?_
            simp only [pickL, List.getElem?_cons_zero, List.getElem?_cons_succ]
            repeat (go_big_quiet_step (fail))
            refine wpQuiet_nil ?_
            go_wp2_with fail
            refine hda.mono ?_
            rintro e w5 ⟨rfl, hm5, hg5⟩
            have hq5 := hq2d.does hg5 hm5
            go_wp2_with fail
            refine ⟨keepW_of (by simp; exact ⟨hg5.block g hgw (by simp; omega), hg5.block gx hgx4 (by simp; omega)⟩), hK1 _ _ ?_⟩
            refine wpSegs_last ?_
            simp only [pickL]
            refine wpQuiet_nil ?_
            have t0 := hq5.b.cell 0
            have hlE := hq5.m.lt
            simp only [dkCells, List.getElem?_toArray, List.getElem?_cons_zero] at t0
            go_wp2_with fail
            refine (same_b hq5.m).mono ?_
            rintro e w9 ⟨gn, rfl, hgn, hmn, hb9⟩
            obtain ⟨⟨⟨y1, y2⟩, ⟨y3, y4⟩, y5, y6⟩, hfin⟩ := crash_fin (c := c) (hq5.below hb9) hmn (by omega) (by have := hI.c; omega) (by have := hq5.ch.size; omega)
            have hfin := Lib.hid hfin
            go_wp2_with fail
            exact bodyPost_end0' rfl rfl ⟨rfl, by rw [HC.out, HG.out]; exact hfin.out.1, hfin.out.2⟩
        · have hcut : cutOf x ≠ -1 := by unfold cutOf; rw [if_neg hk0]; split <;> omega
          have hcb : (cutOf x == -1) = false := beq_eq_false_iff_ne.2 hcut
          rw [if_neg (fun h => hk0 h.1)] at HG
          have HG := Lib.hid HG
          generalize cutOf x = cc at *
          clear hcut
          have t0 := hq.b.cell 0
          have hlE := hq.m.lt
          simp only [dkCells, List.getElem?_toArray, List.getElem?_cons_zero] at t0
          go_wp2_with fail
          refine (same_b hq.m).mono ?_
          rintro e w9 ⟨gn, rfl, hgn, hmn, hb9⟩
          obtain ⟨⟨⟨y1, y2⟩, ⟨y3, y4⟩, y5, y6⟩, hfin⟩ := crash_fin (c := c) (hq.below hb9) hmn (by omega) (by have := hI.c; omega) (by have := hq.ch.size; omega)
          have hfin := Lib.hid hfin
          go_wp2_with fail
          exact bodyPost_end0' rfl rfl ⟨rfl, by rw [HC.out, HG.out]; exact hfin.out.1, hfin.out.2⟩
      · obtain rfl : q = n := by omega
        have hG : crashG S keep torn = doAll S.last (S.done.take q) := by
          rw [HG.out]
          rw [List.getElem?_eq_none (by have := hnl.out; omega)]
        have hG := Lib.hid hG
        have t0 := hq.b.cell 0
        have hlE := hq.m.lt
        simp only [dkCells, List.getElem?_toArray, List.getElem?_cons_zero] at t0
        go_wp2_with fail
        refine (same_b hq.m).mono ?_
        rintro e w9 ⟨gn, rfl, hgn, hmn, hb9⟩
        obtain ⟨⟨⟨y1, y2⟩, ⟨y3, y4⟩, y5, y6⟩, hfin⟩ := crash_fin (c := c) (hq.below hb9) hmn (by omega) (by have := hI.c; omega) (by have := hq.ch.size; omega)
        have hfin := Lib.hid hfin
        go_wp2_with fail
        exact bodyPost_end0' rfl rfl ⟨rfl, by rw [HC.out, hG.out]; exact hfin.out.1, hfin.out.2⟩
end
end Go.Proofs.Ytkgcccllabofoaa
