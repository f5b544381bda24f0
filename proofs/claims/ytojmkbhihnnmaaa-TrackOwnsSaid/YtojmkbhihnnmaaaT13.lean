/-
  The track in memory; what it tells without making anything.
-/
import Derived.Test.YtojmkbhihnnmaaaT12
namespace Go.Proofs.Ytojmkbhihnnmaaa
open Go.RowKit

def rowOf (A : Option Addr) (j : Nat) : Prop := ∃ ad, A = some ad ∧ ad.block = j
/-- the program's track -/
structure TrkIn (B : Nat) (S : Nat → Prop) (w : World) (g : Nat) (t : Trk) (A : Option Addr) (n c : Nat) (zs : List (Value × En)) : Prop where
  b : Blk w g 93 #[.int .i64 t.index, .int .i64 t.term, .slice A n c]
  o : w.ownsRow B 65 6 (.slice A n c) n (zs.flatMap enC)
  d : DeepE S w zs
  l : zs.map (·.2) = t.L
  i : t.Inv
  g : B ≤ g
  s : ∀ j, S j → TyIn TD w j
section
variable {B : Nat} {S : Nat → Prop} {w w' : World} {g n c : Nat} {t : Trk} {A : Option Addr} {zs : List (Value × En)}
theorem own_row_blk {base size : Nat} {e : TypeId} {v : Value} {xs : List Value} (h : w.ownsRow base e size v n xs) : ∀ A c, v = .slice A n c → ∀ j, rowOf A j → j < w.heap.size ∧ base ≤ j ∧ ∃ cs, w.heap[j]? = some (.cells cs e (0, 0)) := by
  rintro A c rfl j ⟨ad, rfl, rfl⟩
  rcases h.2 with ⟨h0, _⟩ | ⟨g, cap, cur, h0, h1, h2, _⟩
  · cases h0
  · injection h0 with h0
    injection h0 with h0
    subst h0
    exact ⟨lt_of_heap h2, h1, cur, h2⟩
theorem own_keep {base size : Nat} {e : TypeId} {xs : List Value} (h : w.ownsRow base e size (.slice A n c) n xs) (hk : ∀ j, rowOf A j → j < w.heap.size → w'.heap[j]? = w.heap[j]?) : w'.ownsRow base e size (.slice A n c) n xs := by
  refine ⟨h.1, ?_⟩
  rcases h.2 with h0 | ⟨g, cap, cur, h1, h2, h3, h4⟩
  · exact .inl h0
  · have h1' := h1
    injection h1' with hA _ _
    exact .inr ⟨g, cap, cur, h1, h2, (hk g ⟨_, hA, rfl⟩ (lt_of_heap h3)).trans h3, h4⟩
theorem TrkIn.len (h : TrkIn B S w g t A n c zs) : n = t.L.length ∧ zs.length = n := by
  have h1 := h.o.1
  rw [flat_len enC_len] at h1
  have h2 := congrArg List.length h.l
  rw [List.length_map] at h2
  omega
theorem TrkIn.rd (h : TrkIn B S w g t A n c zs) : RdE w A n zs := Rds.of_own h.o
theorem TrkIn.keep (h : TrkIn B S w g t A n c zs) (hk : ∀ j, (j = g ∨ rowOf A j ∨ S j) → j < w.heap.size → w'.heap[j]? = w.heap[j]?) : TrkIn B S w' g t A n c zs where
  b := (hk g (.inl rfl) h.b.lt).trans h.b
  o := own_keep h.o fun j hj hl => hk j (.inr (.inl hj)) hl
  d := h.d.keep fun j hj hl => hk j (.inr (.inr hj)) hl
  l := h.l
  i := h.i
  g := h.g
  s := fun j hj => by
    obtain ⟨cs, fz, ty, h1, h2⟩ := h.s j hj
    exact ⟨cs, fz, ty, (hk j (.inr (.inr hj)) (lt_of_heap h1)).trans h1, h2⟩
theorem TrkIn.below (h : TrkIn B S w g t A n c zs) (hb : Below w.heap.size w w') : TrkIn B S w' g t A n c zs := h.keep fun _ _ hl => hb.block _ hl
theorem TrkIn.drewN (h : TrkIn B S w g t A n c zs) (q : Nat) : TrkIn B S (w.drewN q) g t A n c zs := h.keep fun _ _ _ => rfl
theorem TrkIn.at_ (h : TrkIn B S w g t A n c zs) {k : Nat} (hk : k < n) :
    ∃ ad v x, A = some ad ∧ zs[k]? = some (v, x) ∧ t.L[k]? = some x ∧ w.cell? (ad.add (k * 6)) = some (.int .i64 x.idx) ∧ w.cell? ⟨(ad.add (k * 6)).block, (ad.add (k * 6)).off + 1, none⟩ = some (.int .i64 x.term) := by
  obtain ⟨ad, v, x, e, hz, c0, c1, _⟩ := h.rd.at_ hk
  refine ⟨ad, v, x, e, hz, ?_, c0, c1⟩
  rw [← h.l, List.getElem?_map, hz]
  rfl
theorem TrkIn.cells (h : TrkIn B S w g t A n c zs) : w.cell? ⟨g, 0, none⟩ = some (.int .i64 t.index) ∧ w.cell? ⟨g, 1, none⟩ = some (.int .i64 t.term) ∧ w.cell? ⟨g, 2, none⟩ = some (.slice A n c) := ⟨h.b.cell 0, h.b.cell 1, h.b.cell 2⟩
end
theorem tnumber_any (z : Int) (w : World) : Calls Try.prog 63 #[.int .i64 z] w fun e w' => e = .returned (.bool (numB z 1)) ∧ w = w' := by
  unfold numB
  by_cases h : 1 ≤ z
  · go_enter Try.func63, Try.ntmps63
    go_wp2_with fail
    go_ret
    exact ⟨by simp [h], rfl⟩
  · go_enter Try.func63, Try.ntmps63
    go_wp2_with fail
    go_ret
    exact ⟨by simp; omega, rfl⟩
section
variable {B : Nat} {S : Nat → Prop} {w : World} {g n c : Nat} {t : Trk} {A : Option Addr} {zs : List (Value × En)}
theorem tbase_any (h : TrkIn B S w g t A n c zs) : Calls Try.prog 40 #[.pointer (some ⟨g, 0, none⟩)] w fun e w' => e = .returned (.tuple #[.int .i64 t.index, .int .i64 t.term]) ∧ ∃ q, w' = w.drewN q := by
  obtain ⟨h0, h1, h2⟩ := h.cells
  generalize t.index = a at *
  generalize t.term = b at *
  go_enter Try.func40, Try.ntmps40
  go_wp2_with fail
  go_quiet (fail)
  go_wp2_with fail
  go_ret2
  exact ⟨rfl, _, rfl⟩
theorem tend_any (h : TrkIn B S w g t A n c zs) (hn : n ≤ 1000000) : Calls Try.prog 43 #[.pointer (some ⟨g, 0, none⟩)] w fun e w' => e = .returned (.tuple #[.int .i64 t.lastF.1, .int .i64 t.lastF.2]) ∧ ∃ q, w' = w.drewN q := by
  obtain ⟨h0, h1, h2⟩ := h.cells
  obtain ⟨hl, _⟩ := h.len
  rcases Nat.eq_zero_or_pos n with hn0 | hn0
  · have e := Lib.hid (t.lastF_nil (List.eq_nil_of_length_eq_zero (by omega)))
    subst hn0
    clear hl
    go_enter Try.func43, Try.ntmps43
    go_wp2_with fail
    go_quiet (fail)
    go_wp2_with fail
    go_ret2
    exact ⟨by rw [e.out]; rfl, _, rfl⟩
  · obtain ⟨k, rfl⟩ : ∃ k, n = k + 1 := ⟨n - 1, by omega⟩
    obtain ⟨ad, v, x, rfl, hz, hx, c0, c1⟩ := h.at_ (k := k) (by omega)
    have e := Lib.hid (show t.lastF = (x.idx, x.term) by
      obtain ⟨y, hy, e⟩ := t.lastF_pos (by omega)
      rw [← hl, show k + 1 - 1 = k by omega, hx] at hy
      obtain rfl := Option.some.inj hy
      exact e)
    clear hl hz hx
    generalize x.idx = a at *
    generalize x.term = b at *
    go_enter Try.func43, Try.ntmps43
    go_wp2_with fail
    go_quiet (fail)
    go_wp2_with fail
    go_ret2
    exact ⟨by rw [e.out]; rfl, _, rfl⟩
theorem tterm_any (i : Int) (h : TrkIn B S w g t A n c zs) (hn : n ≤ 1000000) : Calls Try.prog 46 #[.pointer (some ⟨g, 0, none⟩), .int .i64 i] w fun e w' => e = .returned (.tuple #[.int .i64 (t.termF i).1, .int .i64 (t.termF i).2]) ∧ ∃ q, w' = w.drewN q := by
  have hla := h.i.last
  have hl := h.len.1
  have hb := h.i.b
  have hr := h.i.room
  have hend := tend_any h hn
  rw [hla] at hend
  clear hla
  go_enter Try.func46, Try.ntmps46
  go_wp2_with fail
  refine hend.mono ?_
  rintro e w1 ⟨rfl, q, rfl⟩
  obtain ⟨h0, h1, h2⟩ := h.cells
  by_cases i1 : i < t.index
  · have he := Lib.hid (show t.termF i = (0, 34) from if_pos i1)
    go_wp2_with fail
    go_ret2
    exact ⟨by rw [he.out]; rfl, _, rfl⟩
  · by_cases i2 : t.index + t.L.length < i
    · have he := Lib.hid (show t.termF i = (0, 33) by
        unfold Trk.termF
        rw [if_neg i1, if_neg (by omega), List.getElem?_eq_none (by omega)])
      go_wp2_with fail
      go_ret2
      exact ⟨by rw [he.out]; rfl, _, rfl⟩
    · by_cases i3 : i = t.index
      · have he := Lib.hid (show t.termF i = (t.term, 0) by
          unfold Trk.termF
          rw [if_neg i1, if_pos i3])
        subst i3
        go_wp2_with fail
        go_ret2
        exact ⟨by rw [he.out]; rfl, _, rfl⟩
      · obtain ⟨k, hk⟩ : ∃ k : Nat, i - t.index - 1 = k := ⟨(i - t.index - 1).toNat, by omega⟩
        have hkn : k < n := by omega
        obtain ⟨ad, v, x, rfl, hz, hx, c0, c1⟩ := h.at_ hkn
        have he := Lib.hid (show t.termF i = (x.term, 0) by
          unfold Trk.termF
          rw [if_neg i1, if_neg i3, hk, show (k : Int).toNat = k from rfl, hx])
        have i4 : (i == t.index) = false := beq_eq_false_iff_ne.2 i3
        have i5 : t.index < i := by omega
        have hkk : i - t.index - 1 = (k : Int) := hk
        clear hz hx
        go_wp2_with fail
        go_quiet (fail)
        go_wp2_with fail
        go_ret2
        exact ⟨by rw [he.out]; rfl, _, World.drewN_drewN _ _ _⟩
end
set_option maxRecDepth 100000 in
theorem may_tany (S : Nat → Prop) (idx term : Int) (A : Option Addr) (n c : Nat) (zs : List (Value × En)) (w : World) (hr : RdE w A n zs) (hd : DeepE S w zs) (hi : 0 ≤ idx) (hi2 : idx ≤ 1099511627776) (hn : n ≤ 1000000) :
    Calls Try.prog 75 #[.int .i64 idx, .int .i64 term, .slice A n c] w fun e w' => e = .returned (.bool (mayFrom idx 0 term (zs.map (·.2)))) ∧ Below w.heap.size w w' := by
  have H1 := Lib.hid hr.len
  go_enter Try.func75, Try.ntmps75
  go_wp2_with fail
  go_loopw [1, 11] (fun tm i wr => ∃ (k : Nat) (term' : Int), k ≤ n ∧ i = .int .i64 k ∧ tm = .int .i64 term' ∧ mayFrom idx 0 term (zs.map (·.2)) = mayFrom idx k term' ((zs.map (·.2)).drop k) ∧ Below w.heap.size w wr) (fun _ i _ => n - (intOf i).toNat)
  case atStart => exact ⟨0, term, Nat.zero_le _, rfl, rfl, rfl, Below.refl _ _⟩
  case round =>
    obtain ⟨k, term', hk, rfl, rfl, he, hb⟩ := hrel
    have He := Lib.hid he
    clear he
    by_cases hlt : k < n
    · obtain ⟨ad, v1, x, rfl, hx, c0, c1, c2, c3, c4, c5⟩ := (hr.below hb).at_ hlt
      have f1 := (hd _ (List.mem_of_getElem? hx)).keep (Stay.below (S := S) hb)
      obtain ⟨B1, m1, d1, hv1, l1, l2, l3⟩ := f1.form
      obtain rfl : v1 = _ := hv1
      have hdr : (zs.map (·.2)).drop k = x :: (zs.map (·.2)).drop (k + 1) := get_cons (by rw [List.getElem?_map, hx]; rfl)
      rw [hdr] at He
      have hmeas := Lib.hid (show n - (k + 1) < n - k by omega)
      have hbA : Below wr.heap.size wr (wr.alloc (.cells #[.int .i64 x.idx, .int .i64 x.term, .int .i64 x.op, .int .i64 x.sess, .int .i64 x.seq, .slice B1 m1 d1] 65)) := (Below.refl _ _).alloc (Nat.le_refl _) _
      have hblk := Blk.new wr 65 #[.int .i64 x.idx, .int .i64 x.term, .int .i64 x.op, .int .i64 x.sess, .int .i64 x.seq, .slice B1 m1 d1]
      have f2 := f1.keep (Stay.below (S := S) hbA)
      have hb01 := below_then hb hbA (Nat.le_refl _)
      clear hx hdr f1
      have hcall := tplain_any S x B1 m1 d1 (wr.alloc (.cells #[.int .i64 x.idx, .int .i64 x.term, .int .i64 x.op, .int .i64 x.sess, .int .i64 x.seq, .slice B1 m1 d1] 65)) f2 (Nat.le_trans l1 l2)
      unfold enV at hcall
      go_wp2_with fail
      generalize wr.alloc (.cells #[.int .i64 x.idx, .int .i64 x.term, .int .i64 x.op, .int .i64 x.sess, .int .i64 x.seq, .slice B1 m1 d1] 65) = w2 at *
      refine hcall.mono ?_
      rintro e w3 ⟨rfl, hb3⟩
      have b3 := hblk.kept hb3
      have a0 := b3.cell 0
      have a1 := b3.cell 1
      simp only [List.getElem?_toArray, List.getElem?_cons_zero, List.getElem?_cons_succ] at a0 a1
      have hb03 := below_then hb01 hb3 (Nat.le_refl _)
      clear hcall
      cases hp : plainB x with
      | false =>
        have Hf := Lib.hid (He.out.trans (show _ = false by unfold mayFrom; rw [hp]; rfl))
        go_wp2_with fail
        go_ret
        exact ⟨by rw [Hf.out]; rfl, hb03⟩
      | true =>
        by_cases hi3 : x.idx = idx + 1 + k
        · by_cases ht : term' ≤ x.term
          · have Hf := Lib.hid (He.out.trans (show _ = mayFrom idx (k + 1) x.term ((zs.map (·.2)).drop (k + 1)) by
              show (plainB x && (decide (x.idx = idx + 1 + k) && (decide (term' ≤ x.term) && _))) = _
              rw [hp, decide_eq_true hi3, decide_eq_true ht]; rfl))
            have hi4 : (x.idx == idx + 1 + k) = true := beq_iff_eq.2 hi3
            have hi5 : (x.idx != idx + 1 + k) = false := by rw [bne, hi4]; rfl
            have hi3 := Lib.hid hi3
            generalize x.idx = xi at *
            generalize x.term = xt at *
            go_wp2_with fail
            exact ⟨⟨k + 1, _, hlt, by go_num, rfl, Hf.out, hb03⟩, by simp [intOf]; exact hmeas.out⟩
          · have Hf := Lib.hid (He.out.trans (show _ = false by
              show (plainB x && (decide (x.idx = idx + 1 + k) && (decide (term' ≤ x.term) && _))) = _
              rw [decide_eq_false ht]; simp))
            have hi4 : (x.idx == idx + 1 + k) = true := beq_iff_eq.2 hi3
            have hi5 : (x.idx != idx + 1 + k) = false := by rw [bne, hi4]; rfl
            have hi3 := Lib.hid hi3
            have ht2 : x.term < term' := by omega
            generalize x.idx = xi at *
            generalize x.term = xt at *
            go_wp2_with fail
            go_ret
            exact ⟨by rw [Hf.out]; rfl, hb03⟩
        · have Hf := Lib.hid (He.out.trans (show _ = false by
            show (plainB x && (decide (x.idx = idx + 1 + k) && (decide (term' ≤ x.term) && _))) = _
            rw [decide_eq_false hi3]; simp))
          have hi4 : (x.idx == idx + 1 + k) = false := beq_eq_false_iff_ne.2 hi3
          have hi5 : (x.idx != idx + 1 + k) = true := by rw [bne, hi4]; rfl
          generalize x.idx = xi at *
          generalize x.term = xt at *
          go_wp2_with fail
          go_ret
          exact ⟨by rw [Hf.out]; rfl, hb03⟩
    · obtain rfl : k = n := by omega
      have Hf := Lib.hid (He.out.trans (show _ = true by rw [List.drop_eq_nil_of_le (by rw [List.length_map, H1.out]; omega)]; rfl))
      go_wp2_with fail
      go_ret
      exact ⟨by rw [Hf.out]; rfl, hb⟩
theorem hintF_at {t : Trk} {i term : Int} {k : Nat} {x : En} (hx : t.L[k]? = some x) (hh : hits i term x = true) (hn : ∀ j y, k < j → t.L[j]? = some y → hits i term y = false) : t.hintF i term = x.idx := by
  unfold Trk.hintF
  have e : t.L = t.L.take k ++ x :: t.L.drop (k + 1) := by rw [← get_cons hx, List.take_append_drop]
  have e2 : (t.L.drop (k + 1)).filter (hits i term) = [] := by
    rw [List.filter_eq_nil_iff]
    intro y hy
    obtain ⟨j, hj, rfl⟩ := List.getElem_of_mem hy
    have := hn (k + 1 + j) _ (by omega) (by rw [← List.getElem?_drop, List.getElem?_eq_getElem hj])
    rw [this]; simp
  rw [e, List.filter_append, List.filter_cons, if_pos hh, e2, List.getLast?_append]
  rfl
theorem hintF_none {t : Trk} {i term : Int} (hn : ∀ (j : Nat) y, t.L[j]? = some y → hits i term y = false) : t.hintF i term = t.index := by
  unfold Trk.hintF
  have e2 : t.L.filter (hits i term) = [] := by
    rw [List.filter_eq_nil_iff]
    intro y hy
    obtain ⟨j, hj, rfl⟩ := List.getElem_of_mem hy
    rw [hn j _ (List.getElem?_eq_getElem hj)]; simp
  rw [e2]
  rfl
section
variable {B : Nat} {S : Nat → Prop} {w : World} {g n c : Nat} {t : Trk} {A : Option Addr} {zs : List (Value × En)}
set_option maxRecDepth 100000 in
theorem thint_any (i term : Int) (h : TrkIn B S w g t A n c zs) (hn : n ≤ 1000000) : Calls Try.prog 64 #[.pointer (some ⟨g, 0, none⟩), .int .i64 i, .int .i64 term] w fun e w' => e = .returned (.int .i64 (t.hintF i term)) ∧ Below w.heap.size w w' := by
  have hl := Lib.hid h.len.1
  obtain ⟨q0, q1, q2⟩ := h.cells
  go_enter Try.func64, Try.ntmps64
  go_wp2_with fail
  go_loopw [14] (fun i' wr => ∃ k : Nat, k ≤ n ∧ i' = .int .i64 k ∧ (∀ j y, n - k ≤ j → t.L[j]? = some y → hits i term y = false) ∧ Below w.heap.size w wr) (fun i _ => n - (intOf i).toNat)
  case atStart => exact ⟨0, Nat.zero_le _, rfl, fun j y hj hy => by have := (List.getElem?_eq_some_iff.1 hy).1; rw [← hl.out] at this; omega, Below.refl _ _⟩
  case round =>
    obtain ⟨k, hk, rfl, hno, hb⟩ := hrel
    have Hno := Lib.hid hno
    clear hno
    have h' := h.below hb
    obtain ⟨p0, p1, p2⟩ := h'.cells
    by_cases hlt : k < n
    · obtain ⟨m, hm⟩ : ∃ m : Nat, n - 1 - k = m := ⟨_, rfl⟩
      have hmm : (n : Int) - 1 - (k : Int) = (m : Int) := by omega
      obtain ⟨ad, v1, x, rfl, hx, c0, c1, c2, c3, c4, c5⟩ := h'.rd.at_ (k := m) (by omega)
      have hx2 : t.L[m]? = some x := by rw [← h.l, List.getElem?_map, hx]; rfl
      have hmn : m < n := by omega
      have hmeas := Lib.hid (show n - (k + 1) < n - k by omega)
      have hm := Lib.hid hm
      obtain ⟨B1, m1, d1, hv1, _, _, _⟩ := (h'.d _ (List.mem_of_getElem? hx)).form
      obtain rfl : v1 = _ := hv1
      clear hx
      have e1 : IntKind.i64.wrap ((n : Int) - 1) = (n : Int) - 1 := IntWalk.i64_in _ (by omega)
      have e2 : IntKind.i64.wrap ((n : Int) - 1 - (k : Int)) = (m : Int) := by rw [hmm]; exact IntWalk.i64_in _ (by omega)
      have la := lt_of_cell c0
      have kg := keep_cell (gs := [g, (ad.add (m * 6)).block]) p2 (by simp)
      have k0 := keep_cell (gs := [g, (ad.add (m * 6)).block]) c0 (by simp)
      have k1 := keep_cell (gs := [g, (ad.add (m * 6)).block]) c1 (by simp)
      have k2 := keep_cell (gs := [g, (ad.add (m * 6)).block]) c2 (by simp)
      have k3 := keep_cell (gs := [g, (ad.add (m * 6)).block]) c3 (by simp)
      have k4 := keep_cell (gs := [g, (ad.add (m * 6)).block]) c4 (by simp)
      have k5 := keep_cell (gs := [g, (ad.add (m * 6)).block]) c5 (by simp)
      have hgl := h'.b.lt
      have hgs : ∀ q ∈ [g, (ad.add (m * 6)).block], q < wr.heap.size := by simp; exact ⟨hgl, la⟩
      clear hmm c0 c1 c2 c3 c4 c5 p0 p1 p2
      have hbF : Below w.heap.size w (wr.alloc (.cells #[.int .i64 x.idx, .int .i64 x.term, .int .i64 x.op, .int .i64 x.sess, .int .i64 x.seq, .slice B1 m1 d1] 65)).drew := below_drewN (below_then hb ((Below.refl _ _).alloc (Nat.le_refl _) _) (Nat.le_refl _)) 1
      have hbd : Below wr.heap.size wr (wr.alloc (.cells #[.int .i64 0, .int .i64 0, .int .i64 0, .int .i64 0, .int .i64 0, .slice none 0 0] 65)).drew := below_drewN ((Below.refl _ _).alloc (Nat.le_refl _) _) 1
      cases hh : hits i term x with
      | true =>
        have Hf := Lib.hid (hintF_at hx2 hh fun j y hj hy => Hno.out j y (by have := hm.out; omega) hy)
        have hh2 : x.idx < i ∧ x.term ≤ term := by
          unfold hits at hh
          rw [Bool.and_eq_true, decide_eq_true_eq, decide_eq_true_eq] at hh
          exact hh
        obtain ⟨i1, i2⟩ := hh2
        have i3 := Int.not_lt.2 i2
        clear hx2 hh
        go_wp2_with fail
        refine wp_region_mixE (C := keepW [g, (ad.add (m * 6)).block] wr) [([0, 1, 2, 3, 4, 5, 6, 7, 8, 9, 10, 11, 12, 13], 14)] ([], 15) (by kernel_rfl) (by kernel_rfl) (fun _ _ _ _ e h => ⟨e.symm.trans h.1, h.2⟩) keepW_refl ?_
        refine wpSegsE_step fun K1 hK1 => ?_
        simp only [pickL, List.getElem?_cons_zero, List.getElem?_cons_succ]
        repeat (go_big_quiet_step (fail))
        refine wpQuiet_nil ?_
        go_wp2_with fail
        refine ⟨keepW_below hgs hbd, hK1 _ _ ?_⟩
        refine wpSegsE_last ?_
        simp only [pickL, List.getElem?_cons_zero, List.getElem?_cons_succ]
        repeat (go_big_quiet_step (fail))
        refine wpQuiet_nil ?_
        go_wp2_with fail
        go_ret
        exact ⟨by rw [Hf.out]; rfl, hbF⟩
      | false =>
        have Hst := Lib.hid (show ∀ j y, n - (k + 1) ≤ j → t.L[j]? = some y → hits i term y = false from fun j y hj hy => by
          rcases Nat.lt_or_ge m j with h1 | h1
          · exact Hno.out j y (by have := hm.out; omega) hy
          · obtain rfl : j = m := by have := hm.out; omega
            obtain rfl : x = y := Option.some.inj (hx2.symm.trans hy)
            exact hh)
        clear hx2
        by_cases i1 : x.idx < i
        · have i2 : term < x.term := by
            unfold hits at hh
            rw [decide_eq_true i1, Bool.true_and, decide_eq_false_iff_not] at hh
            omega
          have i3 := Int.not_le.2 i2
          clear hh
          go_wp2_with fail
          refine wp_region_mixE (C := keepW [g, (ad.add (m * 6)).block] wr) [([0, 1, 2, 3, 4, 5, 6, 7, 8, 9, 10, 11, 12, 13], 14)] ([], 15) (by kernel_rfl) (by kernel_rfl) (fun _ _ _ _ e h => ⟨e.symm.trans h.1, h.2⟩) keepW_refl ?_
          refine wpSegsE_step fun K1 hK1 => ?_
          simp only [pickL, List.getElem?_cons_zero, List.getElem?_cons_succ]
          repeat (go_big_quiet_step (fail))
          refine wpQuiet_nil ?_
          go_wp2_with fail
          refine ⟨keepW_below hgs hbd, hK1 _ _ ?_⟩
          refine wpSegsE_last ?_
          simp only [pickL, List.getElem?_cons_zero, List.getElem?_cons_succ]
          repeat (go_big_quiet_step (fail))
          refine wpQuiet_nil ?_
          go_wp2_with fail
          exact ⟨⟨k + 1, hlt, by go_num, Hst.out, hbF⟩, by simp [intOf]; exact hmeas.out⟩
        · clear hh
          go_wp2_with fail
          refine wp_region_mixE (C := keepW [g, (ad.add (m * 6)).block] wr) [([0, 1, 2, 3, 4, 5, 6, 7, 8, 9, 10, 11, 12, 13], 14)] ([], 15) (by kernel_rfl) (by kernel_rfl) (fun _ _ _ _ e h => ⟨e.symm.trans h.1, h.2⟩) keepW_refl ?_
          refine wpSegsE_step fun K1 hK1 => ?_
          simp only [pickL, List.getElem?_cons_zero, List.getElem?_cons_succ]
          repeat (go_big_quiet_step (fail))
          refine wpQuiet_nil ?_
          go_wp2_with fail
          refine ⟨keepW_below hgs hbd, hK1 _ _ ?_⟩
          refine wpSegsE_last ?_
          simp only [pickL, List.getElem?_cons_zero, List.getElem?_cons_succ]
          repeat (go_big_quiet_step (fail))
          refine wpQuiet_nil ?_
          go_wp2_with fail
          exact ⟨⟨k + 1, hlt, by go_num, Hst.out, hbF⟩, by simp [intOf]; exact hmeas.out⟩
    · obtain rfl : k = n := by omega
      have Hf := Lib.hid (hintF_none (t := t) (i := i) (term := term) fun j y hy => Hno.out j y (by omega) hy)
      go_wp2_with fail
      go_ret
      exact ⟨by rw [Hf.out]; rfl, hb⟩
end
end Go.Proofs.Ytojmkbhihnnmaaa
