/-
  The disk's answer: what a deed does to a list of files.
-/
import Derived.Test.YtkgcccllabofoaaE2
import Derived.Deep.CutBlock
import Derived.Deep.DeepCutAuto
namespace Go.Proofs.Ytkgcccllabofoaa
open Go.RowKit Go.Maps

def rdV (X : Value) (x : Dd) : Value := .agg #[.int .i64 (x.kind : Nat), .string x.name, X, .int .i64 (x.n : Nat)]
theorem file_info : (Try.prog.info? 93).map (fun i => (i.zero, i.size, i.bytes)) = some (some (.agg #[.string ByteArray.empty, .slice none 0 0]), 2, 40) := by kernel_rfl
/-- append one file -/
theorem wpList_append_f {w : World} {ops : Array Oper} {rest : List Oper} {o : Oper} {a : Act} {Q : Exit → Act → World → Prop} (hgd : o.guard = none) (s x : Operand)
    (ho : o.op = .call { callee := .builtin .append, args := #[s, x], argTypes := #[35, 35] })
    (base : Nat) {A : Option Addr} {n c : Nat} {zs : List FV} (hs : a.eval s = .slice A n c) (hown : w.ownsRow base 93 2 (.slice A n c) n (fileC zs))
    (g d : Nat) (p : FV) (hx : a.eval x = .slice (some ⟨g, 0, none⟩) 1 d) (hb : Blk w g 93 #[.string p.2.1, p.1]) (h1 : p.1.oneCell' = true) (hn : n ≤ 1000000) (hbase : base ≤ w.heap.size)
    (h : ∀ A' c' w', w'.ownsRow base 93 2 (.slice A' (n + 1) c') (n + 1) (fileC (zs ++ [p])) → w.grownBy w' (Value.slice A n c).ownBlock → Below base w w' → wpList Try.prog ops Q rest (a.put o.dst (.slice A' (n + 1) c')) w') : wpList Try.prog ops Q (o :: rest) a w := by
  obtain ⟨i0, hi0, hz0, hz1, hz2⟩ := info_parts file_info
  refine wpList_append_any w hgd s x 35 ho base 93 i0 _ 2 40 Try.underlying35 hi0 hz0 hz1 hz2 rfl (by omega) (.slice A n c) n _ hs hown (some ⟨g, 0, none⟩) 1 d [.string p.2.1, p.1] hx ⟨rfl, fun _ => ⟨_, rfl, fun j u hu => ?_⟩⟩ (fun u hu => by
    rcases List.mem_cons.1 hu with rfl | hu
    · rfl
    · rw [List.mem_singleton.1 hu]; exact h1) (by unfold maxLen; omega) (by omega) hbase fun A' c' w' h1 h2 _ => ?_
  · have e : (⟨g, 0, none⟩ : Addr).add j = ⟨g, j, none⟩ := by unfold Addr.add; split <;> simp [*]
    rw [e, hb.cell j, ← hu]
    simp
  · refine h A' c' w' ?_ h2 (below_own hown h2 hbase)
    rw [show fileC (zs ++ [p]) = fileC zs ++ [.string p.2.1, p.1] by simp [fileC]]
    exact h1
theorem BytesV.one {z : Nat} {w : World} {v : Value} {l : List UInt8} (h : BytesV z w v l) : v.oneCell' = true := by
  obtain ⟨A, n, c, rfl, _⟩ := h
  rfl
theorem goL_skip {s : ByteArray} {v : List UInt8} {a : ByteArray × List UInt8} {l : FL} (h : a.1 = s) : goL s v true (a :: l) = goL s v true l := by
  rw [goL, if_pos h]; simp
theorem goL_take {s : ByteArray} {v : List UInt8} {a : ByteArray × List UInt8} {l : FL} (h : a.1 ≠ s) : goL s v true (a :: l) = a :: goL s v true l := by
  rw [goL, if_neg h]; simp
theorem goL_less {s : ByteArray} {v : List UInt8} {a : ByteArray × List UInt8} {l : FL} (h : kl a.1 < kl s) : goL s v false (a :: l) = a :: goL s v false l := by
  have hne : a.1 ≠ s := fun e => by rw [e] at h; exact List.lt_irrefl _ h
  rw [goL, if_neg (fun h' => h'.2 h), if_neg hne, decide_eq_true h]; simp
theorem goL_put {s : ByteArray} {v : List UInt8} {a : ByteArray × List UInt8} {l : FL} (h : ¬ kl a.1 < kl s) : goL s v false (a :: l) = (s, v) :: goL s v true (a :: l) := by
  rw [goL, if_pos ⟨rfl, h⟩, decide_eq_false h, goL]; simp
theorem goL_len (s : ByteArray) (v : List UInt8) (b : Bool) (L : FL) : (goL s v b L).length ≤ L.length + (if b then 0 else 1) := by
  induction L generalizing b with
  | nil => cases b <;> simp [goL]
  | cons a l ih =>
    unfold goL
    rw [List.length_append, List.length_append, List.length_cons]
    cases b with
    | true =>
      have := ih true
      simp only [Bool.true_eq_false, false_and, if_false, Bool.true_or, if_true] at *
      split <;> simp <;> omega
    | false =>
      by_cases hk : kl a.1 < kl s
      · have := ih false
        rw [if_neg (fun h => h.2 hk), decide_eq_true hk]
        simp only [Bool.not_true, Bool.or_false, Bool.false_eq_true, if_false] at *
        split <;> simp <;> omega
      · have := ih true
        rw [if_pos ⟨rfl, hk⟩, decide_eq_false hk]
        simp only [Bool.not_false, Bool.or_true, Bool.false_eq_true, if_false, if_true] at *
        split <;> simp <;> omega
theorem doesL_len (L : FL) (x : Dd) : (doesL L x).length ≤ L.length + 1 := by
  have := goL_len x.name (nowF (lookL L) x) (x.kind == 2) L
  unfold doesL
  split at this <;> omega
theorem now_len {G : FS} {x : Dd} (hx : OkD G x) (hG : ∀ s l, G s = some l → l.length ≤ 1048576) : (nowF G x).length ≤ 1048576 := by
  have hd : ((G x.name).getD []).length ≤ 1048576 := by
    cases hs : G x.name with
    | none => simp
    | some l => exact hG _ _ hs
  unfold nowF
  split
  · rename_i h; rw [List.length_append]; exact hx.app h
  · split
    · rw [List.length_take]; omega
    · simp
theorem look_mem {L : FL} {s : ByteArray} {l : List UInt8} (h : lookL L s = some l) : (s, l) ∈ L := by
  induction L with
  | nil => simp [lookL] at h
  | cons a L ih =>
    unfold lookL at h
    split at h
    · rename_i he
      injection h with h
      rw [← he, ← h]; exact List.mem_cons_self
    · exact List.mem_cons_of_mem _ (ih h)
theorem ap_step {z B m c : Nat} {A : Option Addr} {w3 wr W w5 : World} {zs : List FV} {p : FV} (hb : Below B w3 wr) (hW : Below wr.heap.size wr W) (hown : W.ownsRow B 93 2 (.slice A m c) m (fileC zs)) (hg : W.grownBy w5 (Value.slice A m c).ownBlock) (hb5 : Below B W w5)
    (hzv : ∀ p ∈ zs, BytesV z wr p.1 p.2.2 ∧ p.2.2.length ≤ 1048576) (hp : BytesV z wr p.1 p.2.2) (hl : p.2.2.length ≤ 1048576) (hB : B ≤ wr.heap.size) :
    Below B w3 w5 ∧ ∀ q ∈ zs ++ [p], BytesV z w5 q.1 q.2.2 ∧ q.2.2.length ≤ 1048576 := by
  have hk : ∀ v l, BytesV z wr v l → BytesV z w5 v l := fun v l hv => (hv.below hW).kept fun j cs fz _ hj => own_obj hown hg hj (fun cs' e => by injection e with _ e; cases e)
  refine ⟨(hb.trans (hW.mono hB)).trans hb5, fun q hq => ?_⟩
  rcases List.mem_append.1 hq with h | h
  · exact ⟨hk _ _ (hzv q h).1, (hzv q h).2⟩
  · rw [List.mem_singleton.1 h]
    exact ⟨hk _ _ hp, hl⟩
/-- append one file, with what the loop keeps -/
theorem wpList_append_fq {z B : Nat} {w3 wr W : World} {ops : Array Oper} {rest : List Oper} {o : Oper} {a : Act} {Q : Exit → Act → World → Prop} (hgd : o.guard = none) (s x : Operand)
    (ho : o.op = .call { callee := .builtin .append, args := #[s, x], argTypes := #[35, 35] })
    {A : Option Addr} {n c : Nat} {zs : List FV} (hs : a.eval s = .slice A n c) (hown : wr.ownsRow B 93 2 (.slice A n c) n (fileC zs)) (hW : Below wr.heap.size wr W)
    (d : Nat) (pv : Value) (pn : ByteArray) (pd : List UInt8) (hx : a.eval x = .slice (some ⟨W.heap.size, 0, none⟩) 1 d) (hpv : BytesV z wr pv pd) (hpl : pd.length ≤ 1048576) (hzv : ∀ p ∈ zs, BytesV z wr p.1 p.2.2 ∧ p.2.2.length ≤ 1048576) (hb : Below B w3 wr) (hB : B ≤ wr.heap.size) (hn : n ≤ 1000000)
    (h : ∀ A' c' w', w'.ownsRow B 93 2 (.slice A' (n + 1) c') (n + 1) (fileC (zs ++ [(pv, pn, pd)])) → Below B w3 w' → (∀ q ∈ zs ++ [(pv, pn, pd)], BytesV z w' q.1 q.2.2 ∧ q.2.2.length ≤ 1048576) → wpList Try.prog ops Q rest (a.put o.dst (.slice A' (n + 1) c')) w') :
    wpList Try.prog ops Q (o :: rest) a (W.alloc (.cells #[.string pn, pv] 93)) := by
  have hW2 : Below wr.heap.size wr (W.alloc (.cells #[.string pn, pv] 93)) := hW.alloc hW.size _
  have hown2 := own_below hown hW2
  refine wpList_append_f hgd s x ho B hs hown2 W.heap.size d (pv, pn, pd) hx (Blk.new _ _ _) hpv.one hn (Nat.le_trans hB hW2.size) fun A' c' w' h1 h2 h3 => ?_
  obtain ⟨h4, h5⟩ := ap_step (p := (pv, pn, pd)) hb hW2 hown2 h2 h3 hzv hpv hpl hB
  exact h A' c' w' h1 h4 h5
set_option maxRecDepth 100000 in
set_option maxHeartbeats 4000000 in
theorem refdoes_any {z n c : Nat} {A : Option Addr} {ys : List FV} {L : FL} {w : World} (x : Dd) (X : Value) (h : FilesV z w A n c ys L) (hn : n ≤ 100000) (hX : BytesV z w X x.data) (hz : z < w.heap.size) (hx : OkD (lookL L) x) :
    Calls Try.prog 65 #[.slice A n c, rdV X x] w fun e w' => (∃ A' n' c' ys', e = .returned (.slice A' n' c') ∧ FilesV z w' A' n' c' ys' (doesL L x)) ∧ Below w.heap.size w w' := by
  have hX' := hX
  obtain ⟨B, m, d, rfl, _⟩ := hX'
  have hml := hX.len
  have hbA : Below w.heap.size w (w.alloc (.cells #[.int .i64 (x.kind : Nat), .string x.name, .slice B m d, .int .i64 (x.n : Nat)] 85)) := (Below.refl _ _).alloc (Nat.le_refl _) _
  have hbx := Blk.new w 85 #[.int .i64 (x.kind : Nat), .string x.name, .slice B m d, .int .i64 (x.n : Nat)]
  have h1 := h.below hbA
  have hX1 := hX.below hbA
  have hG : ∀ s l, lookL L s = some l → l.length ≤ 1048576 := fun s l hs => by
    have hm := look_mem hs
    rw [← h.d] at hm
    obtain ⟨p, hp, e⟩ := List.mem_map.1 hm
    have := (h.v p hp).2
    rw [e] at this; exact this
  have hnl := now_len hx hG
  unfold rdV
  have x0 := hbx.cell 0
  have x1 := hbx.cell 1
  have x2 := hbx.cell 2
  have x3 := hbx.cell 3
  simp only [List.getElem?_toArray, List.getElem?_cons_zero, List.getElem?_cons_succ] at x0 x1 x2 x3
  go_enter Try.func65, Try.ntmps65
  go_wp2_with fail
  generalize w.alloc (.cells #[.int .i64 (x.kind : Nat), .string x.name, .slice B m d, .int .i64 (x.n : Nat)] 85) = w1 at *
  have hgx := hbx.lt
  generalize hr0 : w.heap.size = r0 at *
  refine (find_any x.name h1 (by omega)).mono ?_
  rintro e w2 ⟨⟨i, rfl, hi⟩, rfl⟩
  go_upto_if 16 with fail
  go_cut [7] (fun v wr => w1 = wr ∧ BytesV z w1 v ((lookL L x.name).getD []))
  case first =>
    rcases hi with ⟨rfl, hi⟩ | ⟨k, dt, rfl, hk, hi⟩
    · have hres := Lib.hid (show BytesV z w1 (.slice none 0 0) ((lookL L x.name).getD []) by rw [hi]; exact BytesV.nil z w1)
      clear hi
      go_wp2_with fail
      go_meet
      exact ⟨rfl, hres.out⟩
    · have hkn : k < n := by have := (List.getElem?_eq_some_iff.1 hk).1; have := h1.len; omega
      obtain ⟨g, p, rfl, hg, hy, hL, c0, c1, hv, _⟩ := h1.at_ hkn
      have hp : p.2 = (x.name, dt) := by rw [hL] at hk; injection hk
      have hres := Lib.hid (show BytesV z w1 p.1 ((lookL L x.name).getD []) by rw [hi]; rw [hp] at hv; exact hv)
      clear hi hk hp hL hy
      go_wp2_with fail
      go_meet
      exact ⟨rfl, hres.out⟩
  case rest =>
    obtain ⟨rfl, hv⟩ := hcut
    obtain ⟨Av, nv, cv, rfl, hvr, hvc, hvm, _⟩ := hv
    have hvl := hvr.len
    have hvn : nv ≤ 1048576 := by
      rw [← hvl]
      cases hs : lookL L x.name with
      | none => simp
      | some l => exact hG _ _ hs
    unfold maxLen at hvm
    have hnil : w1.ownsRow w1.heap.size 5 1 (.slice none 0 0) 0 (([] : List UInt8).map vb) := own_nil _ _
    go_upto_block 0 with fail
    go_cut [8] (fun v wr => ∃ A8 n8 c8, v = .slice A8 n8 c8 ∧ wr.ownsRow w1.heap.size 5 1 (.slice A8 n8 c8) n8 ((nowF (lookL L) x).map vb) ∧ Below w1.heap.size w1 wr)
    case first =>
      rcases (show x.kind = 0 ∨ x.kind = 1 ∨ x.kind = 2 by have := hx.k; omega) with hk | hk | hk
      · have hmm : m ≤ 1048576 := by have := hx.app hk; omega
        have hnow := Lib.hid (show nowF (lookL L) x = (lookL L x.name).getD [] ++ x.data by unfold nowF; rw [if_pos hk])
        have e0 : ((x.kind : Int) == 0) = true := by rw [hk]; rfl
        clear hk
        go_upto_region 10 with (at_builtin; refine wpList_append_b rfl (.tmp 26) (.tmp 27) rfl w1.heap.size rfl hnil rfl hvr (by omega) (Nat.le_refl _) ?_; intro A3 c3 w3 hown3 hg3 hb3)
        rw [Nat.zero_add, List.nil_append] at hown3
        have hX3 := (hX1.below hb3).get.1
        have y2 := (hbx.kept hb3).cell 2
        simp only [List.getElem?_toArray, List.getElem?_cons_zero, List.getElem?_cons_succ] at y2
        go_wp2_with (at_builtin; refine wpList_append_b rfl (.tmp 29) (.tmp 31) rfl w1.heap.size rfl hown3 rfl hX3 (by omega) hb3.size ?_; intro A4 c4 w4 hown4 hg4 hb4)
        go_meet
        exact ⟨A4, _, c4, rfl, by rw [hnow.out]; exact hown4, hb3.trans hb4⟩
      · have hcut := hx.cut hk
        rw [hvl] at hcut
        have hnow := Lib.hid (show nowF (lookL L) x = ((lookL L x.name).getD []).take x.n by unfold nowF; rw [if_neg (by omega), if_pos hk])
        have e0 : ((x.kind : Int) == 0) = false := by rw [hk]; rfl
        have e1 : ((x.kind : Int) == 1) = true := by rw [hk]; rfl
        clear hk
        have hcc : x.n ≤ cv := by omega
        go_wp2_with (at_builtin; refine wpList_append_b rfl (.tmp 35) (.tmp 39) rfl w1.heap.size rfl hnil rfl (hvr.take hcut) (by omega) (Nat.le_refl _) ?_; intro A3 c3 w3 hown3 hg3 hb3)
        go_meet
        rw [Nat.zero_add, List.nil_append] at hown3
        exact ⟨A3, _, c3, rfl, by rw [hnow.out]; exact hown3, hb3⟩
      · have hnow := Lib.hid (show nowF (lookL L) x = [] by unfold nowF; rw [if_neg (by omega), if_neg (by omega)])
        have e0 : ((x.kind : Int) == 0) = false := by rw [hk]; rfl
        have e1 : ((x.kind : Int) == 1) = false := by rw [hk]; rfl
        clear hk
        go_wp2_with fail
        go_meet
        exact ⟨none, 0, 0, rfl, by rw [hnow.out]; exact own_nil _ _, Below.refl _ _⟩
    case rest =>
      obtain ⟨A8, n8, c8, rfl, hnow, hb13⟩ := hcut
      rename World => w3
      have hbx3 := hbx.kept hb13
      have hL3 := h1.below hb13
      have hv8 := BytesV.of_own (z := z) hnow (by omega)
      have hb03 : Below r0 w w3 := hbA.trans (hb13.mono (by omega))
      have hDL : goL x.name (nowF (lookL L) x) (x.kind == 2) L = doesL L x := rfl
      generalize nowF (lookL L) x = now at *
      obtain ⟨b0, hb0⟩ : ∃ b0, (x.kind == 2) = b0 := ⟨_, rfl⟩
      have ek : ((x.kind : Int) == 2) = b0 := by
        rw [← hb0, Bool.eq_iff_iff, beq_iff_eq, beq_iff_eq]; omega
      rw [hb0] at hDL
      have y0 := hbx3.cell 0
      simp only [List.getElem?_toArray, List.getElem?_cons_zero] at y0
      have hln := hL3.len.2
      have hn8 : now.length ≤ 1048576 := hnl
      have hz3 : z < w3.heap.size := by have := hb03.size; omega
      clear hvr hX1 hx hX hml hG hnl hb0 hnow hnil h1 hbx hb13 hbA
      go_wp2_with fail
      have y1' := hbx3.cell 1
      simp only [List.getElem?_toArray, List.getElem?_cons_zero, List.getElem?_cons_succ] at y1'
      have hr3 := hbx3.lt
      generalize hB3 : w3.heap.size = B3 at *
      go_loopw [5, 9, 10] (fun o p i wr => ∃ (k : Nat) (b : Bool) (A2 : Option Addr) (m2 c2 : Nat) (zs : List FV), k ≤ n ∧ i = .int .i64 k ∧ p = .bool b ∧ o = .slice A2 m2 c2 ∧ m2 ≤ 2 * k ∧ wr.ownsRow B3 93 2 (.slice A2 m2 c2) m2 (fileC zs) ∧ (∀ p ∈ zs, BytesV z wr p.1 p.2.2 ∧ p.2.2.length ≤ 1048576) ∧ zs.map (·.2) ++ goL x.name now b (L.drop k) = doesL L x ∧ Below B3 w3 wr) (fun _ _ i _ => n - (intOf i).toNat)
      case atStart => exact ⟨0, b0, none, 0, 0, [], Nat.zero_le _, rfl, rfl, rfl, Nat.zero_le _, own_nil _ _, fun p hp => (by cases hp), hDL, Below.refl _ _⟩
      case round =>
        obtain ⟨k, b, A2, m2, c2, zs, hk, rfl, rfl, rfl, hm2, hown, hzv, hO, hb⟩ := hrel
        have hLw := hL3.kept (w' := wr) fun j o hj hc => (hb.block j (by
          have := lt_of_heap hj; omega)).trans hj
        have hvw := hv8.kept (w' := wr) fun j cs fz _ hj => (hb.block j (by have := lt_of_heap hj; omega)).trans hj
        have y1 : wr.cell? ⟨r0, 1, none⟩ = some (.string x.name) := (hb.cell (p := ⟨r0, 1, none⟩) hr3).trans y1'
        have hbz := hb.size
        have hBr : B3 ≤ wr.heap.size := by have := hb.size; omega
        by_cases hlt : k < n
        · obtain ⟨g, ⟨pv, pn, pd⟩, rfl, hg, hy, hL, c0, c1, hpv, hpl⟩ := hL3.at_ hlt
          simp only [] at hL c0 c1 hpv hpl
          obtain ⟨Ap, np, cp, rfl, _⟩ := id hpv
          have hcells : ∀ w', Below B3 w3 w' → w'.cell? ⟨g, k * 2, none⟩ = some (.string pn) ∧ w'.cell? ⟨g, k * 2 + 1, none⟩ = some (.slice Ap np cp) ∧ w'.cell? ⟨r0, 1, none⟩ = some (.string x.name) ∧ BytesV z w' (.slice Ap np cp) pd ∧ BytesV z w' (.slice A8 n8 c8) now ∧ B3 ≤ w'.heap.size := fun w' hb => by
            have hk := fun v l (hv : BytesV z w3 v l) => hv.kept (w' := w') fun j cs fz _ hj => (hb.block j (by have := lt_of_heap hj; omega)).trans hj
            exact ⟨(hb.cell (p := ⟨g, k * 2, none⟩) (by show g < B3; omega)).trans c0, (hb.cell (p := ⟨g, k * 2 + 1, none⟩) (by show g < B3; omega)).trans c1, (hb.cell (p := ⟨r0, 1, none⟩) hr3).trans y1', hk _ _ hpv, hk _ _ hv8, by have := hb.size; omega⟩
          clear c0 c1 hpv y1 hvw hLw
          obtain ⟨c0, c1, y1, hpv, hvw, _⟩ := hcells wr hb
          have hse := str_eq pn x.name
          have hle := less_kl pn x.name
          have hdr : L.drop k = (pn, pd) :: L.drop (k + 1) := by
            have hkL := (List.getElem?_eq_some_iff.1 hL)
            rw [List.drop_eq_getElem_cons hkL.1, hkL.2]
          rw [hdr] at hO
          have hwq : ∀ (wr : World) q, Below wr.heap.size wr (wr.drewN q) := fun wr q => below_drewN (Below.refl _ _) q
          have hmeas : n - (k + 1) < n - k := by omega
          have hmeas := Lib.hid hmeas
          cases b with
          | true =>
            by_cases he : pn = x.name
            · rw [decide_eq_true he] at hse
              rw [goL_skip he] at hO
              have hO := Lib.hid hO
              clear hle he hdr hL hy
              go_wp2_with fail
              go_quiet (fail)
              go_wp2_with fail
              go_quiet (fail)
              go_wp2_with fail
              refine ⟨⟨k + 1, true, A2, m2, c2, zs, hlt, by go_num, rfl, rfl, by omega, own_below hown (hwq _ _), fun p hp => ⟨(hzv p hp).1.below (hwq _ _), (hzv p hp).2⟩, hO.out, hb.trans ((hwq _ _).mono hBr)⟩, by simp [intOf]; exact hmeas.out⟩
            · rw [decide_eq_false he] at hse
              rw [goL_take he] at hO
              have hO := Lib.hid hO
              clear hle he hdr hL hy
              go_wp2_with fail
              go_quiet (fail)
              go_wp2_with fail
              go_quiet (fail)
              go_wp2_with (at_builtin; refine wpList_append_fq rfl (.tmp 77) (.tmp 82) rfl rfl hown (hwq _ _) 1 _ pn pd rfl hpv hpl hzv hb hBr (by omega) ?_; intro A5 c5 w5 hown5 hbn hzn)
              refine ⟨⟨k + 1, true, A5, m2 + 1, c5, _, hlt, by go_num, rfl, rfl, by omega, hown5, hzn, by rw [List.map_append, List.append_assoc]; exact hO.out, hbn⟩, by simp [intOf]; exact hmeas.out⟩
          | false =>
            by_cases hk : kl pn < kl x.name
            · have he : pn ≠ x.name := fun e => by rw [e] at hk; exact List.lt_irrefl _ hk
              rw [decide_eq_false he] at hse
              rw [decide_eq_true hk] at hle
              rw [goL_less hk] at hO
              have hO := Lib.hid hO
              clear hk he hdr hL hy
              go_wp2_with fail
              go_quiet (fail)
              go_wp2_with fail
              go_quiet (fail)
              go_wp2_with (at_builtin; refine wpList_append_fq rfl (.tmp 77) (.tmp 82) rfl rfl hown (hwq _ _) 1 _ pn pd rfl hpv hpl hzv hb hBr (by omega) ?_; intro A5 c5 w5 hown5 hbn hzn)
              refine ⟨⟨k + 1, false, A5, m2 + 1, c5, _, hlt, by go_num, rfl, rfl, by omega, hown5, hzn, by rw [List.map_append, List.append_assoc]; exact hO.out, hbn⟩, by simp [intOf]; exact hmeas.out⟩
            · rw [decide_eq_false hk] at hle
              rw [goL_put hk] at hO
              by_cases he : pn = x.name
              · rw [decide_eq_true he] at hse
                rw [goL_skip he] at hO
                have hO := Lib.hid hO
                clear hk he hdr hL hy
                go_wp2_with fail
                go_quiet (fail)
                go_wp2_with (at_builtin; refine wpList_append_fq rfl (.tmp 62) (.tmp 67) rfl rfl hown (hwq _ _) 1 _ x.name now rfl hvw hn8 hzv hb hBr (by omega) ?_; intro A5 c5 w5 hown5 hbn hzn; obtain ⟨c0, c1, y1, hpv5, hvw5, hBr5⟩ := hcells w5 hbn)
                go_quiet (fail)
                go_wp2_with fail
                refine ⟨⟨k + 1, true, A5, m2 + 1, c5, _, hlt, by go_num, rfl, rfl, by omega, own_below hown5 (hwq _ _), fun p hp => ⟨(hzn p hp).1.below (hwq _ _), (hzn p hp).2⟩, by rw [List.map_append, List.append_assoc]; exact hO.out, hbn.trans ((hwq _ _).mono hBr5)⟩, by simp [intOf]; exact hmeas.out⟩
              · rw [decide_eq_false he] at hse
                rw [goL_take he] at hO
                have hO := Lib.hid hO
                clear hk he hdr hL hy
                go_wp2_with fail
                go_quiet (fail)
                go_wp2_with (at_builtin; refine wpList_append_fq rfl (.tmp 62) (.tmp 67) rfl rfl hown (hwq _ _) 1 _ x.name now rfl hvw hn8 hzv hb hBr (by omega) ?_; intro A5 c5 w5 hown5 hbn hzn; obtain ⟨c0, c1, y1, hpv5, hvw5, hBr5⟩ := hcells w5 hbn)
                go_quiet (fail)
                go_wp2_with (at_builtin; refine wpList_append_fq rfl (.tmp 77) (.tmp 82) rfl rfl hown5 (hwq _ _) 1 _ pn pd rfl hpv5 hpl hzn hbn hBr5 (by omega) ?_; intro A6 c6 w6 hown6 hbn6 hzn6)
                refine ⟨⟨k + 1, true, A6, m2 + 1 + 1, c6, _, hlt, by go_num, rfl, rfl, by omega, hown6, hzn6, by rw [List.map_append, List.map_append, List.append_assoc, List.append_assoc]; exact hO.out, hbn6⟩, by simp [intOf]; exact hmeas.out⟩
        · obtain rfl : k = n := by omega
          rw [List.drop_eq_nil_of_le (by omega)] at hO
          have hbf : ∀ w', Below B3 w3 w' → Below r0 w w' := fun w' hb => hb03.trans (hb.mono (by have := hb03.size; omega))
          cases b with
          | true =>
            rw [show goL x.name now true [] = [] from rfl, List.append_nil] at hO
            have hO := Lib.hid hO
            go_wp2_with fail
            go_ret
            exact ⟨⟨A2, m2, c2, zs, rfl, own_mono hown (Nat.zero_le _), hO.out, hzv⟩, by rw [hr0]; exact hbf _ hb⟩
          | false =>
            rw [show goL x.name now false [] = [(x.name, now)] from rfl] at hO
            have hO := Lib.hid hO
            go_wp2_with (at_builtin; refine wpList_append_fq rfl (.tmp 86) (.tmp 91) rfl rfl hown (Below.refl _ _) 1 _ x.name now rfl hvw hn8 hzv hb hBr (by omega) ?_; intro A5 c5 w5 hown5 hbn hzn)
            go_ret
            exact ⟨⟨A5, m2 + 1, c5, _, rfl, own_mono hown5 (Nat.zero_le _), by rw [List.map_append]; exact hO.out, hzn⟩, by rw [hr0]; exact hbf _ hbn⟩
end Go.Proofs.Ytkgcccllabofoaa
