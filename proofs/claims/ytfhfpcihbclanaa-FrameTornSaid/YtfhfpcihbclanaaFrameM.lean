/-
  The walks of the frames: frames that are made of parts.
-/
import Derived.Test.YtfhfpcihbclanaaFrameS
import Derived.Test.YtfhfpcihbclanaaPlain4
namespace Go.Proofs.Ytfhfpcihbclanaa
open Go.RowKit

/-- a slice of parts that reads as ps -/
def RdP (w : World) (A : Option Addr) (n : Nat) (ps : List (Int × List UInt8)) : Prop :=
  ps.length = n ∧ ∀ (i : Nat) z body, ps[i]? = some (z, body) → (-9223372036854775808 ≤ z ∧ z ≤ 9223372036854775807) ∧ ∃ (ad : Addr) (B : Option Addr) (m c : Nat), A = some ad ∧ w.cell? (ad.add (i * 2)) = some (.int .i64 z) ∧
    w.cell? ⟨(ad.add (i * 2)).block, (ad.add (i * 2)).off + 1, none⟩ = some (.slice B m c) ∧ Rd w B m body ∧ m ≤ c ∧ c ≤ maxLen
theorem RdP.below {w w' : World} {A : Option Addr} {n : Nat} {ps : List (Int × List UInt8)} (h : RdP w A n ps) (hb : Below w.heap.size w w') : RdP w' A n ps :=
  ⟨h.1, fun i z body hi => by
    obtain ⟨hz, ad, B, m, c, e, h1, h2, h3, h4⟩ := h.2 i z body hi
    exact ⟨hz, ad, B, m, c, e, (hb.cell (lt_of_cell h1)).trans h1, (hb.cell (lt_of_cell h2)).trans h2, h3.below hb, h4⟩⟩
/-- the frame that is made of a part -/
def partF (p : Int × List UInt8) : Fr := ⟨(p.1.tmod 256).natAbs, p.2.take 100⟩
def madeF (ps : List (Int × List UInt8)) : List Fr := (ps.take 12).map partF
def endsL (fs : List Fr) : List Int := (List.range fs.length).map fun i => ((framesB (fs.take (i + 1))).length : Int)
theorem endsL_snoc (fs : List Fr) (f : Fr) : endsL (fs ++ [f]) = endsL fs ++ [((framesB (fs ++ [f])).length : Int)] := by
  unfold endsL
  rw [List.length_append, List.length_singleton, List.range_succ, List.map_append]
  congr 1
  · apply List.map_congr_left
    intro i hi
    rw [List.take_append_of_le_length (by have := List.mem_range.1 hi; omega)]
  · simp only [List.map_cons, List.map_nil]
    rw [List.take_of_length_le (by simp)]
theorem partF_ok (p : Int × List UInt8) : okFr (partF p) := by
  refine ⟨?_, ?_⟩
  · show (p.1.tmod 256).natAbs ≤ 255
    have h1 := Int.tmod_lt_of_pos p.1 (show (0 : Int) < 256 by omega)
    have h2 := Int.lt_tmod_of_pos p.1 (show (0 : Int) < 256 by omega)
    omega
  · show (p.2.take 100).length ≤ 65536
    rw [List.length_take]; omega
theorem framesB_le (fs : List Fr) (h : ∀ f ∈ fs, f.body.length ≤ 100) : (framesB fs).length ≤ 109 * fs.length := by
  induction fs with
  | nil => simp [framesB]
  | cons f fs ih =>
    have h1 := h f (by simp)
    have h2 := ih (fun g hg => h g (by simp [hg]))
    rw [framesB_cons, List.length_append, frameB_len, List.length_cons]
    omega

/-- append one int -/
theorem i64_info : (Try.prog.info? 3).map (fun i => (i.zero, i.size, i.bytes)) = some (some (.int .i64 0), 1, 8) := by kernel_rfl
theorem wpList_append_i {w : World} {ops : Array Oper} {rest : List Oper} {o : Oper} {a : Act} {Q : Exit → Act → World → Prop} (hgd : o.guard = none) (s x : Operand)
    (ho : o.op = .call { callee := .builtin .append, args := #[s, x], argTypes := #[57, 57] })
    (base : Nat) {A : Option Addr} {n c : Nat} {l : List Value} (hs : a.eval s = .slice A n c) (hown : w.ownsRow base 3 1 (.slice A n c) n l)
    (g d : Nat) (z : Int) (hx : a.eval x = .slice (some ⟨g, 0, none⟩) 1 d) (hb : Blk w g 3 #[.int .i64 z]) (hn : n ≤ 1000000) (hbase : base ≤ w.heap.size)
    (h : ∀ A' c' w', w'.ownsRow base 3 1 (.slice A' (n + 1) c') (n + 1) (l ++ [.int .i64 z]) → w.grownBy w' (Value.slice A n c).ownBlock → Below base w w' → wpList Try.prog ops Q rest (a.put o.dst (.slice A' (n + 1) c')) w') : wpList Try.prog ops Q (o :: rest) a w := by
  obtain ⟨i0, hi0, hz0, hz1, hz2⟩ := info_parts i64_info
  refine wpList_append_any w hgd s x 57 ho base 3 i0 _ 1 8 Try.underlying57 hi0 hz0 hz1 hz2 rfl (by omega) (.slice A n c) n _ hs hown (some ⟨g, 0, none⟩) 1 d [.int .i64 z] hx ⟨rfl, fun _ => ⟨_, rfl, fun j u hu => ?_⟩⟩ (fun u hu => by rw [List.mem_singleton.1 hu]; rfl) (by unfold maxLen; omega) (by omega) hbase fun A' c' w' h1 h2 _ => ?_
  · match j with
    | 0 =>
      simp only [List.getElem?_cons_zero, Option.some.injEq] at hu
      subst hu
      rw [add_nought]
      exact hb.cell 0
    | j + 1 => simp at hu
  · exact h A' c' w' h1 h2 (below_own hown h2 hbase)

/-- what is made -/
def MadeOk (w : World) (fs : List Fr) (e : Ending) (w' : World) : Prop :=
  ∃ A1 c1 A2 c2 A3 c3, e = .returned (.tuple #[.slice A1 (framesB fs).length c1, .slice A2 fs.length c2, .slice A3 fs.length c3]) ∧
    w'.ownsRow w.heap.size 5 1 (.slice A1 (framesB fs).length c1) (framesB fs).length ((framesB fs).map vb) ∧
    RdF w' A2 fs.length fs ∧ fs.length ≤ c2 ∧ c2 ≤ maxLen ∧
    w'.ownsRow w.heap.size 3 1 (.slice A3 fs.length c3) fs.length ((endsL fs).map (Value.int .i64)) ∧ Below w.heap.size w w'

theorem Rd.few {w : World} {B : Option Addr} {m n' : Nat} {l : List UInt8} (h : Rd w B m l) (hn1 : n' ≤ 100) (hn2 : n' ≤ m) (hl : (l.take 100).length = n') : Rd w B n' (l.take 100) := by
  have e : l.take 100 = l.take n' := by
    rw [List.length_take, h.len] at hl
    by_cases h100 : m ≤ 100
    · rw [List.take_of_length_le (by rw [h.len]; omega), List.take_of_length_le (by rw [h.len]; omega)]
    · have : n' = 100 := by omega
      rw [this]
  rw [e]
  exact h.take hn2

set_option maxHeartbeats 1000000 in
theorem made_any (A : Option Addr) (n c : Nat) (ps : List (Int × List UInt8)) (w : World) (hr : RdP w A n ps) :
    Calls Try.prog 34 #[.slice A n c] w (MadeOk w (madeF ps)) := by
  have Hl := Lib.hid hr.1

  have hfl : ∀ j, (framesB (((ps.take j).map partF))).length ≤ 109 * j := fun j => by
    have h := framesB_le ((ps.take j).map partF) (fun f hf => by
      obtain ⟨p, _, rfl⟩ := List.mem_map.1 hf
      show (p.2.take 100).length ≤ 100
      rw [List.length_take]; omega)
    rw [List.length_map, List.length_take] at h
    omega
  have Hfl := Lib.hid hfl
  clear hfl
  go_enter Try.func34, Try.ntmps34
  go_wp2
  go_loopw [5, 6, 7, 8, 9, 10] (fun vb_ vf ve i _ _ wr => ∃ (j : Nat) (A1 A2 A3 : Option Addr) (c1 c2 c3 N : Nat) (ys : List Lie), j ≤ n ∧ j ≤ 12 ∧ i = .int .i64 j ∧ N = (framesB ((ps.take j).map partF)).length ∧
      vb_ = .slice A1 N c1 ∧ wr.ownsRow w.heap.size 5 1 (.slice A1 N c1) N ((framesB ((ps.take j).map partF)).map vb) ∧
      vf = .slice A2 j c2 ∧ wr.ownsRow w.heap.size 46 2 (.slice A2 j c2) j (lies ys) ∧ ys.map Lie.fr = (ps.take j).map partF ∧ (∀ y ∈ ys, Rd w y.A y.fr.body.length y.fr.body ∧ y.fr.body.length ≤ y.c ∧ y.c ≤ maxLen) ∧
      ve = .slice A3 j c3 ∧ wr.ownsRow w.heap.size 3 1 (.slice A3 j c3) j ((endsL ((ps.take j).map partF)).map (Value.int .i64)) ∧ Below w.heap.size w wr) (fun _ _ _ i _ _ _ => n - (intOf i).toNat)
  case atStart => exact ⟨0, none, none, none, 0, 0, 0, 0, [], Nat.zero_le _, Nat.zero_le _, rfl, rfl, rfl, own_nil _ _, rfl, own_nil _ _, rfl, fun y hy => absurd hy (by simp), rfl, own_nil _ _, Below.refl _ _⟩
  case round =>
    obtain ⟨j, A1, A2, A3, c1, c2, c3, N, ys, hj, hj12, rfl, hN, rfl, hown1, rfl, hown2, hys, hbods, rfl, hown3, hb⟩ := hrel
    have HN := Lib.hid hN
    clear hN
    by_cases hlt : j < n ∧ j < 12
    · obtain ⟨hl1, hl2⟩ := hlt
      have hp : ∃ z body, ps[j]? = some (z, body) := ⟨_, _, List.getElem?_eq_getElem (by rw [Hl.out]; exact hl1)⟩
      obtain ⟨z, body, hp⟩ := hp
      obtain ⟨hz, ad, B, m, d, rfl, hc1w, hc2w, hrbw, hmd, hd⟩ := hr.2 j z body hp
      have hc1 := (hb.cell (lt_of_cell hc1w)).trans hc1w
      have hc2 := (hb.cell (lt_of_cell hc2w)).trans hc2w
      have hrb := hrbw.below hb
      have htk : ps.take (j + 1) = ps.take j ++ [(z, body)] := by rw [List.take_add_one, hp]; rfl
      have Htk := Lib.hid htk
      clear hc1w hc2w htk hp
      unfold maxLen at hd
      by_cases h0 : 0 ≤ z
      · obtain ⟨K, hKz, hK⟩ : ∃ K : Nat, z % 256 = K ∧ K ≤ 255 := ⟨(z % 256).toNat, by omega, by omega⟩
        have hpf : partF (z, body) = ⟨K, body.take 100⟩ := by
          unfold partF
          rw [Int.tmod_eq_emod_of_nonneg h0, hKz]; rfl
        have Hpf := Lib.hid hpf
        clear hpf
        go_wp2_with fail
        refine (few3_any B m d 100 body _ hrb (Nat.le_trans hmd hd) hmd (by unfold maxLen; omega)).mono ?_
        rintro e w' ⟨⟨n', rfl, hn1, hn2, hrb'⟩, rfl⟩
        have hrw' : Rd w B n' (body.take 100) := hrbw.few hn1 hn2 hrb'.len
        generalize body.take 100 = bd at *
        have hbl := hrb'.len
        have hst : (ps.take (j + 1)).map partF = (ps.take j).map partF ++ [⟨K, bd⟩] := by rw [Htk.out, List.map_append, ← Hpf.out]; rfl
        have hN' : (framesB ((ps.take (j + 1)).map partF)).length = N + (n' + 9) := by rw [hst, framesB_snoc, List.length_append, ← HN.out, frameB_len, hbl]
        have hNl := Hfl.out (j + 1)
        rw [hN'] at hNl
        have hfb : framesB ((ps.take (j + 1)).map partF) = framesB ((ps.take j).map partF) ++ frameB K bd := by rw [hst, framesB_snoc]
        have hen : endsL ((ps.take (j + 1)).map partF) = endsL ((ps.take j).map partF) ++ [((N + (n' + 9) : Nat) : Int)] := by rw [hst, endsL_snoc, ← hst, hN']
        have Hst := Lib.hid hst
        have HN' := Lib.hid hN'
        have Hfb := Lib.hid hfb
        have Hen := Lib.hid hen
        clear hst hN' hfb hen
        go_wp2_with fail
        refine (put_ok A1 B N c1 K n' d _ bd _ (Rd.of_own hown1) hrb' (by omega) hK (by omega)).mono ?_
        rintro e w1 ⟨A4, c4, rfl, hown4, hb4⟩
        have hb04 := below_then hb hb4 (Nat.le_refl _)
        have hb45 := (Below.refl w1.heap.size w1).alloc (Nat.le_refl _) (.cells #[.int .i64 (K : Nat), .slice B n' d] 46)
        have hb05 := hb04.alloc hb04.size (.cells #[.int .i64 (K : Nat), .slice B n' d] 46)
        have hown4' := own_mono (own_below hown4 hb45) hb.size
        have hown2' := own_below (own_below hown2 hb4) hb45
        have hown3' := own_below (own_below hown3 hb4) hb45
        have hblk5 := Blk.new w1 46 #[.int .i64 (K : Nat), .slice B n' d]
        clear hown1 hown2 hown3 hown4
        go_wp2_with (first
          | (at_builtin; refine wpList_append_f rfl (.tmp 44) (.tmp 48) 51 rfl w.heap.size 46 Try.underlying51 rfr_info A2 j c2 ys rfl hown2' w1.heap.size 1 ⟨⟨K, bd⟩, B, d⟩ B n' d K ⟨rfl, rfl, hbl, rfl⟩ rfl hblk5 (by omega) hb05.size ?_
             intro A6 c6 w6 hown6 hg6 hb6
             have hown46 := own_grown (by decide) hown2' hown4' hg6
             have hown36 := own_grown (by decide) hown2' hown3' hg6
             have hb06 := hb05.trans hb6
             have hb67 := (Below.refl w6.heap.size w6).alloc (Nat.le_refl _) (.cells #[.int .i64 ((N : Int) + ((n' : Int) + 9))] 3)
             have hb07 := hb06.alloc hb06.size (.cells #[.int .i64 ((N : Int) + ((n' : Int) + 9))] 3)
             have hown47 := own_below hown46 hb67
             have hown37 := own_below hown36 hb67
             have hown67 := own_below hown6 hb67
             have hblk7 := Blk.new w6 3 #[.int .i64 ((N : Int) + ((n' : Int) + 9))]
             clear hg6 hb6 hown46 hown36 hown6 hb67)
          | (at_builtin; refine wpList_append_i rfl (.tmp 50) (.tmp 53) rfl w.heap.size rfl hown37 w6.heap.size 1 ((N : Int) + ((n' : Int) + 9)) rfl hblk7 (by omega) hb07.size ?_
             intro A8 c8 w8 hown8 hg8 hb8
             have hown48 := own_grown (by decide) hown37 hown47 hg8
             have hown68 := own_grown (by decide) hown37 hown67 hg8
             have hb08 := hb07.trans hb8
             clear hg8 hb8)
          | fail)
        go_roundw
        case rel =>
          refine ⟨j + 1, A4, A6, A8, c4, c6, c8, N + (n' + 9), ys ++ [⟨⟨K, bd⟩, B, d⟩], by omega, by omega, by go_num, HN'.out.symm, rfl, ?_, rfl, hown68, ?_, ?_, rfl, ?_, hb08⟩
          · rw [Hfb.out]; exact hown48
          · rw [Hst.out, List.map_append, hys]; rfl
          · intro y hy
            rcases List.mem_append.1 hy with hy | hy
            · exact hbods y hy
            · rw [List.mem_singleton.1 hy]
              exact ⟨by rw [show (⟨⟨K, bd⟩, B, d⟩ : Lie).fr.body.length = n' from hbl]; exact hrw', by show bd.length ≤ d; omega, by unfold maxLen; exact hd⟩
          · rw [Hen.out, List.map_append]; exact hown8
        case measure => simp [intOf]; omega
      · have hneg : ¬ 0 ≤ z := h0
        by_cases h1 : z.tmod 256 < 0
        · obtain ⟨K, hKz, hK⟩ : ∃ K : Nat, z.tmod 256 = -(K : Int) ∧ K ≤ 255 := by
            have h2 := Int.lt_tmod_of_pos z (show (0 : Int) < 256 by omega)
            exact ⟨(-(z.tmod 256)).toNat, by omega, by omega⟩
          have hK0 : -(K : Int) < 0 := by omega
          have hpf : partF (z, body) = ⟨K, body.take 100⟩ := by
            unfold partF
            rw [hKz]; simp
          have Hpf := Lib.hid hpf
          clear hpf h1 hneg
          go_wp2_with fail
          refine (few3_any B m d 100 body _ hrb (Nat.le_trans hmd hd) hmd (by unfold maxLen; omega)).mono ?_
          rintro e w' ⟨⟨n', rfl, hn1, hn2, hrb'⟩, rfl⟩
          have hrw' : Rd w B n' (body.take 100) := hrbw.few hn1 hn2 hrb'.len
          generalize body.take 100 = bd at *
          have hbl := hrb'.len
          have hst : (ps.take (j + 1)).map partF = (ps.take j).map partF ++ [⟨K, bd⟩] := by rw [Htk.out, List.map_append, ← Hpf.out]; rfl
          have hN' : (framesB ((ps.take (j + 1)).map partF)).length = N + (n' + 9) := by rw [hst, framesB_snoc, List.length_append, ← HN.out, frameB_len, hbl]
          have hNl := Hfl.out (j + 1)
          rw [hN'] at hNl
          have hfb : framesB ((ps.take (j + 1)).map partF) = framesB ((ps.take j).map partF) ++ frameB K bd := by rw [hst, framesB_snoc]
          have hen : endsL ((ps.take (j + 1)).map partF) = endsL ((ps.take j).map partF) ++ [((N + (n' + 9) : Nat) : Int)] := by rw [hst, endsL_snoc, ← hst, hN']
          have Hst := Lib.hid hst
          have HN' := Lib.hid hN'
          have Hfb := Lib.hid hfb
          have Hen := Lib.hid hen
          clear hst hN' hfb hen
          go_wp2_with fail
          refine (put_ok A1 B N c1 K n' d _ bd _ (Rd.of_own hown1) hrb' (by omega) hK (by omega)).mono ?_
          rintro e w1 ⟨A4, c4, rfl, hown4, hb4⟩
          have hb04 := below_then hb hb4 (Nat.le_refl _)
          have hb45 := (Below.refl w1.heap.size w1).alloc (Nat.le_refl _) (.cells #[.int .i64 (K : Nat), .slice B n' d] 46)
          have hb05 := hb04.alloc hb04.size (.cells #[.int .i64 (K : Nat), .slice B n' d] 46)
          have hown4' := own_mono (own_below hown4 hb45) hb.size
          have hown2' := own_below (own_below hown2 hb4) hb45
          have hown3' := own_below (own_below hown3 hb4) hb45
          have hblk5 := Blk.new w1 46 #[.int .i64 (K : Nat), .slice B n' d]
          clear hown1 hown2 hown3 hown4
          go_wp2_with (first
            | (at_builtin; refine wpList_append_f rfl (.tmp 44) (.tmp 48) 51 rfl w.heap.size 46 Try.underlying51 rfr_info A2 j c2 ys rfl hown2' w1.heap.size 1 ⟨⟨K, bd⟩, B, d⟩ B n' d K ⟨rfl, rfl, hbl, rfl⟩ rfl hblk5 (by omega) hb05.size ?_
               intro A6 c6 w6 hown6 hg6 hb6
               have hown46 := own_grown (by decide) hown2' hown4' hg6
               have hown36 := own_grown (by decide) hown2' hown3' hg6
               have hb06 := hb05.trans hb6
               have hb67 := (Below.refl w6.heap.size w6).alloc (Nat.le_refl _) (.cells #[.int .i64 ((N : Int) + ((n' : Int) + 9))] 3)
               have hb07 := hb06.alloc hb06.size (.cells #[.int .i64 ((N : Int) + ((n' : Int) + 9))] 3)
               have hown47 := own_below hown46 hb67
               have hown37 := own_below hown36 hb67
               have hown67 := own_below hown6 hb67
               have hblk7 := Blk.new w6 3 #[.int .i64 ((N : Int) + ((n' : Int) + 9))]
               clear hg6 hb6 hown46 hown36 hown6 hb67)
            | (at_builtin; refine wpList_append_i rfl (.tmp 50) (.tmp 53) rfl w.heap.size rfl hown37 w6.heap.size 1 ((N : Int) + ((n' : Int) + 9)) rfl hblk7 (by omega) hb07.size ?_
               intro A8 c8 w8 hown8 hg8 hb8
               have hown48 := own_grown (by decide) hown37 hown47 hg8
               have hown68 := own_grown (by decide) hown37 hown67 hg8
               have hb08 := hb07.trans hb8
               clear hg8 hb8)
            | fail)
          go_roundw
          case rel =>
            refine ⟨j + 1, A4, A6, A8, c4, c6, c8, N + (n' + 9), ys ++ [⟨⟨K, bd⟩, B, d⟩], by omega, by omega, by go_num, HN'.out.symm, rfl, ?_, rfl, hown68, ?_, ?_, rfl, ?_, hb08⟩
            · rw [Hfb.out]; exact hown48
            · rw [Hst.out, List.map_append, hys]; rfl
            · intro y hy
              rcases List.mem_append.1 hy with hy | hy
              · exact hbods y hy
              · rw [List.mem_singleton.1 hy]
                exact ⟨by rw [show (⟨⟨K, bd⟩, B, d⟩ : Lie).fr.body.length = n' from hbl]; exact hrw', by show bd.length ≤ d; omega, by unfold maxLen; exact hd⟩
            · rw [Hen.out, List.map_append]; exact hown8
          case measure => simp [intOf]; omega
        · have hKz : z.tmod 256 = 0 := by
            have h2 : z.tmod 256 = -((-z) % 256) := by rw [← Int.tmod_eq_emod_of_nonneg (by omega), Int.neg_tmod, Int.neg_neg]
            omega
          obtain ⟨K, hK0⟩ : ∃ K : Nat, K = 0 := ⟨0, rfl⟩
          have hK : K ≤ 255 := by omega
          have hpf : partF (z, body) = ⟨K, body.take 100⟩ := by
            unfold partF
            rw [hKz, hK0]; rfl
          have hKz' : z.tmod 256 = (K : Int) := by rw [hKz, hK0]; rfl
          have Hpf := Lib.hid hpf
          clear hpf h1 hneg hKz hK0
          go_wp2_with fail
          refine (few3_any B m d 100 body _ hrb (Nat.le_trans hmd hd) hmd (by unfold maxLen; omega)).mono ?_
          rintro e w' ⟨⟨n', rfl, hn1, hn2, hrb'⟩, rfl⟩
          have hrw' : Rd w B n' (body.take 100) := hrbw.few hn1 hn2 hrb'.len
          generalize body.take 100 = bd at *
          have hbl := hrb'.len
          have hst : (ps.take (j + 1)).map partF = (ps.take j).map partF ++ [⟨K, bd⟩] := by rw [Htk.out, List.map_append, ← Hpf.out]; rfl
          have hN' : (framesB ((ps.take (j + 1)).map partF)).length = N + (n' + 9) := by rw [hst, framesB_snoc, List.length_append, ← HN.out, frameB_len, hbl]
          have hNl := Hfl.out (j + 1)
          rw [hN'] at hNl
          have hfb : framesB ((ps.take (j + 1)).map partF) = framesB ((ps.take j).map partF) ++ frameB K bd := by rw [hst, framesB_snoc]
          have hen : endsL ((ps.take (j + 1)).map partF) = endsL ((ps.take j).map partF) ++ [((N + (n' + 9) : Nat) : Int)] := by rw [hst, endsL_snoc, ← hst, hN']
          have Hst := Lib.hid hst
          have HN' := Lib.hid hN'
          have Hfb := Lib.hid hfb
          have Hen := Lib.hid hen
          clear hst hN' hfb hen
          go_wp2_with fail
          refine (put_ok A1 B N c1 K n' d _ bd _ (Rd.of_own hown1) hrb' (by omega) hK (by omega)).mono ?_
          rintro e w1 ⟨A4, c4, rfl, hown4, hb4⟩
          have hb04 := below_then hb hb4 (Nat.le_refl _)
          have hb45 := (Below.refl w1.heap.size w1).alloc (Nat.le_refl _) (.cells #[.int .i64 (K : Nat), .slice B n' d] 46)
          have hb05 := hb04.alloc hb04.size (.cells #[.int .i64 (K : Nat), .slice B n' d] 46)
          have hown4' := own_mono (own_below hown4 hb45) hb.size
          have hown2' := own_below (own_below hown2 hb4) hb45
          have hown3' := own_below (own_below hown3 hb4) hb45
          have hblk5 := Blk.new w1 46 #[.int .i64 (K : Nat), .slice B n' d]
          clear hown1 hown2 hown3 hown4
          go_wp2_with (first
            | (at_builtin; refine wpList_append_f rfl (.tmp 44) (.tmp 48) 51 rfl w.heap.size 46 Try.underlying51 rfr_info A2 j c2 ys rfl hown2' w1.heap.size 1 ⟨⟨K, bd⟩, B, d⟩ B n' d K ⟨rfl, rfl, hbl, rfl⟩ rfl hblk5 (by omega) hb05.size ?_
               intro A6 c6 w6 hown6 hg6 hb6
               have hown46 := own_grown (by decide) hown2' hown4' hg6
               have hown36 := own_grown (by decide) hown2' hown3' hg6
               have hb06 := hb05.trans hb6
               have hb67 := (Below.refl w6.heap.size w6).alloc (Nat.le_refl _) (.cells #[.int .i64 ((N : Int) + ((n' : Int) + 9))] 3)
               have hb07 := hb06.alloc hb06.size (.cells #[.int .i64 ((N : Int) + ((n' : Int) + 9))] 3)
               have hown47 := own_below hown46 hb67
               have hown37 := own_below hown36 hb67
               have hown67 := own_below hown6 hb67
               have hblk7 := Blk.new w6 3 #[.int .i64 ((N : Int) + ((n' : Int) + 9))]
               clear hg6 hb6 hown46 hown36 hown6 hb67)
            | (at_builtin; refine wpList_append_i rfl (.tmp 50) (.tmp 53) rfl w.heap.size rfl hown37 w6.heap.size 1 ((N : Int) + ((n' : Int) + 9)) rfl hblk7 (by omega) hb07.size ?_
               intro A8 c8 w8 hown8 hg8 hb8
               have hown48 := own_grown (by decide) hown37 hown47 hg8
               have hown68 := own_grown (by decide) hown37 hown67 hg8
               have hb08 := hb07.trans hb8
               clear hg8 hb8)
            | fail)
          go_roundw
          case rel =>
            refine ⟨j + 1, A4, A6, A8, c4, c6, c8, N + (n' + 9), ys ++ [⟨⟨K, bd⟩, B, d⟩], by omega, by omega, by go_num, HN'.out.symm, rfl, ?_, rfl, hown68, ?_, ?_, rfl, ?_, hb08⟩
            · rw [Hfb.out]; exact hown48
            · rw [Hst.out, List.map_append, hys]; rfl
            · intro y hy
              rcases List.mem_append.1 hy with hy | hy
              · exact hbods y hy
              · rw [List.mem_singleton.1 hy]
                exact ⟨by rw [show (⟨⟨K, bd⟩, B, d⟩ : Lie).fr.body.length = n' from hbl]; exact hrw', by show bd.length ≤ d; omega, by unfold maxLen; exact hd⟩
            · rw [Hen.out, List.map_append]; exact hown8
          case measure => simp [intOf]; omega
    · have hall : ps.take j = ps.take 12 := by
        by_cases h12 : j < 12
        · have hjn : j = n := by omega
          rw [List.take_of_length_le (by rw [Hl.out]; omega), List.take_of_length_le (by rw [Hl.out]; omega)]
        · rw [show j = 12 by omega]
      have hlen : (madeF ps).length = j := by
        unfold madeF
        rw [List.length_map, List.length_take, Hl.out]
        omega
      have hmade : (ps.take j).map partF = madeF ps := by unfold madeF; rw [hall]
      have hN := HN.out
      rw [hmade] at hown1 hown3 hys hN
      have hfin : MadeOk w (madeF ps) (.returned (.tuple #[.slice A1 N c1, .slice A2 j c2, .slice A3 j c3])) wr := by
        unfold MadeOk
        rw [hlen, ← hN]
        have hbd := own_bounds hown2
        exact ⟨A1, c1, A2, c2, A3, c3, rfl, hown1, ⟨ys, hys, Rds.of_own hown2, fun y hy => ⟨(hbods y hy).1.below hb, (hbods y hy).2⟩⟩, hbd.1, hbd.2, hown3, hb⟩
      have Hfin := Lib.hid hfin
      clear hfin hown1 hown2 hown3 hmade hall hlen hN
      by_cases hjn : j < n
      · have hj12 : j = 12 := by omega
        subst hj12
        clear hlt
        go_wp2
        exact bodyPost_ret (v := .tuple #[.slice A1 N c1, .slice A2 12 c2, .slice A3 12 c3]) (by simp [results, Try.results34, go_sem]) rfl Hfin.out
      · clear hlt
        go_wp2
        exact bodyPost_ret (v := .tuple #[.slice A1 N c1, .slice A2 j c2, .slice A3 j c3]) (by simp [results, Try.results34, go_sem]) rfl Hfin.out
end Go.Proofs.Ytfhfpcihbclanaa
