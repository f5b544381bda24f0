/-
  The law TrackDrops.
-/
import Derived.Test.YtojmkbhihnnmaaaT31
import Derived.Deep.CutBlock
import Derived.Deep.DeepCutAuto
namespace Go.Proofs.Ytojmkbhihnnmaaa
open Go.RowKit

theorem drop_code {t : Trk} (h : t.Inv) (i : Int) : ((t.dropF i).1 = 0 ↔ i ≤ t.lastF.1) ∧ ((t.dropF i).1 = 0 ∨ (t.dropF i).1 = 33) := by
  have hl := h.last
  have hb := h.b
  unfold Trk.dropF Trk.termF
  by_cases h1 : i < t.index
  · rw [if_pos h1]
    simp
    omega
  · rw [if_neg h1]
    by_cases h2 : i = t.index
    · rw [if_pos h2]
      simp
      omega
    · rw [if_neg h2]
      by_cases h3 : t.index + t.L.length < i
      · rw [List.getElem?_eq_none (by omega)]
        simp
        omega
      · rw [List.getElem?_eq_getElem (show (i - t.index - 1).toNat < t.L.length by omega)]
        simp
        omega
/-- behind a drop: the end stays; the base is further on, what stands behind stays -/
theorem drop_spec {t : Trk} (h : t.Inv) (i : Int) : (t.dropF i).2.lastF = t.lastF ∧ ((t.dropF i).1 ≠ 0 ∨ i ≤ t.index → (t.dropF i).2.index = t.index) ∧
    ((t.dropF i).1 = 0 → t.index < i → ∃ k : Nat, i - t.index = k ∧ k ≤ t.L.length ∧ (t.dropF i).2.index = i ∧ (t.dropF i).2.L = t.L.drop k) := by
  have hl := h.last
  have hb := h.b
  by_cases h1 : i < t.index
  · have e : t.dropF i = (0, t) := by unfold Trk.dropF Trk.termF; rw [if_pos h1]; rfl
    rw [e]
    exact ⟨rfl, fun _ => rfl, fun _ h => by omega⟩
  · by_cases h2 : t.index + t.L.length < i
    · have hv : t.termF i = (0, 33) := by
        unfold Trk.termF
        rw [if_neg h1, if_neg (by omega), List.getElem?_eq_none (by omega)]
      have e : t.dropF i = (33, t) := by
        unfold Trk.dropF
        rw [hv]
        rfl
      rw [e]
      exact ⟨rfl, fun _ => rfl, fun h => absurd (show (33 : Int) = 0 from h) (by decide)⟩
    · obtain ⟨k, hk⟩ : ∃ k : Nat, i - t.index = k := ⟨(i - t.index).toNat, by omega⟩
      obtain ⟨v, hv, hve⟩ : ∃ v, t.termF i = (v, 0) ∧ v = prevT t.term t.L k := by
        obtain ⟨v, hv⟩ : ∃ v, t.termF i = (v, 0) := by
          unfold Trk.termF
          rw [if_neg h1]
          by_cases h3 : i = t.index
          · exact ⟨_, if_pos h3⟩
          · rw [if_neg h3, List.getElem?_eq_getElem (show (i - t.index - 1).toNat < t.L.length by omega)]
            exact ⟨_, rfl⟩
        refine ⟨v, hv, ?_⟩
        have := (termF_in hv).2.2
        rw [this, hk]
        rfl
      have e : t.dropF i = (0, ⟨i, v, t.L.drop k⟩) := by
        unfold Trk.dropF
        rw [hv, hk]; rfl
      have hi2 := h.dropF i
      rw [e] at hi2 ⊢
      have hl2 := hi2.last
      refine ⟨Prod.ext ?_ ?_, fun h4 => ?_, fun _ h4 => ⟨k, hk, by omega, rfl, rfl⟩⟩
      · rw [hl2, hl]
        show i + ((t.L.drop k).length : Int) = _
        rw [List.length_drop]
        omega
      · rw [Trk.lastT, Trk.lastT]
        show prevT v (t.L.drop k) (t.L.drop k).length = _
        rw [List.length_drop]
        rcases Nat.eq_zero_or_pos (t.L.length - k) with h5 | h5
        · rw [h5, show t.L.length = k by omega]
          exact hve
        · obtain ⟨q, hq⟩ : ∃ q, t.L.length - k = q + 1 := ⟨t.L.length - k - 1, by omega⟩
          rw [hq, prevT_succ, List.getElem?_drop, show t.L.length = (k + q) + 1 by omega, prevT_succ, List.getElem?_eq_getElem (show k + q < t.L.length by omega)]
      · rcases h4 with h4 | h4
        · exact absurd rfl h4
        · show i = t.index
          omega
theorem slice_behind {t u : Trk} {i : Int} {k : Nat} (hu : u.index = i) (hL : u.L = t.L.drop k) (hN : t.L.length ≤ 1000) : u.sliceF (i + 1) 1000 = t.L.drop k := by
  unfold Trk.sliceF
  rw [hu, if_neg (by omega), show (i + 1 - i - 1).toNat = 0 by omega, List.drop_zero, hL, List.take_of_length_le (by rw [List.length_drop]; omega)]
theorem term_gone {u : Trk} {i : Int} (hu : u.index = i) : u.termF (i - 1) = (0, 34) := if_pos (by omega)
/-- a row of the call's own stays where a track acts that was there before it -/
theorem EsNew.act {z : Nat} {S : Nat → Prop} {w0 w w' : World} {g n c n5 c5 : Nat} {t : Trk} {A A5 : Option Addr} {zs zs5 : List (Value × En)} {L : List En} (h : EsNew w0.heap.size w A5 n5 c5 zs5 L) (h0 : TrkIn z S w0 g t A n c zs) (h1 : TrkIn z S w g t A n c zs) (hF : Fr (fun j => j = g ∨ rowOf A j) w w') : EsNew w0.heap.size w' A5 n5 c5 zs5 L := by
  refine ⟨own_keep h.1 fun j hj hl => hF.block j hl fun hx => ?_, h.2.1.move (h1.tstay hF (by decide) (by decide)), h.2.2⟩
  have := (own_row_blk h.1 A5 c5 rfl j hj).2.1
  rcases hx with rfl | hx
  · have := h0.b.lt; omega
  · have := (h0.rowlt j hx).1; omega
set_option maxRecDepth 100000 in
set_option maxHeartbeats 4000000 in
theorem trackDrops_any {A : Option Addr} {n c : Nat} {rs : List Dr} {w : World} (i tm a : Int) (hD : DdsV w.heap.size w A n rs) (ha : -9223372036854775808 ≤ a ∧ a ≤ 9223372036854775807) :
    Calls Try.prog 13 #[.int .i64 i, .int .i64 tm, .slice A n c, .int .i64 a] w fun e w' => e = .returned (.bool true) ∧ Below w.heap.size w w' := by
  cases hb : baseB i tm with
  | false =>
    have h1 := tnew_nil hb w
    have h2 := rnew_nil hb w
    go_enter Try.func13, Try.ntmps13
    go_wp2_with fail
    refine h1.mono ?_
    rintro e w1 ⟨rfl, rfl⟩
    go_wp2_with fail
    refine h2.mono ?_
    rintro e w1 ⟨rfl, rfl⟩
    go_wp2_with fail
    refine (tlives_any w).mono ?_
    rintro e w1 ⟨rfl, hb1⟩
    go_wp2_with fail
    go_ret
    exact ⟨rfl, hb1⟩
  | true =>
    have h1 := tnew_ok hb w
    go_enter Try.func13, Try.ntmps13
    go_wp2_with fail
    refine h1.mono ?_
    rintro e w1 ⟨rfl, hk1, hb1⟩
    have h2 := rnew_ok hb w1
    go_wp2_with fail
    refine h2.mono ?_
    rintro e w2 ⟨rfl, hk2, hb2⟩
    have hP := two_new hb hb1 hk1 hb2 hk2
    have hb02 := below_then hb1 hb2 (Nat.le_refl _)
    clear h1 h2 hk1 hk2 hb1 hb2
    generalize w1.heap.size = gr at *
    obtain ⟨z, hz⟩ : ∃ z, w.heap.size = z := ⟨_, rfl⟩
    rw [hz] at hP hD hb02 ⊢
    go_upto_block 0 with fail
    go_cut [] (fun wr => ∃ t' M, Two z M wr z gr t' t' ∧ t'.L.length ≤ 400 ∧ Below z w wr)
    case first =>
      go_wp2_with fail
      go_loopw [11, 12] (fun i' _ wr => ∃ (k : Nat) (t' : Trk) (M : Nat), k ≤ n ∧ k ≤ 30 ∧ i' = .int .i64 k ∧ Two z M wr z gr t' t' ∧ t'.L.length ≤ 12 * k ∧ Below z w wr) (fun i' _ _ => 30 - (intOf i').toNat)
      case atStart => exact ⟨0, _, _, Nat.zero_le _, Nat.zero_le _, rfl, hP, Nat.le_refl _, hb02⟩
      case round =>
        clear hP hb02
        obtain ⟨k, t, M, hk, hk4, rfl, hP, hL, hbw⟩ := hrel
        by_cases hlt : k < n ∧ k < 30
        · obtain ⟨hlt, hl4⟩ := hlt
          obtain ⟨ad, r, rfl, hr, hv, c0, c1, c2, c3, c4, c5, c6, c7⟩ := (hD.below hbw).at_ hlt
          have hcall := tdoes_any hP (by omega) hv
          have hL2 := doF_len t r.x
          unfold ddV at hcall
          clear hr
          have hmeas := Lib.hid (show 30 - (k + 1) < 30 - k by omega)
          go_wp2_with fail
          refine hcall.mono ?_
          rintro e w3 ⟨rfl, M3, hP3, hb3⟩
          clear hcall c0 c1 c2 c3 c4 c5 c6 c7
          go_wp2_with fail
          go_roundw
          case rel => exact ⟨k + 1, _, _, hlt, hl4, by go_num, hP3, by omega, hbw.trans hb3⟩
          case measure => simp [intOf]; have := hmeas.out; omega
        · rcases (show ¬ k < n ∨ (k < n ∧ ¬ k < 30) by omega) with h | ⟨h, h'⟩
          all_goals
            clear hlt
            go_wp2
            go_meet
            exact ⟨t, M, hP, by omega, hbw⟩
    case rest =>
      rename World => w3
      obtain ⟨t, M, hP3, hL, hb03⟩ := hcut
      clear hP hb02
      obtain ⟨S, At, n1, ct, zs, A2, n2, c2, zs2, h1, h2, _⟩ := id hP3
      have hzz := hP3.zw
      have hinv := h1.i
      have hib := hinv.b
      have hn1 := h1.nlen hL
      have hbase := tbase_any h1
      obtain ⟨r0, r1, r2⟩ := h2.cells
      have hsl := tslice_any (t.index + 1) 1000 h1 (by omega)
      rw [slice_thousand (by omega)] at hsl
      go_wp2_with fail
      refine hsl.mono ?_
      rintro e w5 ⟨A5, n5, c5, zs5, rfl, hE5, hb5⟩
      have hlen5 := hE5.len
      have hbd5 := own_bounds hE5.1
      have h15 := h1.below hb5
      have hbase := tbase_any h15
      clear hsl r0 r1 r2
      go_wp2_with fail
      refine hbase.mono ?_
      rintro e w6 ⟨rfl, q, rfl⟩
      have hb56 : Below w5.heap.size w5 (w5.drewN q) := below_drewN (Below.refl _ _) q
      generalize w5.drewN q = w6 at *
      have h16 := h15.below hb56
      have hE6 := hE5.below hb56
      have hend := tend_below h16 (by omega)
      have hla := hinv.last
      obtain ⟨l1, hl1⟩ : ∃ l, t.lastF.1 = l := ⟨_, rfl⟩
      obtain ⟨l2, hl2⟩ : ∃ l, t.lastF.2 = l := ⟨_, rfl⟩
      rw [hl1, hl2] at hend
      clear hbase
      go_wp2_with fail
      refine hend.mono ?_
      rintro e w7 ⟨rfl, hb7⟩
      have h17 := h16.below hb7
      have hE7 := hE6.below hb7
      have hb37 := below_then (below_then hb5 hb56 (Nat.le_refl _)) hb7 (Nat.le_refl _)
      have hdrop := tdrop_any a h17 (by omega) (by have := hb37.size; omega)
      obtain ⟨⟨d1, t'⟩, hd⟩ : ∃ d, t.dropF a = d := ⟨_, rfl⟩
      have hcode := drop_code hinv a
      have hspec := drop_spec hinv a
      rw [hd] at hdrop hcode hspec
      dsimp only at hdrop hcode hspec
      rw [hl1] at hcode
      clear hend
      go_wp2_with fail
      refine hdrop.mono ?_
      rintro e w8 ⟨rfl, hP8⟩
      obtain ⟨A8, n8, c8, zs8, S8, h18, _, _, _, hF8⟩ := hP8
      have hE8 := hE7.act h1 h17 hF8
      have hb78 : Below z w7 w8 := hF8.below (fun j hj => by
        rcases hj with rfl | hj
        · exact h17.g
        · exact (h17.rowlt j hj).2.1) (by have := hb37.size; omega)
      have hb08 : Below z w w8 := (hb03.trans (hb37.mono hzz)).trans hb78
      have hinv8 := h18.i
      have hbase := tbase_any h18
      clear hdrop
      go_wp2_with fail
      refine hbase.mono ?_
      rintro e w9 ⟨rfl, q, rfl⟩
      have hb89 : Below w8.heap.size w8 (w8.drewN q) := below_drewN (Below.refl _ _) q
      have h19 := h18.below hb89
      have hE9 := hE8.below hb89
      have hzw8 : z ≤ w8.heap.size := by have := hb37.size; have := hb78.size; omega
      have hb09 := hb08.trans (hb89.mono hzw8)
      have hL8 : t'.L.length ≤ 400 := by have := dropF_len t a; rw [hd] at this; dsimp only at this; omega
      have hend := tend_below h19 (h19.nlen (N := 1000000) (by omega))
      rw [hspec.1, hl1, hl2] at hend
      generalize w8.drewN q = w9 at *
      clear hbase
      go_wp2_with fail
      refine hend.mono ?_
      rintro e wA ⟨rfl, hbA⟩
      have h1A := h19.below hbA
      have hEA := hE9.below hbA
      have hzw9 : z ≤ w9.heap.size := by have := hb89.size; omega
      have hb0A := hb09.trans (hbA.mono hzw9)
      rw [hl1] at hla
      have hroom := hinv.room
      replace hla := Lib.hid hla
      replace hroom := Lib.hid hroom
      clear hend h15 h16 hE5 hE6 hE7 hE8 hE9 h18 h19 hD hb56 hb7 hb78 hb89
      by_cases ca : a ≤ l1
      · obtain rfl : d1 = 0 := hcode.1.2 ca
        by_cases cb : a ≤ t.index
        · have hix := hspec.2.1 (.inr cb)
          rw [hix]
          clear hcode hspec
          go_wp2_with fail
          refine (tlives_any wA).mono ?_
          rintro e wB ⟨rfl, hbB⟩
          go_wp2_with fail
          go_ret
          exact ⟨rfl, by rw [hz]; exact hb0A.trans (hbB.mono (by have := hbA.size; omega))⟩
        · have ha2 : a ≤ 1099511627776 := by have := hla.out; have := hroom.out; omega
          obtain ⟨k, hk, hkl, hix, hLd⟩ := hspec.2.2 rfl (by omega)
          have hsb := slice_behind hix hLd (by omega)
          have htg := term_gone hix
          have hbd : Below wA.heap.size wA wA.drew := (Below.refl _ _).drew
          have hsl := tslice_any (a + 1) 1000 (h1A.below hbd) (h1A.nlen (N := 1000000) (by omega))
          rw [hsb] at hsl
          rw [hix]
          have hkn : k ≤ n5 := by omega
          have hk1 : 1 ≤ k := by omega
          obtain ⟨bd, _, _, rfl, _⟩ := RdE.at_ (Rds.of_own hEA.1) (show 0 < n5 by omega)
          have hmapk : (zs5.drop k).map (·.2) = t.L.drop k := by rw [List.map_drop, hEA.2.2]
          have hdk : DeepE (NewIn TD w3.heap.size wA) wA (zs5.drop k) := hEA.2.1.sub fun y hy => List.mem_of_mem_drop hy
          have hrk := Rds.cut (size := 6) (Rds.of_own hEA.1) (k := k) hkn hbd5.1
          rw [← flat_drop enC_len] at hrk
          have hk0 : ¬ a ≤ t.index := cb
          have hkk : a - t.index = (k : Int) := hk
          clear hcode hspec
          have hlk : (t.L.drop k).length = n5 - k := by rw [List.length_drop, hlen5.2]
          have hzA : z ≤ wA.heap.size := by have := hbA.size; omega
          have fin : ∀ w' wB : World, Below wA.heap.size wA w' → Below w'.heap.size w' wB → Below w.heap.size w wB := fun w' wB h1 h2 => by rw [hz]; exact hb0A.trans ((h1.mono hzA).trans (h2.mono (by have := h1.size; omega)))
          have hrk : RdE wA (if c5 = k then some bd else (some bd).map (·.add (k * 6))) (n5 - k) (zs5.drop k) := hrk
          have hkc5 : k ≤ c5 := by omega
          have hn5c := hbd5.1
          by_cases hck : c5 = k
          · rw [if_pos hck] at hrk
            clear hk hkl hla hroom
            go_wp2_with fail
            refine wp_region_mix (C := keepW [] wA) [([0, 1, 2, 4, 5, 6, 7, 8], 3), ([], 9)] [10] (by kernel_rfl) (by kernel_rfl) (fun _ _ _ _ e h => ⟨e.symm.trans h.1, h.2⟩) keepW_refl ?_
            refine wpSegs_step fun K1 hK1 => ?_
            simp only [pickL, List.getElem?_cons_zero, List.getElem?_cons_succ]
            repeat (go_big_quiet_step (fail))
            refine wpQuiet_nil ?_
            go_wp2_with fail
            refine hsl.mono ?_
            rintro e wB ⟨AB, nB, cB, zsB, rfl, hEB, hbB⟩
            have hbAB := hbd.trans hbB
            obtain rfl : nB = n5 - k := by have := hEB.len; omega
            have hrB := RdE.below hrk hbAB
            have hdB := hdk.move (TStay.below hbAB)
            have hcap : n5 - k ≤ maxLen := by unfold maxLen; omega
            go_wp2_with fail
            refine ⟨keepW_of (fun q hq => by cases hq), hK1 _ _ ?_⟩
            refine wpSegs_step fun K2 hK2 => ?_
            simp only [pickL, List.getElem?_cons_zero, List.getElem?_cons_succ]
            repeat (go_big_quiet_step (fail))
            refine wpQuiet_nil ?_
            go_wp2_with fail
            refine (sameEs_any (Rds.of_own hEB.1) hrB (hEB.2.2.trans hmapk.symm) hEB.2.1 hdB hcap).mono ?_
            rintro e wC ⟨rfl, hbC⟩
            have hbAC := below_then hbAB hbC (Nat.le_refl _)
            go_wp2_with fail
            refine ⟨keepW_of (fun q hq => by cases hq), hK2 _ _ ?_⟩
            refine wpSegs_last ?_
            simp only [pickL, List.getElem?_cons_zero, List.getElem?_cons_succ]
            repeat (go_big_quiet_step (fail))
            refine wpQuiet_nil ?_
            have htc := tterm_below (a - 1) (h1A.below hbAC) (h1A.nlen (N := 1000000) (by omega))
            rw [htg] at htc
            clear hsl
            go_wp2_with fail
            refine htc.mono ?_
            rintro e wD ⟨rfl, hbD⟩
            have hbAD := below_then hbAC hbD (Nat.le_refl _)
            go_wp2_with fail
            refine (tlives_any wD).mono ?_
            rintro e wE ⟨rfl, hbE⟩
            go_wp2_with fail
            go_ret
            exact ⟨rfl, fin _ _ hbAD hbE⟩
          · rw [if_neg hck] at hrk
            have hck' : ¬ c5 = k := hck
            clear hk hkl hla hroom
            go_wp2_with fail
            refine wp_region_mix (C := keepW [] wA) [([0, 1, 2, 4, 5, 6, 7, 8], 3), ([], 9)] [10] (by kernel_rfl) (by kernel_rfl) (fun _ _ _ _ e h => ⟨e.symm.trans h.1, h.2⟩) keepW_refl ?_
            refine wpSegs_step fun K1 hK1 => ?_
            simp only [pickL, List.getElem?_cons_zero, List.getElem?_cons_succ]
            repeat (go_big_quiet_step (fail))
            refine wpQuiet_nil ?_
            go_wp2_with fail
            refine hsl.mono ?_
            rintro e wB ⟨AB, nB, cB, zsB, rfl, hEB, hbB⟩
            have hbAB := hbd.trans hbB
            obtain rfl : nB = n5 - k := by have := hEB.len; omega
            have hrB := RdE.below hrk hbAB
            have hdB := hdk.move (TStay.below hbAB)
            have hcap : n5 - k ≤ maxLen := by unfold maxLen; omega
            go_wp2_with fail
            refine ⟨keepW_of (fun q hq => by cases hq), hK1 _ _ ?_⟩
            refine wpSegs_step fun K2 hK2 => ?_
            simp only [pickL, List.getElem?_cons_zero, List.getElem?_cons_succ]
            repeat (go_big_quiet_step (fail))
            refine wpQuiet_nil ?_
            go_wp2_with fail
            refine (sameEs_any (Rds.of_own hEB.1) hrB (hEB.2.2.trans hmapk.symm) hEB.2.1 hdB hcap).mono ?_
            rintro e wC ⟨rfl, hbC⟩
            have hbAC := below_then hbAB hbC (Nat.le_refl _)
            go_wp2_with fail
            refine ⟨keepW_of (fun q hq => by cases hq), hK2 _ _ ?_⟩
            refine wpSegs_last ?_
            simp only [pickL, List.getElem?_cons_zero, List.getElem?_cons_succ]
            repeat (go_big_quiet_step (fail))
            refine wpQuiet_nil ?_
            have htc := tterm_below (a - 1) (h1A.below hbAC) (h1A.nlen (N := 1000000) (by omega))
            rw [htg] at htc
            clear hsl
            go_wp2_with fail
            refine htc.mono ?_
            rintro e wD ⟨rfl, hbD⟩
            have hbAD := below_then hbAC hbD (Nat.le_refl _)
            go_wp2_with fail
            refine (tlives_any wD).mono ?_
            rintro e wE ⟨rfl, hbE⟩
            go_wp2_with fail
            go_ret
            exact ⟨rfl, fin _ _ hbAD hbE⟩
      · have hd1 : d1 = 33 := hcode.2.resolve_left fun h => ca (hcode.1.1 h)
        subst hd1
        have hix := hspec.2.1 (.inl (by decide))
        rw [hix]
        clear hcode hspec
        go_wp2_with fail
        refine (tlives_any wA).mono ?_
        rintro e wB ⟨rfl, hbB⟩
        go_wp2_with fail
        go_ret
        exact ⟨rfl, by rw [hz]; exact hb0A.trans (hbB.mono (by have := hbA.size; omega))⟩
end Go.Proofs.Ytojmkbhihnnmaaa
