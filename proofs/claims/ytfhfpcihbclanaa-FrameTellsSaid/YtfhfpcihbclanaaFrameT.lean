/-
  The laws of the frames: their walks (Tells).
-/
import Derived.Test.YtfhfpcihbclanaaFrameS
import Derived.Test.YtfhfpcihbclanaaPlain4
namespace Go.Proofs.Ytfhfpcihbclanaa
open Go.RowKit

theorem frameTells_any (k f : Int) (A : Option Addr) (n c : Nat) (b : Nat) (l : List UInt8) (w : World) (_hk1 : -9223372036854775808 ≤ k) (_hk2 : k ≤ 9223372036854775807) (hf1 : -9223372036854775808 ≤ f) (hf2 : f ≤ 9223372036854775807) (hb : b < 4294967296) (hl : Rd w A n l) (hnc : n ≤ c) (hc : c ≤ maxLen) :
    Calls Try.prog 13 #[.int .i64 k, .slice A n c, .int .i64 f, .int .u32 b] w fun e w' => e = .returned (.bool true) ∧ Below w.heap.size w w' := by
  by_cases hbad : k < 0 ∨ 255 < k ∨ 65536 < 0
  · go_enter Try.func13, Try.ntmps13
    go_wp2_with fail
    refine (few3_any A n c 200 l _ hl (by omega) hnc (by unfold maxLen; omega)).mono ?_
    rintro e w' ⟨⟨n', rfl, hn1, hn2, hl'⟩, rfl⟩
    go_wp2_with fail
    refine (put_bad _ _ _ _ _ _ _ _ (by omega)).mono ?_; rintro e w' ⟨rfl, rfl⟩
    clear hbad
    go_wp2_with fail
    refine (lives3_any _).mono ?_; rintro e w' ⟨rfl, hb3⟩
    go_wp2
    go_ret
    exact ⟨rfl, hb3⟩
  obtain ⟨K, rfl⟩ : ∃ j : Nat, k = j := ⟨k.toNat, by omega⟩
  have hK : K ≤ 255 := by omega
  clear hbad
  obtain ⟨F, hF⟩ : ∃ F : Nat, (if f < 0 then -(f + 1) else f) = F := ⟨(if f < 0 then -(f + 1) else f).toNat, by split <;> omega⟩
  by_cases hneg : f < 0
  · rw [if_pos hneg] at hF
    go_enter Try.func13, Try.ntmps13
    go_wp2_with fail
    refine (few3_any A n c 200 l _ hl (by omega) hnc (by unfold maxLen; omega)).mono ?_
    rintro e w' ⟨⟨n', rfl, hn1, hn2, hl'⟩, rfl⟩
    generalize l.take 200 = l' at *
    have hll := hl'.len
    have hlb := frameB_len K l'
    rw [hll] at hlb
    obtain ⟨p, hp, hplt⟩ : ∃ p : Nat, ((F : Int) % (8 * ((n' : Int) + 9) - 32)) = (p : Nat) ∧ p < 8 * (n' + 9) - 32 :=
      ⟨F % (8 * (n' + 9) - 32), by rw [show (8 * ((n' : Int) + 9) - 32) = ((8 * (n' + 9) - 32 : Nat) : Int) by omega]; rfl, Nat.mod_lt _ (by omega)⟩
    have htl := tell_frame K l' (32 + p) b (by omega) (by omega)
    rw [hll] at htl
    go_wp2_with fail
    refine (put_ok none _ 0 0 _ _ _ [] _ _ Rd.none_ hl' (by omega) hK (by omega)).mono ?_; rintro e w1 ⟨A1, c1, rfl, hown1, hb1⟩
    rw [List.nil_append] at hown1
    have hr1 := Rd.of_own hown1
    rw [Nat.zero_add] at hr1
    clear hown1 hll hlb
    generalize frameB K l' = X at *
    have Htl := Lib.hid htl
    clear htl
    go_wp2_with fail
    refine (turned_any _ _ _ (32 + p) _ _ _ hr1 (by omega) (by omega) hb).mono ?_
    rintro e w2 ⟨A2, c2, rfl, hown2, hb2⟩
    have hc2 := own_bounds hown2
    have hr2 := Rd.of_own hown2
    have hb02 := below_then hb1 hb2 (Nat.le_refl _)
    clear hown2 hr1 hb1 hb2
    cases hs : turnS X (32 + p) b 32 with
    | true =>
      have hg := Htl.out.1 hs
      clear hs
      generalize turnL X (32 + p) b 32 = t at *
      have Hg := Lib.hid hg
      clear hg
      go_wp2_with fail
      refine (get_any _ _ _ _ _ hr2 (by omega) hc2.1 hc2.2).mono ?_
      intro e w3 hgo
      obtain ⟨B3, c3, rfl, hown3, hb3⟩ := hgo.form Hg.out
      clear hgo
      have hb03 := below_then hb02 hb3 (Nat.le_refl _)
      have hb04 := hb03.alloc hb03.size (.cells #[.int .i64 0, .slice B3 0 c3] 43)
      have hblk := Blk.new w3 43 #[.int .i64 0, .slice B3 0 c3]
      have q0 : (w3.alloc (.cells #[.int .i64 0, .slice B3 0 c3] 43)).cell? ⟨w3.heap.size, 0, none⟩ = some (.int .i64 0) := hblk.cell 0
      have q1 : (w3.alloc (.cells #[.int .i64 0, .slice B3 0 c3] 43)).cell? ⟨w3.heap.size, 1, none⟩ = some (.slice B3 0 c3) := hblk.cell 1
      clear hown3 hblk
      go_wp2_with fail
      refine (lives3_any _).mono ?_; rintro e w5 ⟨rfl, hb5⟩
      go_wp2
      go_ret
      exact ⟨rfl, hb04.trans (hb5.mono hb04.size)⟩
    | false =>
      obtain ⟨kd, bd, hg⟩ := Htl.out.2 hs
      clear hs
      generalize turnL X (32 + p) b 32 = t at *
      have Hg := Lib.hid hg
      clear hg
      go_wp2_with fail
      refine (get_any _ _ _ _ _ hr2 (by omega) hc2.1 hc2.2).mono ?_
      intro e w3 hgo
      obtain ⟨B3, c3, rfl, hown3, hb3⟩ := hgo.form Hg.out
      clear hgo
      have hb03 := below_then hb02 hb3 (Nat.le_refl _)
      have hb04 := hb03.alloc hb03.size (.cells #[.int .i64 (kd : Nat), .slice B3 bd.length c3] 43)
      clear hown3
      go_wp2_with fail
      refine (lives3_any _).mono ?_; rintro e w5 ⟨rfl, hb5⟩
      go_wp2
      go_ret
      exact ⟨rfl, hb04.trans (hb5.mono hb04.size)⟩
  · rw [if_neg hneg] at hF
    subst hF
    have hneg' : ¬ ((F : Nat) : Int) < 0 := by omega
    clear hneg
    go_enter Try.func13, Try.ntmps13
    go_wp2_with fail
    refine (few3_any A n c 200 l _ hl (by omega) hnc (by unfold maxLen; omega)).mono ?_
    rintro e w' ⟨⟨n', rfl, hn1, hn2, hl'⟩, rfl⟩
    generalize l.take 200 = l' at *
    have hll := hl'.len
    have hlb := frameB_len K l'
    rw [hll] at hlb
    obtain ⟨p, hp, hplt⟩ : ∃ p : Nat, ((F : Int) % (8 * ((n' : Int) + 9) - 32)) = (p : Nat) ∧ p < 8 * (n' + 9) - 32 :=
      ⟨F % (8 * (n' + 9) - 32), by rw [show (8 * ((n' : Int) + 9) - 32) = ((8 * (n' + 9) - 32 : Nat) : Int) by omega]; rfl, Nat.mod_lt _ (by omega)⟩
    have htl := tell_frame K l' (32 + p) b (by omega) (by omega)
    rw [hll] at htl
    go_wp2_with fail
    refine (put_ok none _ 0 0 _ _ _ [] _ _ Rd.none_ hl' (by omega) hK (by omega)).mono ?_; rintro e w1 ⟨A1, c1, rfl, hown1, hb1⟩
    rw [List.nil_append] at hown1
    have hr1 := Rd.of_own hown1
    rw [Nat.zero_add] at hr1
    clear hown1 hll hlb
    generalize frameB K l' = X at *
    have Htl := Lib.hid htl
    clear htl
    go_wp2_with fail
    refine (turned_any _ _ _ (32 + p) _ _ _ hr1 (by omega) (by omega) hb).mono ?_
    rintro e w2 ⟨A2, c2, rfl, hown2, hb2⟩
    have hc2 := own_bounds hown2
    have hr2 := Rd.of_own hown2
    have hb02 := below_then hb1 hb2 (Nat.le_refl _)
    clear hown2 hr1 hb1 hb2
    cases hs : turnS X (32 + p) b 32 with
    | true =>
      have hg := Htl.out.1 hs
      clear hs
      generalize turnL X (32 + p) b 32 = t at *
      have Hg := Lib.hid hg
      clear hg
      go_wp2_with fail
      refine (get_any _ _ _ _ _ hr2 (by omega) hc2.1 hc2.2).mono ?_
      intro e w3 hgo
      obtain ⟨B3, c3, rfl, hown3, hb3⟩ := hgo.form Hg.out
      clear hgo
      have hb03 := below_then hb02 hb3 (Nat.le_refl _)
      have hb04 := hb03.alloc hb03.size (.cells #[.int .i64 0, .slice B3 0 c3] 43)
      have hblk := Blk.new w3 43 #[.int .i64 0, .slice B3 0 c3]
      have q0 : (w3.alloc (.cells #[.int .i64 0, .slice B3 0 c3] 43)).cell? ⟨w3.heap.size, 0, none⟩ = some (.int .i64 0) := hblk.cell 0
      have q1 : (w3.alloc (.cells #[.int .i64 0, .slice B3 0 c3] 43)).cell? ⟨w3.heap.size, 1, none⟩ = some (.slice B3 0 c3) := hblk.cell 1
      clear hown3 hblk
      go_wp2_with fail
      refine (lives3_any _).mono ?_; rintro e w5 ⟨rfl, hb5⟩
      go_wp2
      go_ret
      exact ⟨rfl, hb04.trans (hb5.mono hb04.size)⟩
    | false =>
      obtain ⟨kd, bd, hg⟩ := Htl.out.2 hs
      clear hs
      generalize turnL X (32 + p) b 32 = t at *
      have Hg := Lib.hid hg
      clear hg
      go_wp2_with fail
      refine (get_any _ _ _ _ _ hr2 (by omega) hc2.1 hc2.2).mono ?_
      intro e w3 hgo
      obtain ⟨B3, c3, rfl, hown3, hb3⟩ := hgo.form Hg.out
      clear hgo
      have hb03 := below_then hb02 hb3 (Nat.le_refl _)
      have hb04 := hb03.alloc hb03.size (.cells #[.int .i64 (kd : Nat), .slice B3 bd.length c3] 43)
      clear hown3
      go_wp2_with fail
      refine (lives3_any _).mono ?_; rintro e w5 ⟨rfl, hb5⟩
      go_wp2
      go_ret
      exact ⟨rfl, hb04.trans (hb5.mono hb04.size)⟩
end Go.Proofs.Ytfhfpcihbclanaa
