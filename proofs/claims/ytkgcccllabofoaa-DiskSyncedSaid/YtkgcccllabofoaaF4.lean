/-
  The law: the document's examples.
-/
import Derived.Test.YtkgcccllabofoaaF3
import Derived.Laws.IdiomStrings
namespace Go.Proofs.Ytkgcccllabofoaa
open Go.RowKit Go.Maps

def nA : ByteArray := ⟨#[97]⟩
def lv1 : St := (St.new.append nA [120, 121, 122]).2
def lv2 : St := lv1.crash 0 2
def lv3 : St := (lv2.setFuse 1).2
def lv4 : St := (lv3.append nA [122]).2
def lv5 : St := lv4.sync.2
def lv6 : St := (lv5.setFuse 9).2
def lv7 : St := lv6.sync.2
def lv8 : St := lv7.crash 1 0
theorem lv_a : (St.new.append nA [120, 121, 122]).1 = 0 := by decide
theorem lv_b : lv2.read nA = ([120, 121], 0) := by decide
theorem lv_c : (lv2.setFuse 1).1 = 0 := by decide
theorem lv_d : (lv3.append nA [122]).1 = 0 := by decide
theorem lv_e : lv4.sync.1 = 30 := by decide
theorem lv_f : (lv5.setFuse 9).1 = 0 := by decide
theorem lv_g : lv6.sync.1 = 30 := by decide
theorem lv_h : lv7.done.length = 1 := by decide
theorem lv_i : lv8.read nA = ([120, 121, 122], 0) := by decide
theorem run_str {w : World} {A : Option Addr} {n c : Nat} {l : List UInt8} (h : Rd w A n l) (h0 : 0 < n) : (convert 40 9 (.slice A n c)).run Try.prog w = .ok (.string ⟨l.toArray⟩) w := by
  obtain ⟨ad, rfl, hc⟩ := h.2 h0
  have hl := h.len
  have := run_convert_bytes_back (P := Try.prog) w 40 9 5 ad c l Try.underlying40 Try.underlying5 Try.underlying9 (fun j hj => hc j _ (by rw [List.getElem?_map, List.getElem?_eq_getElem hj]; rfl))
  rw [hl] at this
  exact this
theorem DiskAt.lt {z : Zb} {g c : Nat} {S : St} {w : World} (h : DiskAt z w g c S) : g < w.heap.size := by
  obtain ⟨bl, bf, A, n, cp, left, xs, hI⟩ := h
  exact hI.b.lt
set_option maxRecDepth 100000 in
set_option maxHeartbeats 4000000 in
theorem lives_any (w : World) : Calls Try.prog 28 #[] w fun e w' => e = .returned (.bool true) ∧ Below w.heap.size w w' := by
  have kc := convert_const Try.prog 40 5 Try.underlying40 Try.underlying5
  go_enter Try.func28, Try.ntmps28
  go_wp2_with fail
  obtain ⟨z, hz⟩ : ∃ z : Zb, z = ⟨w.heap.size, w.heap.size⟩ := ⟨_, rfl⟩
  have hzz : z.z = w.heap.size := by rw [hz]
  have hzb : z.b = w.heap.size := by rw [hz]
  clear hz
  refine (new_any z w (by omega)).mono ?_
  rintro e w1 ⟨g, rfl, hg, hD1, hb1⟩
  have hzg : z.z ≤ g := by omega
  have hzz := Lib.hid hzz
  have hc1 : Chg z.b TP w w1 := Chg.of_below hb1
  have hbL : Below w1.heap.size w1 (w1.alloc (.cells #[.int .u8 120, .int .u8 121, .int .u8 122] 5 (3, 4))) := (Below.refl _ _).alloc (Nat.le_refl _) _
  have hrL : Rd (w1.alloc (.cells #[.int .u8 120, .int .u8 121, .int .u8 122] 5 (3, 4))) (some ⟨w1.heap.size, 0, none⟩) 3 [120, 121, 122] := Rd.lit _ _ _ _ _ 3 _ rfl rfl rfl
  have hDL := hD1.below hbL
  go_wp2_with fail
  have hap := append_any (c := 0) nA (some ⟨w1.heap.size, 0, none⟩) 3 3 [120, 121, 122] hDL (by have := hDL.lt; omega) (by omega) hrL (by omega)
  rw [show St.new.append nA [120, 121, 122] = (0, lv1) from by rw [← lv_a]; rfl] at hap
  refine hap.mono ?_
  rintro e w2 ⟨rfl, hD2, hc2⟩
  have hc2 := (hc1.trans (Chg.of_below hbL)).trans hc2
  clear hap hDL hrL hbL hD1 hb1
  go_wp2_with fail
  refine (crash_any 0 2 (by omega) (by omega) (by omega) (by omega) hD2 (by have := hD2.lt; omega) (by omega)).mono ?_
  rintro e w3 ⟨rfl, hD3, hc3⟩
  have hc3 := hc2.trans hc3
  have hrd := read_any nA hD3
  rw [show (lv1.crash 0 2).read nA = ([120, 121], 0) from lv_b] at hrd
  clear hD2
  go_wp2_with fail
  refine hrd.mono ?_
  rintro e w4 ⟨A4, n4, c4, rfl, hown4, hn4, hb4⟩
  obtain rfl : n4 = 2 := by have := hown4.1; simpa using this.symm
  have hv4 : BytesV z.z w4 (.slice A4 2 c4) [120, 121] := BytesV.of_own hown4 (by have := hD3.lt; omega)
  have hD4 := hD3.below hb4
  have hc4 := hc3.trans (Chg.of_below hb4)
  have hfu := fuse_any 1 hD4
  rw [show (lv1.crash 0 2).setFuse 1 = (0, lv3) from by rw [← lv_c]; rfl] at hfu
  clear hrd hown4 hD3
  go_wp2_with fail
  refine hfu.mono ?_
  rintro e w5 ⟨rfl, hD5, hc5⟩
  have hv5 := hv4.chg hc5 TP_u8
  have hc5 := hc4.trans hc5
  have hbL : Below w5.heap.size w5 (w5.alloc (.cells #[.int .u8 122] 5 (1, 2))) := (Below.refl _ _).alloc (Nat.le_refl _) _
  have hrL : Rd (w5.alloc (.cells #[.int .u8 122] 5 (1, 2))) (some ⟨w5.heap.size, 0, none⟩) 1 [122] := Rd.lit _ _ _ _ _ 1 _ rfl rfl rfl
  have hDL := hD5.below hbL
  have hvL := hv5.below hbL
  clear hv4 hfu hD4
  go_wp2_with fail
  have hap := append_any nA (some ⟨w5.heap.size, 0, none⟩) 1 1 [122] hDL (by have := hDL.lt; omega) (by omega) hrL (by omega)
  rw [show lv3.append nA [122] = (0, lv4) from by rw [← lv_d]; rfl] at hap
  refine hap.mono ?_
  rintro e w6 ⟨rfl, hD6, hc6⟩
  have hv6 := hvL.chg hc6 TP_u8
  have hc6 := (hc5.trans (Chg.of_below hbL)).trans hc6
  have hsy := sync_any hD6
  rw [show lv4.sync = (30, lv5) from by rw [← lv_e]; rfl] at hsy
  clear hap hDL hrL hbL hvL hv5 hD5
  go_wp2_with fail
  refine hsy.mono ?_
  rintro e w7 ⟨rfl, hD7, hc7⟩
  have hv7 := hv6.chg hc7 TP_u8
  have hc7 := hc6.trans hc7
  have hfu := fuse_any 9 hD7
  rw [show lv5.setFuse 9 = (0, lv6) from by rw [← lv_f]; rfl] at hfu
  clear hv6 hsy hD6
  go_wp2_with fail
  refine hfu.mono ?_
  rintro e w8 ⟨rfl, hD8, hc8⟩
  have hv8 := hv7.chg hc8 TP_u8
  have hc8 := hc7.trans hc8
  have hsy := sync_any hD8
  rw [show lv6.sync = (30, lv7) from by rw [← lv_g]; rfl] at hsy
  clear hv7 hfu hD7
  go_wp2_with fail
  refine hsy.mono ?_
  rintro e w9 ⟨rfl, hD9, hc9⟩
  have hv9 := hv8.chg hc9 TP_u8
  have hc9 := hc8.trans hc9
  have hpe := pending_any hD9
  rw [show ((30, lv7) : Nat × St).2.done.length = 1 from lv_h] at hpe
  clear hv8 hsy hD8
  go_wp2_with fail
  refine hpe.mono ?_
  rintro e w10 ⟨rfl, rfl⟩
  go_wp2_with fail
  refine (crash_any 1 0 (by omega) (by omega) (by omega) (by omega) hD9 (by have := hD9.lt; omega) (by omega)).mono ?_
  rintro e w11 ⟨rfl, hD11, hc11⟩
  have hv11 := hv9.chg hc11 TP_u8
  have hc11 := hc9.trans hc11
  have hrd := read_any nA hD11
  rw [show (((30, lv7) : Nat × St).2.crash 1 0).read nA = ([120, 121, 122], 0) from lv_i] at hrd
  clear hv9 hpe hD9
  go_wp2_with fail
  refine hrd.mono ?_
  rintro e w12 ⟨A12, n12, c12, rfl, hown12, hn12, hb12⟩
  obtain rfl : n12 = 3 := by have := hown12.1; simpa using this.symm
  have hv12 := hv11.below hb12
  have hc12 := hc11.trans (Chg.of_below hb12)
  have hs1 := run_str (c := c4) hv12.get.1 (by omega)
  have hs2 := run_str (c := c12) (Rd.of_own hown12) (by omega)
  clear hv11 hrd hD11 hv12 hown12
  go_wp2_with fail
  go_ret
  exact ⟨rfl, by rw [← hzb]; exact hc12.below (by omega)⟩
end Go.Proofs.Ytkgcccllabofoaa
