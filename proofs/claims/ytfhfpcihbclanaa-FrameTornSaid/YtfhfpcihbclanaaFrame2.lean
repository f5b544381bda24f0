/-
  The walks of the frames, second part: Put, and the document's Put.
-/
import Derived.Test.YtfhfpcihbclanaaFrame1
import Derived.Test.YtfhfpcihbclanaaPlain3
namespace Go.Proofs.Ytfhfpcihbclanaa
open Go.RowKit

theorem head_cells (m k : Nat) (hm : m ≤ 65536) (hk : k ≤ 255) :
    (#[.int .u8 (m % 256), .int .u8 (m / 256 % 256), .int .u8 (m / 65536), .int .u8 (m / 16777216), .int .u8 k] : Array Value) = ((leS 4 m ++ [UInt8.ofNat k]).map vb).toArray := by
  have h : leS 4 m = [UInt8.ofNat m, UInt8.ofNat (m / 256), UInt8.ofNat (m / 65536), UInt8.ofNat (m / 16777216)] := by
    simp [leS, sh8, List.range_succ]
  rw [h]
  simp only [List.map_cons, List.map_nil, List.cons_append, List.nil_append, vb, UInt8.toNat_ofNat']
  have e1 : m / 16777216 % 2 ^ 8 = m / 16777216 := Nat.mod_eq_of_lt (by omega)
  have e2 : m / 65536 % 2 ^ 8 = m / 65536 := Nat.mod_eq_of_lt (by omega)
  have e3 : k % 2 ^ 8 = k := Nat.mod_eq_of_lt (by omega)
  rw [e1, e2, e3]
  rfl

theorem RdS_two (w : World) (T : TypeId) (g : Nat) (A B : Option Addr) (n c m d : Nat) (l r : List UInt8) (hl : Rd w A n l) (hr : Rd w B m r) (hg : w.heap.size = g) :
    RdS (w.alloc (.cells #[.slice A n c, .slice B m d] T)) (some ⟨g, 0, none⟩) 2 [l, r] := by
  subst hg
  refine ⟨rfl, fun i hi => ?_⟩
  have e : ∀ j, (⟨w.heap.size, 0, none⟩ : Addr).add j = ⟨w.heap.size, j, none⟩ := fun j => by unfold Addr.add; split <;> simp [*]
  match i, hi with
  | 0, _ => exact ⟨_, A, n, c, rfl, by rw [e, cell_of_row _ _ 0 _ _ _ (heap_alloc_new w _)]; rfl, hl.alloc _⟩
  | 1, _ => exact ⟨_, B, m, d, rfl, by rw [e, cell_of_row _ _ 1 _ _ _ (heap_alloc_new w _)]; rfl, hr.alloc _⟩

theorem put_ok (A B : Option Addr) (n c k m d : Nat) (lb body : List UInt8) (w : World) (hl : Rd w A n lb) (hr : Rd w B m body) (hn : n ≤ 100000000) (hk : k ≤ 255) (hm : m ≤ 65536) :
    Calls Try.prog 26 #[.slice A n c, .int .i64 k, .slice B m d] w fun e w' => ∃ A' c', e = .returned (.tuple #[.slice A' (n + (m + 9) : Nat) c', .int .i64 0]) ∧
      w'.ownsRow w.heap.size 5 1 (.slice A' (n + (m + 9)) c') (n + (m + 9)) ((lb ++ frameB k body).map vb) ∧ Below w.heap.size w w' := by
  have hh : frameH k body = leS 4 m ++ [UInt8.ofNat k] ++ body := by unfold frameH; rw [hr.len]
  have hlh : (leS 4 m ++ [UInt8.ofNat k]).length = 5 := by simp [leS_len]
  have hfl : (frameB k body).length = m + 9 := by rw [frameB_len, hr.len]
  have hbl := hl.len
  have Hcc := Lib.hid (show sumL [lb, frameB k body] = n + (m + 9) by simp [sumL, hfl, hbl])
  have hown0 : (w.alloc (.cells #[.int .u8 (m % 256), .int .u8 (m / 256 % 256), .int .u8 (m / 65536), .int .u8 (m / 16777216), .int .u8 k] 5)).ownsRow w.heap.size 5 1 (.slice (some ⟨w.heap.size, 0, none⟩) 5 5) 5 ((leS 4 m ++ [UInt8.ofNat k]).map vb) := by
    rw [head_cells m k hm hk]
    exact own_new _ _ 5 (by rw [List.length_map, hlh]) (by unfold maxLen; omega)
  have Hh := Lib.hid hh
  have hb0 : Below w.heap.size w (w.alloc (.cells #[.int .u8 (m % 256), .int .u8 (m / 256 % 256), .int .u8 (m / 65536), .int .u8 (m / 16777216), .int .u8 k] 5)) := (Below.refl _ _).alloc (Nat.le_refl _) _
  have hr0 := hr.below hb0
  clear hh hlh hfl hbl
  go_enter Try.func26, Try.ntmps26
  go_wp2_with (first
    | (at_builtin; refine wpList_append_b rfl (.tmp 37) (.tmp 38) rfl w.heap.size rfl hown0 rfl hr0 (by omega) hb0.size ?_; intro A1 c1 w1 hown1 hg1 hb1; clear hg1)
    | fail)
  rw [← Hh.out] at hown1
  have hb01 := hb0.trans hb1
  clear hown0 hr0 hb0 hb1
  refine (sum_any _ _ _ _ _ (Rd.of_own hown1) (maxLen_big (k := 100000) (by omega) (by omega))).mono ?_
  rintro e w' ⟨rfl, rfl⟩
  go_wp2_with fail
  refine (bytes_own _ (moreF_lt _ _) _).mono ?_; rintro e w2 ⟨A2, c2, rfl, hown2, hb2⟩
  have hown12 := own_below hown1 hb2
  have hb02 := below_then hb01 hb2 (Nat.le_refl _)
  clear hown1 hb2
  go_wp2_with (first
    | (at_builtin; refine wpList_append_b rfl (.tmp 40) (.tmp 43) rfl w.heap.size rfl hown12 rfl (Rd.of_own hown2) (by omega) hb02.size ?_; intro A3 c3 w3 hown3 hg3 hb3; clear hg3)
    | fail)
  have hb03 := hb02.trans hb3
  have hl3 := hl.below hb03
  clear hown12 hown2 hb02 hb3
  have hrs := RdS_two w3 23 w3.heap.size A A3 n c (5 + m + 4) c3 lb (frameB k body) hl3 (Rd.of_own hown3) rfl
  have hb04 : Below w.heap.size w (w3.alloc (.cells #[.slice A n c, .slice A3 (5 + m + 4) c3] 23)) := hb03.alloc hb03.size _
  refine (concat_any _ _ _ _ _ hrs (by omega) (by rw [Hcc.out]; omega)).mono ?_
  rintro e w5 ⟨A5, c5, rfl, hown5, hb5⟩
  rw [Hcc.out] at hown5 ⊢
  have hb05 := below_then hb04 hb5 (Nat.le_refl _)
  have hown5' := own_mono hown5 hb04.size
  simp only [List.flatten_cons, List.flatten_nil, List.append_nil] at hown5'
  clear hown5 hrs hb04 hown3 hl3
  go_wp2
  go_ret2
  exact ⟨A5, c5, rfl, hown5', hb05⟩

theorem put_bad (A B : Option Addr) (n c m d : Nat) (k : Int) (w : World) (h : k < 0 ∨ 255 < k ∨ 65536 < m) :
    Calls Try.prog 26 #[.slice A n c, .int .i64 k, .slice B m d] w fun e w' => e = .returned (.tuple #[.slice none 0 0, .int .i64 1]) ∧ w = w' := by
  by_cases h1 : k < 0
  · go_enter Try.func26, Try.ntmps26
    go_wp2
    go_ret2
    exact ⟨rfl, rfl⟩
  · by_cases h2 : 255 < k
    · go_enter Try.func26, Try.ntmps26
      go_wp2
      go_ret2
      exact ⟨rfl, rfl⟩
    · have h3 : 65536 < m := by omega
      clear h
      go_enter Try.func26, Try.ntmps26
      go_wp2
      go_ret2
      exact ⟨rfl, rfl⟩

theorem refput_bad (A B : Option Addr) (n c m d : Nat) (k : Int) (w : World) (h : k < 0 ∨ 255 < k ∨ 65536 < m) :
    Calls Try.prog 27 #[.slice A n c, .int .i64 k, .slice B m d] w fun e w' => e = .returned (.tuple #[.slice none 0 0, .int .i64 1]) ∧ w = w' := by
  by_cases h1 : k < 0
  · go_enter Try.func27, Try.ntmps27
    go_wp2
    go_ret2
    exact ⟨rfl, rfl⟩
  · by_cases h2 : 255 < k
    · go_enter Try.func27, Try.ntmps27
      go_wp2
      go_ret2
      exact ⟨rfl, rfl⟩
    · have h3 : 65536 < m := by omega
      clear h
      go_enter Try.func27, Try.ntmps27
      go_wp2
      go_ret2
      exact ⟨rfl, rfl⟩

theorem head_cells0 (m k : Nat) (hm : m ≤ 65536) (hk : k ≤ 255) :
    (#[.int .u8 (m % 256), .int .u8 (m / 256 % 256), .int .u8 (m / 65536), .int .u8 0, .int .u8 k] : Array Value) = ((leS 4 m ++ [UInt8.ofNat k]).map vb).toArray := by
  rw [← head_cells m k hm hk]
  have e : (m : Int) / 16777216 = 0 := by omega
  rw [e]

theorem refput_ok (A B : Option Addr) (n c k m d : Nat) (lb body : List UInt8) (w : World) (hl : Rd w A n lb) (hr : Rd w B m body) (hn : n ≤ 10000000) (hk : k ≤ 255) (hm : m ≤ 65536) :
    Calls Try.prog 27 #[.slice A n c, .int .i64 k, .slice B m d] w fun e w' => ∃ A' c', e = .returned (.tuple #[.slice A' (n + (m + 9) : Nat) c', .int .i64 0]) ∧
      w'.ownsRow w.heap.size 5 1 (.slice A' (n + (m + 9)) c') (n + (m + 9)) ((lb ++ frameB k body).map vb) ∧ Below w.heap.size w w' := by
  have hh : frameH k body = leS 4 m ++ [UInt8.ofNat k] ++ body := by unfold frameH; rw [hr.len]
  have hlh : (leS 4 m ++ [UInt8.ofNat k]).length = 5 := by simp [leS_len]
  have hown0 : (w.alloc (.cells #[.int .u8 (m % 256), .int .u8 (m / 256 % 256), .int .u8 (m / 65536), .int .u8 0, .int .u8 k] 5)).ownsRow w.heap.size 5 1 (.slice (some ⟨w.heap.size, 0, none⟩) 5 5) 5 ((leS 4 m ++ [UInt8.ofNat k]).map vb) := by
    rw [head_cells0 m k hm hk]
    exact own_new _ _ 5 (by rw [List.length_map, hlh]) (by unfold maxLen; omega)
  have Hh := Lib.hid hh
  have hb0 : Below w.heap.size w (w.alloc (.cells #[.int .u8 (m % 256), .int .u8 (m / 256 % 256), .int .u8 (m / 65536), .int .u8 0, .int .u8 k] 5)) := (Below.refl _ _).alloc (Nat.le_refl _) _
  have hr0 := hr.below hb0
  clear hh hlh
  go_enter Try.func27, Try.ntmps27
  go_wp2_with (first
    | (at_builtin; refine wpList_append_b rfl (.tmp 37) (.tmp 38) rfl w.heap.size rfl hown0 rfl hr0 (by omega) hb0.size ?_; intro A1 c1 w1 hown1 hg1 hb1; clear hg1)
    | fail)
  rw [← Hh.out] at hown1
  have hb01 := hb0.trans hb1
  clear hown0 hr0 hb0 hb1
  refine (with_any _ _ _ _ _ (Rd.of_own hown1) (by omega)).mono ?_
  rintro e w2 ⟨A2, c2, rfl, hown2, hb2⟩
  have hb02 := below_then hb01 hb2 (Nat.le_refl _)
  have hl2 := hl.below hb02
  clear hown1 hb2
  go_wp2_with (first
    | (at_builtin; refine wpList_append_b0 rfl (.tmp 42) (.tmp 43) rfl rfl rfl hl2 (by omega) ?_; intro A3 c3 w3 hown3 hb3)
    | (at_builtin; refine wpList_append_b rfl (.tmp 45) (.tmp 46) rfl w2.heap.size rfl hown3 rfl (Rd.of_own (own_below hown2 hb3)) (by omega) hb3.size ?_; intro A4 c4 w4 hown4 hg4 hb4; clear hg4)
    | fail)
  have hb04 := below_then hb02 (hb3.trans hb4) (Nat.le_refl _)
  have hown4' := own_mono hown4 hb02.size
  have e9 : n + (5 + m + 4) = n + (m + 9) := by omega
  rw [e9] at hown4'
  have He9 := Lib.hid e9
  clear hown4 hown3 hown2 e9
  go_ret2
  refine ⟨A4, c4, ?_, hown4', hb04⟩
  rw [← He9.out]
  rfl
end Go.Proofs.Ytfhfpcihbclanaa
