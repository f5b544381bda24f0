/-
  The walks of the check sum (crc, tesseractref01).
-/
import Derived.Test.YtfhfpcihbclanaaRows
import Derived.Test.YtfhfpcihbclanaaMem
import Derived.Handy
import Derived.WalkMore
import Derived.ScopeJumps
import Derived.Lib.Hide
import Derived.Deep.QuietTactic
import Derived.BigQuiet
import Derived.Deep.RegionWith
namespace Go.Proofs.Ytfhfpcihbclanaa
open Go.RowKit

theorem bytes_any (n : Nat) (hn : n < 4294967296) (w : World) :
    Calls Try.prog 21 #[.int .u32 n] w fun e w' => e = .returned (.slice (some ⟨w.heap.size, 0, none⟩) 4 4) ∧
      w.alloc (.cells #[.int .u8 (n % 256), .int .u8 (n / 256 % 256), .int .u8 (n / 65536 % 256), .int .u8 (n / 16777216)] 5) = w' := by
  go_enter Try.func21, Try.ntmps21
  go_wp2
  go_ret
  exact ⟨rfl, rfl⟩

theorem leS_cells (n : Nat) (hn : n < 4294967296) : (#[.int .u8 (n % 256), .int .u8 (n / 256 % 256), .int .u8 (n / 65536 % 256), .int .u8 (n / 16777216)] : Array Value) = ((leS 4 n).map vb).toArray := by
  have h : leS 4 n = [UInt8.ofNat n, UInt8.ofNat (n / 256), UInt8.ofNat (n / 65536), UInt8.ofNat (n / 16777216)] := by
    simp [leS, sh8, List.range_succ]
  rw [h]
  simp only [List.map_cons, List.map_nil, vb, UInt8.toNat_ofNat']
  have e : n / 16777216 % 2 ^ 8 = n / 16777216 := Nat.mod_eq_of_lt (by omega)
  rw [e]
  rfl
/-- the same, as bytes of one's own -/
theorem bytes_own (n : Nat) (hn : n < 4294967296) (w : World) :
    Calls Try.prog 21 #[.int .u32 n] w fun e w' => ∃ A c, e = .returned (.slice A 4 c) ∧ w'.ownsRow w.heap.size 5 1 (.slice A 4 c) 4 ((leS 4 n).map vb) ∧ Below w.heap.size w w' :=
  (bytes_any n hn w).mono fun e w' ⟨he, hw⟩ => by
    subst hw
    rw [leS_cells n hn]
    exact ⟨_, _, he, own_new _ _ 4 (by simp [leS_len]) (by unfold maxLen; omega), (Below.refl _ _).alloc (Nat.le_refl _) _⟩

set_option maxRecDepth 1000000 in
theorem step_any (n : Nat) (c : UInt8) (hn : n < 4294967296) (w : World) :
    Calls Try.prog 35 #[.int .u32 n, .int .u8 (c.toNat : Nat)] w fun e w' => e = .returned (.int .u32 (crcB n c : Nat)) ∧ w = w' := by
  have hx := xor_byte_lt n c hn
  have hcl := c.toNat_lt
  have e1 := xor_any n c.toNat hn (by omega)
  unfold crcB
  generalize c.toNat = b at *
  go_enter Try.func35, Try.ntmps35
  go_wp2
  refine wp_scope_jumps 0 (fun a' w' => w = w' ∧ ∃ (k : Nat) (u6 u7 u8 u9 u10 u11 u12 u13 u14 u15 u16 u17 u18 u19 u20 u21 u22 u23 : Value), a' = { tmps := #[.int .u32 (stpN k (n ^^^ b)), .int .u8 b, undef, undef, .int .u32 0, .int .i64 k, u6, u7, u8, u9, u10, u11, u12, u13, u14, u15, u16, u17, u18, u19, u20, u21, u22, u23], defers := [] } ∧ k < 8) (fun a' _ => 8 - (intOf (a'.tmps.getD 5 undef)).toNat) rfl ?_ ?_
  · go_wp2
    go_step3
    go_wp2
    all_goals go_step3
    · have h := stp_odd _ hx ‹_›
      exact ⟨rfl, rfl, 1, _, _, _, _, _, _, _, _, _, _, _, _, _, _, _, _, _, _, by rw [h]; rfl, by omega⟩
    · have h := stp_even _ hx ‹_›
      exact ⟨rfl, rfl, 1, _, _, _, _, _, _, _, _, _, _, _, _, _, _, _, _, _, _, by rw [h]; rfl, by omega⟩
  · rintro a' w' ⟨rfl, k, u6, u7, u8, u9, u10, u11, u12, u13, u14, u15, u16, u17, u18, u19, u20, u21, u22, u23, rfl, hk⟩
    have hs := stpN_lt k _ hx
    go_wp2
    all_goals first
      | have h := stp_odd _ hs ‹_›
      | have h := stp_even _ hs ‹_›
    all_goals first
      | (go_step3
         exact ⟨rfl, ⟨rfl, k + 1, _, _, _, _, _, _, _, _, _, _, _, _, _, _, _, _, _, _, by rw [h]; rfl, by omega⟩, by simp [intOf]; omega⟩)
      | (have hk7 : k = 7 := by omega
         subst hk7
         simp only [Exit.jump]
         go_ret
         exact ⟨by rw [h]; rfl, rfl⟩)

theorem more_any (s : Nat) (A : Option Addr) (n c : Nat) (l : List UInt8) (w : World) (hr : Rd w A n l) (hs : s < 4294967296) (hn : n ≤ maxLen) :
    Calls Try.prog 18 #[.int .u32 s, .slice A n c] w fun e w' => e = .returned (.int .u32 (moreF s l : Nat)) ∧ w = w' := by
  unfold maxLen at hn
  have e0 := not_u32 s hs
  have hll := hr.len
  have Hll := Lib.hid hll; clear hll
  go_enter Try.func18, Try.ntmps18
  go_wp2
  go_loop [5, 12] (fun v i => ∃ k : Nat, k ≤ n ∧ i = .int .i64 k ∧ v = .int .u32 (crcR (4294967295 - s) (l.take k) : Nat)) (fun _ i => n - (intOf i).toNat)
  case atStart => exact ⟨0, Nat.zero_le _, rfl, rfl⟩
  case round =>
    obtain ⟨k, hk, rfl, rfl⟩ := hrel
    have hb := crcR_lt (l.take k) (4294967295 - s) (by omega)
    by_cases hlt : k < n
    · obtain ⟨ad, rfl, hc⟩ := hr.at_ hlt
      go_wp2_with (go_at_call 35; refine (step_any _ _ hb _).mono ?_; rintro e w' ⟨rfl, rfl⟩)
      go_round
      case rel => exact ⟨k + 1, by omega, by go_num, by rw [take_snoc l 0 k (by rw [Hll.out]; exact hlt), crcR_snoc]⟩
      case measure => simp [intOf]; omega
    · obtain rfl : k = n := by omega
      have e2 := not_u32 _ hb
      go_wp2
      go_ret
      refine ⟨?_, rfl⟩
      rw [List.take_of_length_le (by rw [Hll.out]; omega)]
      rfl

theorem sum_any (A : Option Addr) (n c : Nat) (l : List UInt8) (w : World) (hr : Rd w A n l) (hn : n ≤ maxLen) :
    Calls Try.prog 16 #[.slice A n c] w fun e w' => e = .returned (.int .u32 (moreF 0 l : Nat)) ∧ w = w' := by
  go_enter Try.func16, Try.ntmps16
  go_wp2_with (go_at_call 18; refine (more_any 0 _ _ _ _ _ hr (by omega) hn).mono ?_; rintro e w' ⟨rfl, rfl⟩)
  go_ret
  exact ⟨rfl, rfl⟩

theorem few_any (A : Option Addr) (n c m : Nat) (l : List UInt8) (w : World) (hr : Rd w A n l) (_hn : n ≤ maxLen) (_hc : n ≤ c) (_hm : m ≤ maxLen) :
    Calls Try.prog 15 #[.slice A n c, .int .i64 m] w fun e w' => (∃ n' : Nat, e = .returned (.slice A n' c) ∧ n' ≤ m ∧ n' ≤ n ∧ Rd w A n' (l.take m)) ∧ w = w' := by
  unfold maxLen at _hn _hm
  by_cases h : m < n
  · have hr' := hr.take (Nat.le_of_lt h)
    go_enter Try.func15, Try.ntmps15
    go_wp2
    go_ret
    exact ⟨⟨m, rfl, Nat.le_refl _, by omega, hr'⟩, rfl⟩
  · have hr' : Rd w A n (l.take m) := by rw [List.take_of_length_le (by rw [hr.len]; omega)]; exact hr
    go_enter Try.func15, Try.ntmps15
    go_wp2
    go_ret
    exact ⟨⟨n, rfl, by omega, Nat.le_refl _, hr'⟩, rfl⟩

theorem same_any (A B : Option Addr) (n m c d : Nat) (l r : List UInt8) (w : World) (hl : Rd w A n l) (hr : Rd w B m r) (hn : n ≤ maxLen) (hm : m ≤ maxLen) :
    Calls Try.prog 22 #[.slice A n c, .slice B m d] w fun e w' => e = .returned (.bool (decide (l = r))) ∧ ∃ q, w' = w.drewN q := by
  unfold maxLen at hn hm
  have H1 := Lib.hid hl.len
  have H2 := Lib.hid hr.len
  by_cases hnm : n = m
  · subst hnm
    go_enter Try.func22, Try.ntmps22
    go_wp2
    go_loopw [5] (fun i wr => ∃ k : Nat, k ≤ n ∧ i = .int .i64 k ∧ l.take k = r.take k ∧ ∃ q, wr = w.drewN q) (fun i _ => n - (intOf i).toNat)
    case atStart => exact ⟨0, Nat.zero_le _, rfl, rfl, 0, rfl⟩
    case round =>
      obtain ⟨k, hk, rfl, ht, q, rfl⟩ := hrel
      have Ht := Lib.hid ht; clear ht
      by_cases hlt : k < n
      · obtain ⟨ad, rfl, hc⟩ := hl.at_ hlt
        obtain ⟨bd, rfl, hd⟩ := hr.at_ hlt
        by_cases he : l[k]?.getD 0 = r[k]?.getD 0
        · have E := byte_eq he
          have He := Lib.hid he; clear he
          go_wp2
          go_quiet (fail)
          go_wp2
          go_roundw
          case rel => exact ⟨k + 1, by omega, by go_num, take_step l r 0 k (by rw [H1.out]; exact hlt) (by rw [H2.out]; exact hlt) Ht.out He.out, _, rfl⟩
          case measure => simp [intOf]; omega
        · have E := byte_ne he
          have hne : decide (l = r) = false := decide_eq_false fun e => he (by rw [e])
          have Hne := Lib.hid hne; clear hne he
          go_wp2
          go_quiet (fail)
          go_wp2
          go_ret
          exact ⟨by rw [Hne.out]; rfl, _, World.drewN_drewN _ _ _⟩
      · obtain rfl : k = n := by omega
        have hne : decide (l = r) = true := decide_eq_true (take_all l r k H1.out H2.out Ht.out)
        have Hne := Lib.hid hne; clear hne
        go_wp2
        go_ret
        exact ⟨by rw [Hne.out]; rfl, _, rfl⟩
  · have hne : decide (l = r) = false := decide_eq_false fun e => hnm (by rw [← H1.out, ← H2.out, e])
    have Hne := Lib.hid hne; clear hne
    go_enter Try.func22, Try.ntmps22
    go_wp2
    go_ret
    exact ⟨by rw [Hne.out]; rfl, 0, rfl⟩

theorem equal_any (A B : Option Addr) (n m c d : Nat) (l r : List UInt8) (w : World) (hl : Rd w A n l) (hr : Rd w B m r) (hn : n ≤ maxLen) (hm : m ≤ maxLen) :
    Calls Try.prog 36 #[.slice A n c, .slice B m d] w fun e w' => e = .returned (.bool (decide (l = r))) ∧ ∃ q, w' = w.drewN q := by
  unfold maxLen at hn hm
  have H1 := Lib.hid hl.len
  have H2 := Lib.hid hr.len
  by_cases hnm : n = m
  · subst hnm
    go_enter Try.func36, Try.ntmps36
    go_wp2
    go_loopw [13] (fun i wr => ∃ k : Nat, k ≤ n ∧ i = .int .i64 k ∧ l.take k = r.take k ∧ ∃ q, wr = w.drewN q) (fun i _ => n - (intOf i).toNat)
    case atStart => exact ⟨0, Nat.zero_le _, rfl, rfl, 0, rfl⟩
    case round =>
      obtain ⟨k, hk, rfl, ht, q, rfl⟩ := hrel
      have Ht := Lib.hid ht; clear ht
      by_cases hlt : k < n
      · obtain ⟨ad, rfl, hc⟩ := hl.at_ hlt
        obtain ⟨bd, rfl, hd⟩ := hr.at_ hlt
        by_cases he : l[k]?.getD 0 = r[k]?.getD 0
        · have E := byte_eq he
          have He := Lib.hid he; clear he
          go_wp2
          go_quiet (fail)
          go_wp2
          go_roundw
          case rel => exact ⟨k + 1, by omega, by go_num, take_step l r 0 k (by rw [H1.out]; exact hlt) (by rw [H2.out]; exact hlt) Ht.out He.out, _, rfl⟩
          case measure => simp [intOf]; omega
        · have E := byte_ne he
          have hne : decide (l = r) = false := decide_eq_false fun e => he (by rw [e])
          have Hne := Lib.hid hne; clear hne he
          go_wp2
          go_quiet (fail)
          go_wp2
          go_ret
          exact ⟨by rw [Hne.out]; rfl, _, World.drewN_drewN _ _ _⟩
      · obtain rfl : k = n := by omega
        have hne : decide (l = r) = true := decide_eq_true (take_all l r k H1.out H2.out Ht.out)
        have Hne := Lib.hid hne; clear hne
        go_wp2
        go_ret
        exact ⟨by rw [Hne.out]; rfl, _, rfl⟩
  · have hne : decide (l = r) = false := decide_eq_false fun e => hnm (by rw [← H1.out, ← H2.out, e])
    have Hne := Lib.hid hne; clear hne
    go_enter Try.func36, Try.ntmps36
    go_wp2
    go_ret
    exact ⟨by rw [Hne.out]; rfl, 0, rfl⟩

theorem u8_info : (Try.prog.info? 5).map (fun i => (i.zero, i.size, i.bytes)) = some (some (.int .u8 0), 1, 1) := by kernel_rfl
/-- append onto bytes of the call's own -/
theorem wpList_append_b {w : World} {ops : Array Oper} {rest : List Oper} {o : Oper} {a : Act} {Q : Exit → Act → World → Prop} (hgd : o.guard = none) (s x : Operand)
    (ho : o.op = .call { callee := .builtin .append, args := #[s, x], argTypes := #[23, 23] })
    (base : Nat) {v : Value} {n : Nat} {l : List UInt8} (hs : a.eval s = v) (hown : w.ownsRow base 5 1 v n (l.map vb))
    {A : Option Addr} {m c : Nat} {r : List UInt8} (hx : a.eval x = .slice A m c) (hr : Rd w A m r) (hb : n + m ≤ 1000000000) (hbase : base ≤ w.heap.size)
    (h : ∀ A' c' w', w'.ownsRow base 5 1 (.slice A' (n + m) c') (n + m) ((l ++ r).map vb) → w.grownBy w' v.ownBlock → Below base w w' → wpList Try.prog ops Q rest (a.put o.dst (.slice A' (n + m) c')) w') : wpList Try.prog ops Q (o :: rest) a w := by
  obtain ⟨i0, hi0, hz0, hz1, hz2⟩ := info_parts u8_info
  refine wpList_append_any w hgd s x 23 ho base 5 i0 _ 1 1 Try.underlying23 hi0 hz0 hz1 hz2 rfl (by omega) v n _ hs hown A m c _ hx hr (fun u hu => vb_one u hu) (by unfold maxLen; omega) (by omega) hbase ?_
  intro A' c' w' h1 h2 _
  exact h A' c' w' (by rw [List.map_append]; exact h1) h2 (below_own hown h2 hbase)

/-- append onto nil -/
theorem wpList_append_b0 {w : World} {ops : Array Oper} {rest : List Oper} {o : Oper} {a : Act} {Q : Exit → Act → World → Prop} (hgd : o.guard = none) (s x : Operand)
    (ho : o.op = .call { callee := .builtin .append, args := #[s, x], argTypes := #[23, 23] })
    (hs : a.eval s = .slice none 0 0) {A : Option Addr} {m c : Nat} {r : List UInt8} (hx : a.eval x = .slice A m c) (hr : Rd w A m r) (hb : m ≤ 1000000000)
    (h : ∀ A' c' w', w'.ownsRow w.heap.size 5 1 (.slice A' m c') m (r.map vb) → Below w.heap.size w w' → wpList Try.prog ops Q rest (a.put o.dst (.slice A' m c')) w') : wpList Try.prog ops Q (o :: rest) a w :=
  wpList_append_b hgd s x ho w.heap.size (l := []) (n := 0) hs (own_nil _ _) hx hr (by omega) (Nat.le_refl _) fun A' c' w' h1 _ h3 => by
    rw [Nat.zero_add, List.nil_append] at h1
    rw [Nat.zero_add]
    exact h A' c' w' h1 h3

theorem refsum_any (s : Nat) (A : Option Addr) (n c : Nat) (l : List UInt8) (w : World) (hr : Rd w A n l) (hs : s < 4294967296) (hn : n ≤ maxLen) :
    Calls Try.prog 17 #[.int .u32 s, .slice A n c] w fun e w' => e = .returned (.int .u32 (moreF s l : Nat)) ∧ w = w' := by
  unfold maxLen at hn
  have Hll := Lib.hid hr.len
  go_enter Try.func17, Try.ntmps17
  go_wp2
  go_loop [5, 6] (fun v i => ∃ k : Nat, k ≤ n ∧ i = .int .i64 k ∧ v = .int .u32 (crcR (4294967295 - s) (l.take k) : Nat)) (fun _ i => n - (intOf i).toNat)
  case atStart => exact ⟨0, Nat.zero_le _, rfl, by simp [crcR]; omega⟩
  case round =>
    obtain ⟨k, hk, rfl, rfl⟩ := hrel
    have hb := crcR_lt (l.take k) (4294967295 - s) (by omega)
    by_cases hlt : k < n
    · obtain ⟨ad, rfl, hc⟩ := hr.at_ hlt
      have hl1 := take_snoc l 0 k (by rw [Hll.out]; exact hlt)
      have Hl1 := Lib.hid hl1; clear hl1
      have hx := xor_byte_lt _ (l[k]?.getD 0) hb
      have hbl : (l[k]?.getD 0).toNat < 256 := (l[k]?.getD 0).toNat_lt
      have e1 := xor_any _ (l[k]?.getD 0).toNat hb (by omega)
      go_wp2
      go_loop [5, 7] (fun v i => ∃ j : Nat, j ≤ 8 ∧ i = .int .i64 j ∧ v = .int .u32 (stpN j (crcR (4294967295 - s) (l.take k) ^^^ (l[k]?.getD 0).toNat) : Nat)) (fun _ i => 8 - (intOf i).toNat)
      case atStart => exact ⟨0, by omega, rfl, rfl⟩
      case round =>
        obtain ⟨j, hj, rfl, rfl⟩ := hrel
        have hst := stpN_lt j _ hx
        by_cases hj8 : j < 8
        · go_wp2
          · have h := stp_odd' _ hst ‹_›
            go_round
            case rel => exact ⟨j + 1, by omega, by go_num, by rw [h]; rfl⟩
            case measure => simp [intOf]; omega
          · have h := stp_even' _ hst ‹_›
            go_round
            case rel => exact ⟨j + 1, by omega, by go_num, by rw [h]; rfl⟩
            case measure => simp [intOf]; omega
        · obtain rfl : j = 8 := by omega
          go_wp2
          go_round
          case rel => exact ⟨k + 1, by omega, by go_num, by rw [Hl1.out, crcR_snoc]; rfl⟩
          case measure => simp [intOf]; omega
    · obtain rfl : k = n := by omega
      go_wp2
      go_ret
      have e : l.take k = l := List.take_of_length_le (by rw [Hll.out]; omega)
      have hv : ((4294967295 : Int) - (crcR (4294967295 - s) (l.take k) : Nat)) = ((moreF s l : Nat) : Int) := by
        rw [e] at hb ⊢; unfold moreF; omega
      exact ⟨ret_int hv, rfl⟩

theorem with_any (A : Option Addr) (n c : Nat) (l : List UInt8) (w : World) (hr : Rd w A n l) (hn : n ≤ 100000000) :
    Calls Try.prog 20 #[.slice A n c] w fun e w' => ∃ A' c', e = .returned (.slice A' (n + 4) c') ∧
      w'.ownsRow w.heap.size 5 1 (.slice A' (n + 4) c') (n + 4) ((l ++ leS 4 (moreF 0 l)).map vb) ∧ Below w.heap.size w w' := by
  obtain ⟨s, hs, hS⟩ : ∃ s, s < 4294967296 ∧ moreF 0 l = s := ⟨_, moreF_lt 0 l, rfl⟩
  rw [hS]
  have HS := Lib.hid hS; clear hS
  go_enter Try.func20, Try.ntmps20
  go_wp2_with (first
    | (at_builtin; refine wpList_append_b0 rfl (.tmp 6) (.tmp 7) rfl rfl rfl hr (by omega) ?_; intro A1 c1 w1 hown1 hb1)
    | fail)
  refine (refsum_any 0 _ _ _ _ _ (hr.below hb1) (by omega) (by unfold maxLen; omega)).mono ?_
  rintro e w' ⟨rfl, rfl⟩
  rw [HS.out]
  go_wp2
  go_loopw [3, 4, 5] (fun v m i wr => ∃ k : Nat, k ≤ 4 ∧ i = .int .i64 k ∧ m = .int .u32 (sh8 s k : Nat) ∧ ∃ A c, v = .slice A (n + k : Nat) c ∧ wr.ownsRow w.heap.size 5 1 (.slice A (n + k) c) (n + k) ((l ++ leS k s).map vb) ∧ Below w.heap.size w wr) (fun _ _ i _ => 4 - (intOf i).toNat)
  case atStart => exact ⟨0, by omega, rfl, by rw [sh8_0], _, _, rfl, by simpa [leS] using hown1, hb1⟩
  case round =>
    obtain ⟨k, hk, rfl, rfl, A2, c2, rfl, hown, hb⟩ := hrel
    have hlt := sh8_lt s k hs
    by_cases hk4 : k < 4
    · go_wp2_with (first
        | (at_builtin; refine wpList_append_b rfl (.tmp 15) (.tmp 19) rfl w.heap.size (r := [UInt8.ofNat (sh8 s k)]) rfl (own_below hown ((Below.refl _ _).alloc (Nat.le_refl _) _)) rfl (Rd.one _ _ _ _ (le_byte s k)) (by omega) (by have := hb.size; simp; omega) ?_; intro A3 c3 w3 hown3 hg3 hb3)
        | fail)
      have hb4 := ((Below.refl w.heap.size wr).alloc hb.size (.cells #[.int .u8 ((sh8 s k : Nat) % 256)] 5)).trans hb3
      clear hg3 hb3
      go_roundw
      case rel => exact ⟨k + 1, by omega, by go_num, by rw [sh8_next], _, _, rfl, by rw [leS_snoc, ← List.append_assoc]; exact hown3, hb.trans hb4⟩
      case measure => simp [intOf]; omega
    · obtain rfl : k = 4 := by omega
      go_wp2
      go_ret
      exact ⟨A2, c2, rfl, hown, hb⟩
end Go.Proofs.Ytfhfpcihbclanaa
