/-
  The disk: bytes copied and put together.
-/
import Derived.Test.YtkgcccllabofoaaInt
import Derived.Lib.AppendZeros
import Derived.Lib.LazyBuf
namespace Go.Proofs.Ytkgcccllabofoaa
open Go.RowKit

theorem u8_info : (Try.prog.info? 5).map (fun i => (i.zero, i.size, i.bytes)) = some (some (.int .u8 0), 1, 1) := by kernel_rfl
/-- append onto bytes of the call's own -/
theorem wpList_append_b {w : World} {ops : Array Oper} {rest : List Oper} {o : Oper} {a : Act} {Q : Exit → Act → World → Prop} (hgd : o.guard = none) (s x : Operand)
    (ho : o.op = .call { callee := .builtin .append, args := #[s, x], argTypes := #[40, 40] })
    (base : Nat) {v : Value} {n : Nat} {l : List UInt8} (hs : a.eval s = v) (hown : w.ownsRow base 5 1 v n (l.map vb))
    {A : Option Addr} {m c : Nat} {r : List UInt8} (hx : a.eval x = .slice A m c) (hr : Rd w A m r) (hb : n + m ≤ 1000000000) (hbase : base ≤ w.heap.size)
    (h : ∀ A' c' w', w'.ownsRow base 5 1 (.slice A' (n + m) c') (n + m) ((l ++ r).map vb) → w.grownBy w' v.ownBlock → Below base w w' → wpList Try.prog ops Q rest (a.put o.dst (.slice A' (n + m) c')) w') : wpList Try.prog ops Q (o :: rest) a w := by
  obtain ⟨i0, hi0, hz0, hz1, hz2⟩ := info_parts u8_info
  refine wpList_append_any w hgd s x 40 ho base 5 i0 _ 1 1 Try.underlying40 hi0 hz0 hz1 hz2 rfl (by omega) v n _ hs hown A m c _ hx hr (fun u hu => vb_one u hu) (by unfold maxLen; omega) (by omega) hbase ?_
  intro A' c' w' h1 h2 _
  exact h A' c' w' (by rw [List.map_append]; exact h1) h2 (below_own hown h2 hbase)
theorem own_empty (w : World) : (w.alloc (.cells #[] 5)).ownsRow w.heap.size 5 1 (.slice (some ⟨w.heap.size, 0, none⟩) 0 0) 0 (([] : List UInt8).map vb) := own_new 5 [] 0 rfl (Nat.zero_le _)

set_option maxRecDepth 100000 in
theorem clone_any (A : Option Addr) (n c : Nat) (l : List UInt8) (w : World) (hl : Rd w A n l) (hn : n ≤ 1000000000) :
    Calls Try.prog 62 #[.slice A n c] w fun e w' => ∃ A' c', e = .returned (.slice A' n c') ∧ w'.ownsRow w.heap.size 5 1 (.slice A' n c') n (l.map vb) ∧ Below w.heap.size w w' := by
  have hlen := hl.len
  cases A with
  | none =>
    obtain rfl : n = 0 := by
      rcases Nat.eq_zero_or_pos n with h | h
      · exact h
      · obtain ⟨ad, h, _⟩ := hl.2 h
        cases h
    obtain rfl : l = [] := List.eq_nil_of_length_eq_zero hlen
    go_enter Try.func62, Try.ntmps62
    go_wp2_with fail
    rw [run_eql_slice_nil _ 40 5 none 0 c Try.underlying40]
    go_wp2_with fail
    go_ret
    exact ⟨none, 0, rfl, own_nil _ _, Below.refl _ _⟩
  | some ad =>
    have hb := (Below.refl w.heap.size w).alloc (Nat.le_refl _) (.cells #[] 5)
    have hl1 := hl.below hb
    have ho := own_empty w
    go_enter Try.func62, Try.ntmps62
    go_wp2_with fail
    rw [run_eql_slice_nil _ 40 5 (some ad) n c Try.underlying40]
    go_wp2_with (at_builtin; refine wpList_append_b rfl (.tmp 5) (.tmp 6) rfl w.heap.size rfl ho rfl hl1 (by omega) hb.size ?_; intro A3 c3 w3 hown3 hg3 hb3)
    go_ret
    rw [Nat.zero_add, List.nil_append] at hown3
    refine ⟨A3, c3, ?_, hown3, hb.trans hb3⟩
    rfl

set_option maxRecDepth 100000 in
theorem grow0_any (n : Nat) (w : World) (hn : n ≤ 1000000000) :
    Calls Try.prog 89 #[.slice none 0 0, .int .i64 n] w fun e w' => ∃ A' c', e = .returned (.slice A' 0 c') ∧ w'.ownsRow w.heap.size 5 1 (.slice A' 0 c') 0 (([] : List UInt8).map vb) ∧ Below w.heap.size w w' := by
  rcases Nat.eq_zero_or_pos n with h0 | h0
  · subst h0
    go_enter Try.func89, Try.ntmps89
    go_wp2_with fail
    go_ret
    exact ⟨none, 0, rfl, own_nil _ _, Below.refl _ _⟩
  · obtain ⟨i0, hi0, hz0, hz1, hz2⟩ := info_parts u8_info
    have hrun := Lib.run_append_nil_zeros (P := Try.prog) w 40 3 40 5 i0 (.int .u8 0) .i64 .i64 Try.underlying40 Try.underlying3 hi0 hz0 n h0 (by omega) (by omega) (by rw [hz2]; omega)
    have hge := grownCap_ge w n 0 5
    have hle := grownCap_le_maxLen w n 0 5 (by unfold maxLen; omega)
    generalize grownCap w n 0 5 = gc at *
    have hsz : (Builtin.zeroCells (Value.int .u8 0).cells n ++ Builtin.zeroCells (Value.int .u8 0).cells (gc - n)).size = gc := by
      simp [Builtin.zeroCells, Value.cells]; omega
    generalize Builtin.zeroCells (Value.int .u8 0).cells n ++ Builtin.zeroCells (Value.int .u8 0).cells (gc - n) = cs at *
    have ho : (w.drew.alloc (.cells cs 5)).ownsRow w.heap.size 5 1 (.slice (some ⟨w.heap.size, 0, none⟩) 0 gc) 0 (([] : List UInt8).map vb) :=
      ⟨rfl, .inr ⟨w.heap.size, gc, cs, rfl, Nat.le_refl _, heap_alloc_new w.drew _, Nat.zero_le _, hle, by omega, by simp⟩⟩
    have hb := (below_drewN (Below.refl w.heap.size w) 1).alloc (Nat.le_refl _) (.cells cs 5)
    go_enter Try.func89, Try.ntmps89
    go_wp2_with (at_builtin; refine Lib.wpList_append_run _ rfl (.tmp 20) (.tmp 21) 40 3 rfl _ _ rfl rfl _ _ hrun ?_)
    go_ret
    exact ⟨_, gc, rfl, ho, hb⟩

set_option maxRecDepth 100000 in
theorem concat_any (g : Nat) (A B : Option Addr) (n c m d : Nat) (l r : List UInt8) (w : World) (hg : Blk w g 40 #[.slice A n c, .slice B m d]) (hl : Rd w A n l) (hr : Rd w B m r) (hn : n ≤ 400000000) (hm : m ≤ 400000000) :
    Calls Try.prog 74 #[.slice (some ⟨g, 0, none⟩) 2 2] w fun e w' => ∃ A' c', e = .returned (.slice A' (n + m) c') ∧ w'.ownsRow w.heap.size 5 1 (.slice A' (n + m) c') (n + m) ((l ++ r).map vb) ∧ Below w.heap.size w w' := by
  have h0 := hg.cell 0
  have h1 := hg.cell 1
  have hgl := hg.lt
  simp only [List.getElem?_toArray, List.getElem?_cons_zero, List.getElem?_cons_succ] at h0 h1
  go_enter Try.func74, Try.ntmps74
  go_wp2_with fail
  go_loop [3, 11] (fun s i => (i = .int .i64 0 ∧ s = .int .i64 0) ∨ (i = .int .i64 1 ∧ s = .int .i64 n) ∨ (i = .int .i64 2 ∧ s = .int .i64 (n + m : Nat))) (fun _ i => 2 - (intOf i).toNat)
  case atStart => exact .inl ⟨rfl, rfl⟩
  case round =>
    rcases hrel with ⟨rfl, rfl⟩ | ⟨rfl, rfl⟩ | ⟨rfl, rfl⟩
    · go_wp2_with fail
      go_round
      case rel => exact .inr (.inl ⟨by go_num, by go_num⟩)
      case measure => simp [intOf]
    · go_wp2_with fail
      go_round
      case rel => exact .inr (.inr ⟨by go_num, by go_num⟩)
      case measure => simp [intOf]
    · go_wp2_with fail
      refine (grow0_any (n + m) w (by omega)).mono ?_
      rintro e w1 ⟨A0, c0, rfl, hown, hb⟩
      go_wp2_with fail
      go_loopw [6, 27] (fun o i wr => ∃ (A' : Option Addr) (k c' : Nat) (x : List UInt8), o = .slice A' k c' ∧ wr.ownsRow w.heap.size 5 1 (.slice A' k c') k (x.map vb) ∧ Below w.heap.size w wr ∧
        ((i = .int .i64 0 ∧ k = 0 ∧ x = []) ∨ (i = .int .i64 1 ∧ k = n ∧ x = l) ∨ (i = .int .i64 2 ∧ k = n + m ∧ x = l ++ r))) (fun _ i _ => 2 - (intOf i).toNat)
      case atStart => exact ⟨A0, 0, c0, [], rfl, hown, hb, .inl ⟨rfl, rfl, rfl⟩⟩
      case round =>
        obtain ⟨A', k, c', x, rfl, hown, hb, hi⟩ := hrel
        have hlw := hl.below hb
        have hrw := hr.below hb
        have hgw := hg.below hb hgl
        have h0 := hgw.cell 0
        have h1 := hgw.cell 1
        simp only [List.getElem?_toArray, List.getElem?_cons_zero, List.getElem?_cons_succ] at h0 h1
        rcases hi with ⟨rfl, rfl, rfl⟩ | ⟨rfl, rfl, rfl⟩ | ⟨rfl, rfl, rfl⟩
        · go_wp2_with (at_builtin; refine wpList_append_b rfl (.tmp 31) (.tmp 32) rfl w.heap.size rfl hown rfl hlw (by omega) hb.size ?_; intro A3 c3 w3 hown3 hg3 hb3)
          rw [Nat.zero_add, List.nil_append] at hown3
          go_roundw
          case rel => exact ⟨A3, _, c3, _, rfl, hown3, hb.trans hb3, .inr (.inl ⟨by go_num, rfl, rfl⟩)⟩
          case measure => simp [intOf]
        · go_wp2_with (at_builtin; refine wpList_append_b rfl (.tmp 31) (.tmp 32) rfl w.heap.size rfl hown rfl hrw (by omega) hb.size ?_; intro A3 c3 w3 hown3 hg3 hb3)
          go_roundw
          case rel => exact ⟨A3, _, c3, _, rfl, hown3, hb.trans hb3, .inr (.inr ⟨by go_num, rfl, rfl⟩)⟩
          case measure => simp [intOf]
        · go_wp2_with fail
          go_ret
          exact ⟨A', c', rfl, hown, hb⟩
end Go.Proofs.Ytkgcccllabofoaa
