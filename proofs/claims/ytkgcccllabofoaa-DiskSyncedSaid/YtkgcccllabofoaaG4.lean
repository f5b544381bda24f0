/-
  The law DiskSynced: the walk.
-/
import Derived.Test.YtkgcccllabofoaaG2
namespace Go.Proofs.Ytkgcccllabofoaa
open Go.RowKit Go.Maps

/-- append one slice of bytes -/
theorem wpList_append_bs {w : World} {ops : Array Oper} {rest : List Oper} {o : Oper} {a : Act} {Q : Exit → Act → World → Prop} (hgd : o.guard = none) (s x : Operand)
    (ho : o.op = .call { callee := .builtin .append, args := #[s, x], argTypes := #[53, 53] })
    (base : Nat) {A : Option Addr} {n c : Nat} {vs : List Value} (hs : a.eval s = .slice A n c) (hown : w.ownsRow base 40 1 (.slice A n c) n vs)
    (g d : Nat) (v : Value) (hx : a.eval x = .slice (some ⟨g, 0, none⟩) 1 d) (hb : Blk w g 40 #[v]) (h1 : v.oneCell' = true) (hn : n ≤ 1000000) (hbase : base ≤ w.heap.size)
    (h : ∀ A' c' w', w'.ownsRow base 40 1 (.slice A' (n + 1) c') (n + 1) (vs ++ [v]) → w.grownBy w' (Value.slice A n c).ownBlock → Below base w w' → wpList Try.prog ops Q rest (a.put o.dst (.slice A' (n + 1) c')) w') : wpList Try.prog ops Q (o :: rest) a w := by
  obtain ⟨i0, hi0, hz0, hz1, hz2⟩ := info_parts bytes_info
  refine wpList_append_any w hgd s x 53 ho base 40 i0 _ 1 24 Try.underlying53 hi0 hz0 hz1 hz2 rfl (by omega) (.slice A n c) n _ hs hown (some ⟨g, 0, none⟩) 1 d [v] hx ⟨rfl, fun _ => ⟨_, rfl, fun j u hu => ?_⟩⟩ (fun u hu => by rw [List.mem_singleton.1 hu]; exact h1) (by unfold maxLen; omega) (by omega) hbase fun A' c' w' h1 h2 _ => ?_
  · have e : (⟨g, 0, none⟩ : Addr).add j = ⟨g, j, none⟩ := by unfold Addr.add; split <;> simp [*]
    rw [e, hb.cell j, ← hu]
    simp
  · exact h A' c' w' h1 h2 (below_own hown h2 hbase)
theorem own_val {w : World} {base : Nat} {e : TypeId} {A : Option Addr} {n c i : Nat} {vs : List Value} {v : Value} (h : w.ownsRow base e 1 (.slice A n c) n vs) (hv : vs[i]? = some v) :
    ∃ g, A = some ⟨g, 0, none⟩ ∧ g < w.heap.size ∧ w.cell? ⟨g, i, none⟩ = some v := by
  have hl := h.1
  have hi := (List.getElem?_eq_some_iff.1 hv).1
  obtain ⟨g, cap, hv', _, hlt⟩ := h.form (by omega)
  injection hv' with hA
  subst hA
  have hc := h.cells (g := g) rfl i v hv
  have ad : (⟨g, 0, none⟩ : Addr).add i = ⟨g, i, none⟩ := by unfold Addr.add; split <;> simp [*]
  rw [ad] at hc
  exact ⟨g, rfl, hlt, hc⟩
/-- what was read of each file -/
def WasOk (q : Nat) (w : World) (names : List ByteArray) (vals : List Value) (G : FS) : Prop :=
  vals.length = names.length ∧ ∀ (i : Nat) s, names[i]? = some s → ∃ v b, vals[i]? = some v ∧ G s = some b ∧ BytesV q w v b ∧ b.length ≤ 1048576
theorem WasOk.kept {q : Nat} {w w' : World} {names : List ByteArray} {vals : List Value} {G : FS} (h : WasOk q w names vals G) (hk : ∀ v l, BytesV q w v l → BytesV q w' v l) : WasOk q w' names vals G :=
  ⟨h.1, fun i s hs => by
    obtain ⟨v, b, h1, h2, h3, h4⟩ := h.2 i s hs
    exact ⟨v, b, h1, h2, hk _ _ h3, h4⟩⟩
theorem WasOk.snoc {q : Nat} {w : World} {names : List ByteArray} {vals : List Value} {G : FS} {s : ByteArray} {v : Value} {b : List UInt8} (h : WasOk q w names vals G) (h1 : G s = some b) (h2 : BytesV q w v b) (h3 : b.length ≤ 1048576) : WasOk q w (names ++ [s]) (vals ++ [v]) G := by
  refine ⟨by simp [h.1], fun i t ht => ?_⟩
  rcases Nat.lt_or_ge i names.length with hlt | hge
  · rw [List.getElem?_append_left hlt] at ht
    obtain ⟨v', b', h4, h5⟩ := h.2 i t ht
    exact ⟨v', b', by rw [List.getElem?_append_left (by rw [h.1]; exact hlt)]; exact h4, h5⟩
  · rw [List.getElem?_append_right hge] at ht
    have hi : i = names.length := by
      rcases Nat.eq_zero_or_pos (i - names.length) with h' | h'
      · omega
      · rw [List.getElem?_eq_none (by simp; omega)] at ht; cases ht
    subst hi
    simp only [Nat.sub_self, List.getElem?_cons_zero, Option.some.injEq] at ht
    subst ht
    exact ⟨v, b, by rw [List.getElem?_append_right (by rw [h.1]; exact Nat.le_refl _), h.1, Nat.sub_self]; rfl, h1, h2, h3⟩
/-- names that are there to be read -/
def There (S : St) (names : List ByteArray) : Prop := ∀ s ∈ names, mayF s = true ∧ S.fuse ≠ some 0 ∧ ∃ b, S.files s = some b
theorem list_s {z : Zb} {g c : Nat} {w : World} {S : St} (hD : DiskAt z w g c S) (hM : MayS S) (hc : c ≤ 100000) :
    Calls Try.prog 32 #[.pointer (some ⟨g, 0, none⟩)] w fun e w' => ∃ A n cc q names, e = .returned (.tuple #[.slice A n cc, .int .i64 q]) ∧ w'.ownsRow w.heap.size 9 1 (.slice A n cc) n (names.map vst) ∧ n ≤ c ∧ There S names ∧ Below w.heap.size w w' := by
  have hlist := list_any hD hc
  by_cases h0 : S.fuse = some 0
  · simp only [h0, if_true] at hlist
    refine hlist.mono ?_
    rintro e w1 ⟨rfl, hb1⟩
    exact ⟨none, 0, 0, 30, [], rfl, own_nil _ _, Nat.zero_le _, fun s hs => (by cases hs), hb1⟩
  · simp only [h0, if_false] at hlist
    refine hlist.mono ?_
    rintro e w1 ⟨⟨A, n, cc, names, rfl, hown, hs, hn, hm⟩, hb1⟩
    refine ⟨A, n, cc, 0, names, rfl, hown, hn, fun s hs => ?_, hb1⟩
    have hne := (hm s).1 hs
    refine ⟨hM s hne, h0, ?_⟩
    cases h : S.files s with
    | none => exact absurd h hne
    | some b => exact ⟨b, rfl⟩
set_option maxRecDepth 100000 in
theorem both_nm {z : Zb} {w : World} {A : Option Addr} {n c : Nat} {ys : List (Value × Ld)} (m : Nat) (hZ : Law0 z w) (hL : LdsV z w A n ys) (hm : m ≤ 1000) :
    Calls Try.prog 29 #[.slice A n c, .int .i64 m] w fun e w' => ∃ gd gr R, e = .returned (.tuple #[.pointer (some ⟨gd, 0, none⟩), .pointer (some ⟨gr, 0, none⟩), .bool true]) ∧ Pair z w' gd gr m R ∧ NmOk R ∧ Chg z.b TB w w' := by
  go_enter Try.func29, Try.ntmps29
  go_wp2_with fail
  refine (new_any z w hZ.bl).mono ?_
  rintro e w1 ⟨g, rfl, hg, hD1, hb1⟩
  obtain ⟨hP2, hc2⟩ := pair_new hZ hg hD1 hb1
  have hN2 : NmOk R0 := ⟨fun s hs => (by cases hs), fun x hx => (by cases hx)⟩
  go_wp2_with fail
  generalize w1.alloc (.cells #[.slice none 0 0, .slice none 0 0, .bool false, .int .i64 0] 38) = w2 at *
  generalize w1.heap.size = gr at *
  go_loopw [9] (fun i wr => ∃ k : Nat, k ≤ n ∧ k ≤ m ∧ i = .int .i64 k ∧ (∃ R, Pair z wr g gr k R ∧ NmOk R) ∧ Chg z.b TB w wr) (fun i _ => n - (intOf i).toNat)
  case atStart => exact ⟨0, Nat.zero_le _, Nat.zero_le _, rfl, ⟨_, hP2, hN2⟩, hc2⟩
  case round =>
    obtain ⟨k, hk, hkm, rfl, ⟨R, hP, hN⟩, hc⟩ := hrel
    by_cases hlt : k < n ∧ k < m
    · obtain ⟨hlt, hlt2⟩ := hlt
      obtain ⟨ad, X, x, rfl, hy, hX, hx, d0, d1, d2, d3, d4⟩ := (hL.chg hc TB_u8).at_ hlt
      have hcall := lawdoes_any x X hx hP hX (by omega)
      obtain ⟨Bx, mx, dx, rfl, _⟩ := id hX
      have hN3 := hN.step x
      unfold ldV at hcall
      go_wp2_with fail
      refine hcall.mono ?_
      rintro e w3 ⟨rfl, hP3, hc3⟩
      go_wp2_with fail
      go_roundw
      case rel => exact ⟨k + 1, hlt, hlt2, by go_num, ⟨_, hP3, hN3⟩, hc.trans hc3⟩
      case measure => simp [intOf]; omega
    · have hPm := hP.more (c' := m) hkm
      rcases (show ¬ k < n ∨ (k < n ∧ ¬ k < m) by omega) with h | ⟨h, h'⟩
      all_goals
        go_wp2_with fail
        refine bodyPost_ret (v := .tuple #[.pointer (some ⟨g, 0, none⟩), .pointer (some ⟨gr, 0, none⟩), .bool true]) (by simp [results, Try.results29, go_sem]) rfl ?_
        exact ⟨g, gr, R, rfl, hPm, hN, hc⟩
end Go.Proofs.Ytkgcccllabofoaa
