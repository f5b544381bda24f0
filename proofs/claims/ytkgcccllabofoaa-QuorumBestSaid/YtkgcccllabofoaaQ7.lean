/-
  The walks of the quorum: what is agreed a quorum has, and nothing above it. (printed by gen_q7.py)
-/
import Derived.Test.YtkgcccllabofoaaQ6
namespace Go.Proofs.Ytkgcccllabofoaa
open Go.RowKit

theorem agr_ok {N : Nat} (h : 1 ≤ N ∧ N ≤ 7) (l : List Int) : okF N l (agrN N l) = true ∧ 0 ≤ agrN N l ∧ ∀ v, agrN N l < v → okF N l v = false := by
  obtain ⟨S, hSl, hp, hS, hj, ha⟩ := agr_in N l h.1
  have cnt : ∀ v, ((rowF N l).countP fun x => decide (v ≤ x)) = S.countP fun x => decide (v ≤ x) := fun v => (hp.countP_eq _).symm
  rw [ha]
  refine ⟨?_, ?_, fun v hv => ?_⟩
  · rw [okF_iff h, cnt]
    have := count_ge S hS _ hj
    omega
  · have : S[N - (N / 2 + 1)] ∈ rowF N l := hp.mem_iff.1 (List.getElem_mem _)
    obtain ⟨i, hi, e⟩ := List.mem_map.1 this
    rw [← e]
    exact Int.le_max_left _ _
  · refine Bool.eq_false_iff.2 fun ho => ?_
    rw [okF_iff h, cnt] at ho
    have := count_gt S hS _ hj _ hv
    omega
theorem won_nil (n : Int) : wonF n [] = false := by
  refine decide_eq_false fun h => ?_
  have : cntF n.toNat [] = 0 := by simp [cntF]
  omega
def overK (l : List Int) (a v : Int) (k : Nat) : List Int := if a < v then hasK l v k else []
theorem overK_no {l : List Int} {a v : Int} (h : ¬ a < v) (k : Nat) : overK l a v k = [] := if_neg h
theorem overK_on {l : List Int} {a v : Int} (h : a < v) (k : Nat) : overK l a v k = hasK l v k := if_pos h
theorem overK_yes {l : List Int} {a v : Int} {k : Nat} (h0 : a < v) (h : v ≤ atF l k) : overK l a v (k + 1) = overK l a v k ++ [((k + 1 : Nat) : Int)] := by
  rw [overK_on h0, overK_on h0, hasK_yes h]
theorem overK_n2 {l : List Int} {a v : Int} {k : Nat} (h0 : a < v) (h : ¬ v ≤ atF l k) : overK l a v (k + 1) = overK l a v k := by
  rw [overK_on h0, overK_on h0, hasK_no h]
theorem overK_n3 {l : List Int} {a v : Int} {k : Nat} (h0 : ¬ a < v) : overK l a v (k + 1) = overK l a v k := by
  rw [overK_no h0, overK_no h0]
theorem overK_len (l : List Int) (a v : Int) (k : Nat) : (overK l a v k).length ≤ k := by
  unfold overK; split
  · exact hasK_len l v k
  · simp
theorem over_end {N : Nat} (h : 1 ≤ N ∧ N ≤ 7) (l : List Int) (v : Int) : wonF N (overK l (agrN N l) v N) = false := by
  unfold overK
  split
  · rename_i hv
    exact (agr_ok h l).2.2 v hv
  · exact won_nil _

/-! two rows of the call's own, apart -/
theorem own_block_lt {w : World} {base : Nat} {e : TypeId} {size n : Nat} {v : Value} {xs : List Value} (h : w.ownsRow base e size v n xs) {g : Nat} (hg : v.ownBlock = some g) : g < w.heap.size := by
  rcases h.2 with ⟨rfl, _⟩ | ⟨g', cap, cur, rfl, h2, h3, _⟩
  · simp [Value.ownBlock] at hg
  · simp [Value.ownBlock] at hg
    subst hg
    rcases Nat.lt_or_ge g' w.heap.size with hlt | hge
    · exact hlt
    · rw [Array.getElem?_eq_none hge] at h3; cases h3
theorem own_grown_other {w w' : World} {base : Nat} {e : TypeId} {size n : Nat} {v : Value} {xs : List Value} {row : Option Nat} (h : w.ownsRow base e size v n xs) (hg : w.grownBy w' row)
    (hne : ∀ g, v.ownBlock = some g → row ≠ some g) : w'.ownsRow base e size v n xs := by
  have hlt := fun g hg => own_block_lt h (g := g) hg
  refine ⟨h.1, ?_⟩
  rcases h.2 with h0 | ⟨g, cap, cur, rfl, h2, h3, h4⟩
  · exact .inl h0
  · have hb : (Value.slice (some ⟨g, 0, none⟩) n cap).ownBlock = some g := by simp [Value.ownBlock]
    exact .inr ⟨g, cap, cur, rfl, h2, (hg.block g (hlt g hb) (fun e => hne g hb e.symm)).trans h3, h4⟩
structure Two (w wr : World) (h1 : Value) (n1 : Nat) (l1 : List Int) (h2 : Value) (n2 : Nat) (l2 : List Int) : Prop where
  o1 : wr.ownsRow w.heap.size 3 1 h1 n1 (l1.map vi)
  o2 : wr.ownsRow w.heap.size 3 1 h2 n2 (l2.map vi)
  ap : ∀ g, h1.ownBlock = some g → h2.ownBlock = some g → False
  b : Below w.heap.size w wr
theorem Two.alloc {w wr : World} {h1 h2 : Value} {n1 n2 : Nat} {l1 l2 : List Int} (h : Two w wr h1 n1 l1 h2 n2 l2) (o : Obj) : Two w (wr.alloc o) h1 n1 l1 h2 n2 l2 :=
  ⟨own_below h.o1 ((Below.refl _ _).alloc (Nat.le_refl _) o), own_below h.o2 ((Below.refl _ _).alloc (Nat.le_refl _) o), h.ap, h.b.alloc h.b.size o⟩
theorem Two.app1 {w wr w' : World} {h1 h2 v : Value} {n1 n2 m : Nat} {l1 l2 xs : List Int} (h : Two w wr h1 n1 l1 h2 n2 l2) (ho : w'.ownsRow w.heap.size 3 1 v m (xs.map vi))
    (hg : wr.grownBy w' h1.ownBlock) (hf : v.ownBlock = h1.ownBlock ∨ v.ownBlock = some wr.heap.size) : Two w w' v m xs h2 n2 l2 :=
  ⟨ho, own_grown_other h.o2 hg (fun g hg e => h.ap g e hg), fun g hv h2' => by
    rcases hf with e | e
    · exact h.ap g (e.symm.trans hv) h2'
    · have := own_block_lt h.o2 h2'
      rw [e] at hv
      injection hv with hv
      omega, h.b.trans (below_own h.o1 hg h.b.size)⟩
theorem Two.app2 {w wr w' : World} {h1 h2 v : Value} {n1 n2 m : Nat} {l1 l2 xs : List Int} (h : Two w wr h1 n1 l1 h2 n2 l2) (ho : w'.ownsRow w.heap.size 3 1 v m (xs.map vi))
    (hg : wr.grownBy w' h2.ownBlock) (hf : v.ownBlock = h2.ownBlock ∨ v.ownBlock = some wr.heap.size) : Two w w' h1 n1 l1 v m xs :=
  ⟨own_grown_other h.o1 hg (fun g hg e => h.ap g hg e), ho, fun g h1' hv => by
    rcases hf with e | e
    · exact h.ap g h1' (e.symm.trans hv)
    · have := own_block_lt h.o1 h1'
      rw [e] at hv
      injection hv with hv
      omega, h.b.trans (below_own h.o2 hg h.b.size)⟩
theorem wpList_append_is2 {w : World} {ops : Array Oper} {rest : List Oper} {o : Oper} {a : Act} {Q : Exit → Act → World → Prop} (hgd : o.guard = none) (s x : Operand)
    (ho : o.op = .call { callee := .builtin .append, args := #[s, x], argTypes := #[22, 22] })
    (base : Nat) {A : Option Addr} {n c : Nat} {l : List Int} (hs : a.eval s = .slice A n c) (hown : w.ownsRow base 3 1 (.slice A n c) n (l.map vi))
    {B : Option Addr} {m d : Nat} {r : List Int} (hx : a.eval x = .slice B m d) (hr : RdI w B m r) (hb : n + m ≤ 1000000000) (hbase : base ≤ w.heap.size)
    (h : ∀ A' c' w', w'.ownsRow base 3 1 (.slice A' (n + m) c') (n + m) ((l ++ r).map vi) → w.grownBy w' (Value.slice A n c).ownBlock →
      ((Value.slice A' (n + m) c').ownBlock = (Value.slice A n c).ownBlock ∨ (Value.slice A' (n + m) c').ownBlock = some w.heap.size) → wpList Try.prog ops Q rest (a.put o.dst (.slice A' (n + m) c')) w') : wpList Try.prog ops Q (o :: rest) a w := by
  obtain ⟨i0, hi0, hz0, hz1, hz2⟩ := info_parts int_info
  refine wpList_append_any w hgd s x 22 ho base 3 i0 _ 1 8 Try.underlying22 hi0 hz0 hz1 hz2 rfl (by omega) _ n _ hs hown B m d _ hx hr (fun u hu => vi_one u hu) (by unfold maxLen; omega) (by omega) hbase ?_
  intro A' c' w' h1 h2 h3
  exact h A' c' w' (by rw [List.map_append]; exact h1) h2 h3

set_option maxRecDepth 100000 in
set_option maxHeartbeats 4000000 in
theorem quorumBest_any (n : Int) (A : Option Addr) (m c : Nat) (l0 : List Int) (v : Int) (w : World) (hl : RdI w A m l0) (hm : m ≤ c) (_hc : c ≤ maxLen) :
    Calls Try.prog 6 #[.int .i64 n, .slice A m c, .int .i64 v] w fun e w' => e = .returned (.bool true) ∧ Below w.heap.size w w' := by
  go_enter Try.func6, Try.ntmps6
  go_wp2_with fail
  refine (few_any A m c l0 _ hl hm).mono ?_
  rintro e w' ⟨⟨m', rfl, h20, hmc, hl'⟩, rfl⟩
  generalize l0.take 20 = l at *
  clear hl hm
  go_wp2_with fail
  refine (agreed_any n _ _ _ l _ hl').mono ?_
  rintro e w1 ⟨rfl, hb1⟩
  replace hl' := hl'.below hb1
  by_cases h : 1 ≤ n ∧ n ≤ 7
  · obtain ⟨N, rfl⟩ : ∃ N : Nat, n = N := ⟨n.toNat, by omega⟩
    rw [agreedF_yes h l]
    have hs := sizeF_yes h
    have hN1 : 1 ≤ N := by omega
    have hN7 : N ≤ 7 := by omega
    have hn7 := h.2
    clear h
    obtain ⟨hok, ha0, _⟩ := agr_ok ⟨hN1, hN7⟩ l
    have Hok := Lib.hid (show wonF N (hasK l (agrN N l) N) = true from hok)
    have Hov := Lib.hid (over_end ⟨hN1, hN7⟩ l v)
    clear hok
    generalize agrN N l = a at *
    go_wp2_with fail
    refine (size_any _ _).mono ?_
    rintro e w' ⟨rfl, rfl⟩
    rw [hs]
    clear hs
    go_wp2_with fail
    go_loopw [8, 9, 10] (fun h o p wr => ∃ (k : Nat) (A1 : Option Addr) (c1 : Nat) (A2 : Option Addr) (c2 : Nat), k ≤ N ∧ h = .slice A1 (hasK l a k).length c1 ∧ o = .slice A2 (overK l a v k).length c2 ∧ p = .int .i64 (k + 1 : Nat) ∧
      Two w1 wr (.slice A1 (hasK l a k).length c1) (hasK l a k).length (hasK l a k) (.slice A2 (overK l a v k).length c2) (overK l a v k).length (overK l a v k)) (fun _ _ p _ => (N + 1 - intOf p).toNat)
    case atStart =>
      refine ⟨0, none, 0, none, 0, Nat.zero_le _, rfl, ?_, rfl, ⟨own_nil _ _, ?_, fun g h => by simp [Value.ownBlock] at h, Below.refl _ _⟩⟩
      · have : overK l a v 0 = [] := by unfold overK hasK; split <;> rfl
        rw [this]; rfl
      · have : overK l a v 0 = [] := by unfold overK hasK; split <;> rfl
        rw [this]; exact own_nil _ _
    case round =>
      obtain ⟨k, A1, c1, A2, c2, hk, rfl, rfl, rfl, hT⟩ := hrel
      by_cases hlt : k < N
      · have Hm := Lib.hid (meas1 hlt rfl)
        have hs := Lib.hid (show ((k + 1 : Nat) : Int) ≤ N by omega)
        have hk1 := Lib.hid (show ((k + 1 : Nat) : Int) - 1 = (k : Nat) by omega)
        have wk := Lib.hid (wrap_s rfl (show k < 7 by omega))
        have wp := Lib.hid (show ((k + 1 : Nat) : Int) + 1 = ((k + 1 + 1 : Nat) : Int) by omega)
        have ws := Lib.hid (show wrap64 (((k + 1 : Nat) : Int) - 1) = (k : Nat) by unfold wrap64; omega)
        have Hy1 := Lib.hid (fun h => hasK_yes (l := l) (v := a) (k := k) h)
        have Hn1 := Lib.hid (fun h => hasK_no (l := l) (v := a) (k := k) h)
        have Hy2 := Lib.hid (fun h0 h => overK_yes (l := l) (a := a) (v := v) (k := k) h0 h)
        have Hn2 := Lib.hid (fun h0 h => overK_n2 (l := l) (a := a) (v := v) (k := k) h0 h)
        have Hn3 := Lib.hid (fun h0 => overK_n3 (l := l) (a := a) (v := v) (k := k) h0)
        have hu : atF l k = max 0 (l[k]?.getD 0) := rfl
        have hlen1 := hasK_len l a k
        have hlen2 := overK_len l a v k
        have hlw := hl'.below hT.b
        have hll := hl'.len
        generalize hsk : ((k + 1 : Nat) : Int) = s at *
        have hsN : s ≤ N := hs.out
        have hsk1 := hk1.out
        have hs1 : 1 ≤ s := by omega
        clear hs hk1 hsk
        have hT1 := hT.alloc (.cells #[.int .i64 s] 3)
        have hr1 := RdI.lit wr 3 (0, 0) [s] #[.int .i64 s] 1 wr.heap.size rfl rfl rfl
        generalize hK : hasK l a k = hs1 at *
        generalize hO : overK l a v k = os1 at *
        clear hK hO
        generalize atF l k = u at *
        by_cases hkm : k < m'
        · obtain ⟨ad, rfl, hcell⟩ := hlw.at_ hkm
          generalize l[k]?.getD 0 = x at *
          by_cases hx : 0 < x
          · have hux : u = x := by rw [hu]; exact Int.max_eq_right (by omega)
            clear hu
            by_cases ha : a ≤ u
            · by_cases hv1 : a < v
              · by_cases hv2 : v ≤ u
                · subst hux
                  have e1 := Hy1.out ha
                  have e2 := Hy2.out hv1 hv2
                  clear Hy1 Hn1 Hy2 Hn2 Hn3
                  go_wp2_with (first | (at_builtin; refine wpList_append_is2 rfl (.tmp 51) (.tmp 53) rfl w1.heap.size rfl hT1.o1 rfl hr1 (by omega) hT1.b.size ?_; intro A3 c3 w3 hown3 hg3 hf3; have hT2 := hT1.app1 hown3 hg3 hf3; clear hown3 hg3 hf3; have hT3 := hT2.alloc (.cells #[.int .i64 s] 3); have hr3 := RdI.lit w3 3 (0, 0) [s] #[.int .i64 s] 1 w3.heap.size rfl rfl rfl) | (at_builtin; refine wpList_append_is2 rfl (.tmp 63) (.tmp 65) rfl w1.heap.size rfl hT3.o2 rfl hr3 (by omega) hT3.b.size ?_; intro A4 c4 w4 hown4 hg4 hf4; have hT4 := hT3.app2 hown4 hg4 hf4; clear hown4 hg4 hf4) | fail)
                  refine ⟨?_, by ((first | rw [wk.out] | rw [wp.out] | skip); exact Hm.out)⟩; (repeat apply Exists.intro); (repeat apply Exists.intro); (repeat apply Exists.intro); (repeat apply Exists.intro); refine ⟨?_, rfl⟩; (first | rw [wk.out] | rw [wp.out] | skip); refine ⟨k + 1, A3, c3, A4, c4, hlt, ?_, ?_, rfl, ?_⟩
                  · rw [e1]; simp only [List.length_append, List.length_cons, List.length_nil, Nat.zero_add]
                  · rw [e2]; simp only [List.length_append, List.length_cons, List.length_nil, Nat.zero_add]
                  · rw [e1, e2]; simp only [List.length_append, List.length_cons, List.length_nil, Nat.zero_add]; exact hT4
                · subst hux
                  have e1 := Hy1.out ha
                  have e2 : overK l a v (k + 1) = os1 := by first | exact Hn2.out hv1 hv2 | exact Hn2.out hv1 (Int.not_le.1 hv2)
                  clear Hy1 Hn1 Hy2 Hn2 Hn3
                  go_wp2_with (first | (at_builtin; refine wpList_append_is2 rfl (.tmp 51) (.tmp 53) rfl w1.heap.size rfl hT1.o1 rfl hr1 (by omega) hT1.b.size ?_; intro A3 c3 w3 hown3 hg3 hf3; have hT2 := hT1.app1 hown3 hg3 hf3; clear hown3 hg3 hf3) | fail)
                  refine ⟨⟨_, _, _, ⟨k + 1, hlt, A3, c3, ?_, A2, c2, ?_, ?_, ?_⟩, rfl, rfl, rfl⟩, by show max ((N : Int) + 1 - (s + 1)) 0 < (N : Int) + 1 - s; omega⟩
                  · rw [e1]; simp only [List.length_append, List.length_cons, List.length_nil, Nat.zero_add]
                  · rw [e2]
                  · exact congrArg (Value.int .i64) wp.out
                  · rw [e1, e2]; simp only [List.length_append, List.length_cons, List.length_nil, Nat.zero_add]; exact hT2
              · subst hux
                have e1 := Hy1.out ha
                have e2 : overK l a v (k + 1) = os1 := by first | exact Hn3.out hv1 | exact Hn3.out (Int.not_lt.1 hv1)
                clear Hy1 Hn1 Hy2 Hn2 Hn3
                go_wp2_with (first | (at_builtin; refine wpList_append_is2 rfl (.tmp 51) (.tmp 53) rfl w1.heap.size rfl hT1.o1 rfl hr1 (by omega) hT1.b.size ?_; intro A3 c3 w3 hown3 hg3 hf3; have hT2 := hT1.app1 hown3 hg3 hf3; clear hown3 hg3 hf3) | fail)
                refine ⟨⟨_, _, _, ⟨k + 1, hlt, A3, c3, ?_, A2, c2, ?_, ?_, ?_⟩, rfl, rfl, rfl⟩, by show max ((N : Int) + 1 - (s + 1)) 0 < (N : Int) + 1 - s; omega⟩
                · rw [e1]; simp only [List.length_append, List.length_cons, List.length_nil, Nat.zero_add]
                · rw [e2]
                · exact congrArg (Value.int .i64) wp.out
                · rw [e1, e2]; simp only [List.length_append, List.length_cons, List.length_nil, Nat.zero_add]; exact hT2
            · by_cases hv1 : a < v
              · by_cases hv2 : v ≤ u
                · subst hux
                  omega
                · subst hux
                  have e1 : hasK l a (k + 1) = hs1 := by first | exact Hn1.out ha | exact Hn1.out (Int.not_le.1 ha)
                  have e2 : overK l a v (k + 1) = os1 := by first | exact Hn2.out hv1 hv2 | exact Hn2.out hv1 (Int.not_le.1 hv2)
                  clear Hy1 Hn1 Hy2 Hn2 Hn3
                  go_wp2_with fail
                  refine ⟨⟨k + 1, A1, c1, A2, c2, hlt, ?_, ?_, congrArg (Value.int .i64) wp.out, ?_⟩, ?_⟩
                  · rw [e1]
                  · rw [e2]
                  · rw [e1, e2]; exact hT
                  · first | exact Hm.out | (simp only [RowKit.intOf]; omega) | (rw [wp.out]; exact Hm.out)
              · subst hux
                have e1 : hasK l a (k + 1) = hs1 := by first | exact Hn1.out ha | exact Hn1.out (Int.not_le.1 ha)
                have e2 : overK l a v (k + 1) = os1 := by first | exact Hn3.out hv1 | exact Hn3.out (Int.not_lt.1 hv1)
                clear Hy1 Hn1 Hy2 Hn2 Hn3
                go_wp2_with fail
                refine ⟨⟨k + 1, A1, c1, A2, c2, hlt, ?_, ?_, congrArg (Value.int .i64) wp.out, ?_⟩, ?_⟩
                · rw [e1]
                · rw [e2]
                · rw [e1, e2]; exact hT
                · first | exact Hm.out | (simp only [RowKit.intOf]; omega) | (rw [wp.out]; exact Hm.out)
          · have hux : u = 0 := by rw [hu]; exact Int.max_eq_left (by omega)
            clear hu
            by_cases ha : a ≤ u
            · by_cases hv1 : a < v
              · by_cases hv2 : v ≤ u
                · subst hux
                  omega
                · subst hux
                  have e1 := Hy1.out ha
                  have e2 : overK l a v (k + 1) = os1 := by first | exact Hn2.out hv1 hv2 | exact Hn2.out hv1 (Int.not_le.1 hv2)
                  clear Hy1 Hn1 Hy2 Hn2 Hn3
                  go_wp2_with (first | (at_builtin; refine wpList_append_is2 rfl (.tmp 51) (.tmp 53) rfl w1.heap.size rfl hT1.o1 rfl hr1 (by omega) hT1.b.size ?_; intro A3 c3 w3 hown3 hg3 hf3; have hT2 := hT1.app1 hown3 hg3 hf3; clear hown3 hg3 hf3) | fail)
                  refine ⟨⟨_, _, _, ⟨k + 1, hlt, A3, c3, ?_, A2, c2, ?_, ?_, ?_⟩, rfl, rfl, rfl⟩, by show max ((N : Int) + 1 - (s + 1)) 0 < (N : Int) + 1 - s; omega⟩
                  · rw [e1]; simp only [List.length_append, List.length_cons, List.length_nil, Nat.zero_add]
                  · rw [e2]
                  · exact congrArg (Value.int .i64) wp.out
                  · rw [e1, e2]; simp only [List.length_append, List.length_cons, List.length_nil, Nat.zero_add]; exact hT2
              · subst hux
                have e1 := Hy1.out ha
                have e2 : overK l a v (k + 1) = os1 := by first | exact Hn3.out hv1 | exact Hn3.out (Int.not_lt.1 hv1)
                clear Hy1 Hn1 Hy2 Hn2 Hn3
                go_wp2_with (first | (at_builtin; refine wpList_append_is2 rfl (.tmp 51) (.tmp 53) rfl w1.heap.size rfl hT1.o1 rfl hr1 (by omega) hT1.b.size ?_; intro A3 c3 w3 hown3 hg3 hf3; have hT2 := hT1.app1 hown3 hg3 hf3; clear hown3 hg3 hf3) | fail)
                refine ⟨⟨_, _, _, ⟨k + 1, hlt, A3, c3, ?_, A2, c2, ?_, ?_, ?_⟩, rfl, rfl, rfl⟩, by show max ((N : Int) + 1 - (s + 1)) 0 < (N : Int) + 1 - s; omega⟩
                · rw [e1]; simp only [List.length_append, List.length_cons, List.length_nil, Nat.zero_add]
                · rw [e2]
                · exact congrArg (Value.int .i64) wp.out
                · rw [e1, e2]; simp only [List.length_append, List.length_cons, List.length_nil, Nat.zero_add]; exact hT2
            · by_cases hv1 : a < v
              · by_cases hv2 : v ≤ u
                · subst hux
                  omega
                · subst hux
                  have e1 : hasK l a (k + 1) = hs1 := by first | exact Hn1.out ha | exact Hn1.out (Int.not_le.1 ha)
                  have e2 : overK l a v (k + 1) = os1 := by first | exact Hn2.out hv1 hv2 | exact Hn2.out hv1 (Int.not_le.1 hv2)
                  clear Hy1 Hn1 Hy2 Hn2 Hn3
                  go_wp2_with fail
                  refine ⟨⟨k + 1, A1, c1, A2, c2, hlt, ?_, ?_, congrArg (Value.int .i64) wp.out, ?_⟩, ?_⟩
                  · rw [e1]
                  · rw [e2]
                  · rw [e1, e2]; exact hT
                  · first | exact Hm.out | (simp only [RowKit.intOf]; omega) | (rw [wp.out]; exact Hm.out)
              · subst hux
                have e1 : hasK l a (k + 1) = hs1 := by first | exact Hn1.out ha | exact Hn1.out (Int.not_le.1 ha)
                have e2 : overK l a v (k + 1) = os1 := by first | exact Hn3.out hv1 | exact Hn3.out (Int.not_lt.1 hv1)
                clear Hy1 Hn1 Hy2 Hn2 Hn3
                go_wp2_with fail
                refine ⟨⟨k + 1, A1, c1, A2, c2, hlt, ?_, ?_, congrArg (Value.int .i64) wp.out, ?_⟩, ?_⟩
                · rw [e1]
                · rw [e2]
                · rw [e1, e2]; exact hT
                · first | exact Hm.out | (simp only [RowKit.intOf]; omega) | (rw [wp.out]; exact Hm.out)
        · have hux : u = 0 := by rw [hu, List.getElem?_eq_none (by omega)]; rfl
          clear hu
          by_cases ha : a ≤ u
          · by_cases hv1 : a < v
            · by_cases hv2 : v ≤ u
              · subst hux
                omega
              · subst hux
                have e1 := Hy1.out ha
                have e2 : overK l a v (k + 1) = os1 := by first | exact Hn2.out hv1 hv2 | exact Hn2.out hv1 (Int.not_le.1 hv2)
                clear Hy1 Hn1 Hy2 Hn2 Hn3
                go_wp2_with (first | (at_builtin; refine wpList_append_is2 rfl (.tmp 51) (.tmp 53) rfl w1.heap.size rfl hT1.o1 rfl hr1 (by omega) hT1.b.size ?_; intro A3 c3 w3 hown3 hg3 hf3; have hT2 := hT1.app1 hown3 hg3 hf3; clear hown3 hg3 hf3) | fail)
                refine ⟨⟨_, _, _, ⟨k + 1, hlt, A3, c3, ?_, A2, c2, ?_, ?_, ?_⟩, rfl, rfl, rfl⟩, by show max ((N : Int) + 1 - (s + 1)) 0 < (N : Int) + 1 - s; omega⟩
                · rw [e1]; simp only [List.length_append, List.length_cons, List.length_nil, Nat.zero_add]
                · rw [e2]
                · exact congrArg (Value.int .i64) wp.out
                · rw [e1, e2]; simp only [List.length_append, List.length_cons, List.length_nil, Nat.zero_add]; exact hT2
            · subst hux
              have e1 := Hy1.out ha
              have e2 : overK l a v (k + 1) = os1 := by first | exact Hn3.out hv1 | exact Hn3.out (Int.not_lt.1 hv1)
              clear Hy1 Hn1 Hy2 Hn2 Hn3
              go_wp2_with (first | (at_builtin; refine wpList_append_is2 rfl (.tmp 51) (.tmp 53) rfl w1.heap.size rfl hT1.o1 rfl hr1 (by omega) hT1.b.size ?_; intro A3 c3 w3 hown3 hg3 hf3; have hT2 := hT1.app1 hown3 hg3 hf3; clear hown3 hg3 hf3) | fail)
              refine ⟨⟨_, _, _, ⟨k + 1, hlt, A3, c3, ?_, A2, c2, ?_, ?_, ?_⟩, rfl, rfl, rfl⟩, by show max ((N : Int) + 1 - (s + 1)) 0 < (N : Int) + 1 - s; omega⟩
              · rw [e1]; simp only [List.length_append, List.length_cons, List.length_nil, Nat.zero_add]
              · rw [e2]
              · exact congrArg (Value.int .i64) wp.out
              · rw [e1, e2]; simp only [List.length_append, List.length_cons, List.length_nil, Nat.zero_add]; exact hT2
          · by_cases hv1 : a < v
            · by_cases hv2 : v ≤ u
              · subst hux
                omega
              · subst hux
                have e1 : hasK l a (k + 1) = hs1 := by first | exact Hn1.out ha | exact Hn1.out (Int.not_le.1 ha)
                have e2 : overK l a v (k + 1) = os1 := by first | exact Hn2.out hv1 hv2 | exact Hn2.out hv1 (Int.not_le.1 hv2)
                clear Hy1 Hn1 Hy2 Hn2 Hn3
                go_wp2_with fail
                refine ⟨⟨k + 1, A1, c1, A2, c2, hlt, ?_, ?_, congrArg (Value.int .i64) wp.out, ?_⟩, ?_⟩
                · rw [e1]
                · rw [e2]
                · rw [e1, e2]; exact hT
                · first | exact Hm.out | (simp only [RowKit.intOf]; omega) | (rw [wp.out]; exact Hm.out)
            · subst hux
              have e1 : hasK l a (k + 1) = hs1 := by first | exact Hn1.out ha | exact Hn1.out (Int.not_le.1 ha)
              have e2 : overK l a v (k + 1) = os1 := by first | exact Hn3.out hv1 | exact Hn3.out (Int.not_lt.1 hv1)
              clear Hy1 Hn1 Hy2 Hn2 Hn3
              go_wp2_with fail
              refine ⟨⟨k + 1, A1, c1, A2, c2, hlt, ?_, ?_, congrArg (Value.int .i64) wp.out, ?_⟩, ?_⟩
              · rw [e1]
              · rw [e2]
              · rw [e1, e2]; exact hT
              · first | exact Hm.out | (simp only [RowKit.intOf]; omega) | (rw [wp.out]; exact Hm.out)
      · obtain rfl : k = N := by omega
        have hB1 := own_bounds hT.o1
        have hB2 := own_bounds hT.o2
        have hw1 := won_any k _ _ _ _ wr (RdI.of_own hT.o1) hB1.2 hB1.1
        have hw2 := won_any k _ _ _ _ wr (RdI.of_own hT.o2) hB2.2 hB2.1
        rw [Hok.out] at hw1
        rw [Hov.out] at hw2
        have hb := below_then hb1 hT.b (Nat.le_refl _)
        go_wp2_with fail
        refine hw1.mono ?_
        rintro e w' ⟨rfl, rfl⟩
        go_wp2_with fail
        refine hw2.mono ?_
        rintro e w' ⟨rfl, rfl⟩
        go_wp2_with fail
        refine (lives_any _).mono ?_
        rintro e w5 ⟨rfl, hb5⟩
        have hb5 := below_then hb hb5 (Nat.le_refl _)
        go_wp2_with fail
        go_ret
        exact ⟨rfl, hb5⟩
  · rw [agreedF_no h l]
    have hs := sizeF_no h
    clear h
    go_wp2_with fail
    refine (size_any _ _).mono ?_
    rintro e w' ⟨rfl, rfl⟩
    rw [hs]
    clear hs
    go_wp2_with fail
    refine (lives_any _).mono ?_
    rintro e w5 ⟨rfl, hb5⟩
    have hb5 := below_then hb1 hb5 (Nat.le_refl _)
    go_wp2_with fail
    go_ret
    exact ⟨rfl, hb5⟩
end Go.Proofs.Ytkgcccllabofoaa
