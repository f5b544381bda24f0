/-
  Schemas in memory.
-/
import Derived.Test.YtojmkbhihnnmaaaSch2
namespace Go.Proofs.Ytojmkbhihnnmaaa
open Go.RowKit

structure Dm where
  name : ByteArray
  levels : List ByteArray
structure Sch where
  dims : List Dm
  measures : List ByteArray
  views : List (List Int)

def vs (s : ByteArray) : Value := .string s
def RdT (w : World) (A : Option Addr) (n : Nat) (l : List ByteArray) : Prop := Rds w 1 A n (l.map vs)
theorem RdT.len {w : World} {A : Option Addr} {n : Nat} {l : List ByteArray} (h : RdT w A n l) : l.length = n := by have := h.1; simpa using this
theorem RdT.at_ {w : World} {A : Option Addr} {n : Nat} {l : List ByteArray} (h : RdT w A n l) {k : Nat} (hk : k < n) : ∃ ad s, A = some ad ∧ l[k]? = some s ∧ w.cell? (ad.add k) = some (.string s) := by
  obtain ⟨ad, e, hc⟩ := h.2 (by omega)
  have hl := h.len
  refine ⟨ad, l[k]'(by omega), e, List.getElem?_eq_getElem (by omega), hc k _ ?_⟩
  rw [List.getElem?_map, List.getElem?_eq_getElem (by omega)]; rfl
theorem RdT.below {w w' : World} {A : Option Addr} {n : Nat} {l : List ByteArray} (h : RdT w A n l) (hb : Below w.heap.size w w') : RdT w' A n l := Rds.below h hb
theorem RdT.take {w : World} {A : Option Addr} {n : Nat} {l : List ByteArray} (h : RdT w A n l) {k : Nat} (hk : k ≤ n) : RdT w A k (l.take k) := by
  have := Rds.take (size := 1) h hk
  simpa [RdT, List.map_take] using this

def RdD (w : World) (A : Option Addr) (n : Nat) (ds : List Dm) : Prop :=
  ds.length = n ∧ ∀ (i : Nat) d, ds[i]? = some d → ∃ (ad : Addr) (B : Option Addr) (m c : Nat), A = some ad ∧ w.cell? (ad.add (i * 2)) = some (.string d.name) ∧
    w.cell? ⟨(ad.add (i * 2)).block, (ad.add (i * 2)).off + 1, none⟩ = some (.slice B m c) ∧ RdT w B m d.levels ∧ m ≤ c ∧ c ≤ maxLen
theorem RdD.below {w w' : World} {A : Option Addr} {n : Nat} {ds : List Dm} (h : RdD w A n ds) (hb : Below w.heap.size w w') : RdD w' A n ds :=
  ⟨h.1, fun i d hi => by
    obtain ⟨ad, B, m, c, e, h1, h2, h3, h4⟩ := h.2 i d hi
    exact ⟨ad, B, m, c, e, (hb.cell (lt_of_cell h1)).trans h1, (hb.cell (lt_of_cell h2)).trans h2, h3.below hb, h4⟩⟩
theorem RdD.at_ {w : World} {A : Option Addr} {n : Nat} {ds : List Dm} (h : RdD w A n ds) {k : Nat} (hk : k < n) : ∃ (d : Dm) (ad : Addr) (B : Option Addr) (m c : Nat), ds[k]? = some d ∧ A = some ad ∧ w.cell? (ad.add (k * 2)) = some (.string d.name) ∧
    w.cell? ⟨(ad.add (k * 2)).block, (ad.add (k * 2)).off + 1, none⟩ = some (.slice B m c) ∧ RdT w B m d.levels ∧ m ≤ c ∧ c ≤ maxLen := by
  have hl := h.1
  have e : ds[k]? = some (ds[k]'(by omega)) := List.getElem?_eq_getElem (by omega)
  obtain ⟨ad, B, m, c, h1⟩ := h.2 k _ e
  exact ⟨_, ad, B, m, c, e, h1⟩

def RdV (w : World) (A : Option Addr) (n : Nat) (vs : List (List Int)) : Prop :=
  vs.length = n ∧ ∀ (i : Nat) v, vs[i]? = some v → ∃ (ad : Addr) (B : Option Addr) (m c : Nat), A = some ad ∧ w.cell? (ad.add i) = some (.slice B m c) ∧ RdI w B m v ∧ m ≤ c ∧ c ≤ maxLen
theorem RdV.below {w w' : World} {A : Option Addr} {n : Nat} {vs : List (List Int)} (h : RdV w A n vs) (hb : Below w.heap.size w w') : RdV w' A n vs :=
  ⟨h.1, fun i d hi => by
    obtain ⟨ad, B, m, c, e, h1, h3, h4⟩ := h.2 i d hi
    exact ⟨ad, B, m, c, e, (hb.cell (lt_of_cell h1)).trans h1, h3.below hb, h4⟩⟩
theorem RdV.at_ {w : World} {A : Option Addr} {n : Nat} {vs : List (List Int)} (h : RdV w A n vs) {k : Nat} (hk : k < n) : ∃ (v : List Int) (ad : Addr) (B : Option Addr) (m c : Nat), vs[k]? = some v ∧ A = some ad ∧ w.cell? (ad.add k) = some (.slice B m c) ∧ RdI w B m v ∧ m ≤ c ∧ c ≤ maxLen := by
  have hl := h.1
  have e : vs[k]? = some (vs[k]'(by omega)) := List.getElem?_eq_getElem (by omega)
  obtain ⟨ad, B, m, c, h1⟩ := h.2 k _ e
  exact ⟨_, ad, B, m, c, e, h1⟩

/-- a schema by value -/
structure RdSch (w : World) (A1 A2 A3 : Option Addr) (n1 n2 n3 c1 c2 c3 : Nat) (S : Sch) : Prop where
  d : RdD w A1 n1 S.dims
  m : RdT w A2 n2 S.measures
  v : RdV w A3 n3 S.views
  b1 : n1 ≤ c1 ∧ c1 ≤ maxLen
  b2 : n2 ≤ c2 ∧ c2 ≤ maxLen
  b3 : n3 ≤ c3 ∧ c3 ≤ maxLen
theorem RdSch.below {w w' : World} {A1 A2 A3 : Option Addr} {n1 n2 n3 c1 c2 c3 : Nat} {S : Sch} (h : RdSch w A1 A2 A3 n1 n2 n3 c1 c2 c3 S) (hb : Below w.heap.size w w') : RdSch w' A1 A2 A3 n1 n2 n3 c1 c2 c3 S :=
  ⟨h.d.below hb, h.m.below hb, h.v.below hb, h.b1, h.b2, h.b3⟩

def baseF (S : Sch) : List Int := S.dims.map fun d => (d.levels.length : Int)
theorem baseF_snoc (S : Sch) (k : Nat) (d : Dm) (h : S.dims[k]? = some d) : (baseF S).take (k + 1) = (baseF S).take k ++ [(d.levels.length : Int)] := by
  unfold baseF
  rw [List.take_add_one, List.getElem?_map, h]; rfl
theorem baseF_len (S : Sch) : (baseF S).length = S.dims.length := by simp [baseF]

theorem base_any (A1 A2 A3 : Option Addr) (n1 n2 n3 c1 c2 c3 : Nat) (S : Sch) (w : World) (hr : RdSch w A1 A2 A3 n1 n2 n3 c1 c2 c3 S) (hn : n1 ≤ 1000000) :
    Calls Try.prog 21 #[.agg #[.slice A1 n1 c1, .slice A2 n2 c2, .slice A3 n3 c3]] w fun e w' => ∃ A' c', e = .returned (.slice A' n1 c') ∧
      w'.ownsRow w.heap.size 3 1 (.slice A' n1 c') n1 ((baseF S).map vi) ∧ Below w.heap.size w w' := by
  have hd := hr.d
  have Hl := Lib.hid hd.1
  have Hsn := Lib.hid (baseF_snoc S)
  have Hbl := Lib.hid (baseF_len S)
  clear hr
  go_enter Try.func21, Try.ntmps21
  go_wp2
  have hbx : Below w.heap.size w (w.alloc (.cells #[.slice A1 n1 c1, .slice A2 n2 c2, .slice A3 n3 c3] 26)) := (Below.refl _ _).alloc (Nat.le_refl _) _
  go_loopw [3, 5, 9] (fun v _ i wr => ∃ (k : Nat) (A' : Option Addr) (c' : Nat), k ≤ n1 ∧ i = .int .i64 k ∧ v = .slice A' k c' ∧ wr.ownsRow w.heap.size 3 1 (.slice A' k c') k (((baseF S).take k).map vi) ∧ Below w.heap.size w wr) (fun _ _ i _ => n1 - (intOf i).toNat)
  case atStart => exact ⟨0, none, 0, Nat.zero_le _, rfl, rfl, own_nil _ _, hbx⟩
  case round =>
    obtain ⟨k, A', c', hk, rfl, rfl, hown, hb⟩ := hrel
    by_cases hlt : k < n1
    · obtain ⟨dm, ad, B, m, cB, hdm, rfl, hc0, hc1, hrt, hmc, hcm⟩ := (hd.below hb).at_ hlt
      have Hst := Lib.hid (Hsn.out k dm hdm)
      have hml := hrt.len
      obtain ⟨nm, hnm⟩ : ∃ nm, dm.name = nm := ⟨_, rfl⟩
      rw [hnm] at hc0
      have Hml := Lib.hid hml
      clear hdm hrt hml hnm
      unfold maxLen at hcm
      have hbA := (Below.refl wr.heap.size wr).alloc (Nat.le_refl _) (.cells #[.string nm, .slice B m cB] 42)
      have hbB := hbA.alloc hbA.size (.cells #[.int .i64 m] 3)
      have hownB := own_below hown hbB
      have hb0B := below_then hb hbB (Nat.le_refl _)
      have hrB : RdI ((wr.alloc (.cells #[.string nm, .slice B m cB] 42)).alloc (.cells #[.int .i64 m] 3)) (some ⟨wr.heap.size + 1, 0, none⟩) 1 [(m : Int)] := RdI.lit _ _ _ _ _ 1 _ rfl rfl (by simp)
      go_wp2_with (first
        | (at_builtin; refine wpList_append_is rfl (.tmp 13) (.tmp 17) rfl w.heap.size rfl hownB rfl hrB (by omega) hb0B.size ?_; intro A3' c3' w3 hown3 hg3 hb3; clear hg3)
        | fail)
      go_roundw
      case rel => exact ⟨k + 1, A3', c3', by omega, by go_num, rfl, by rw [Hst.out, Hml.out]; exact hown3, hb0B.trans hb3⟩
      case measure => simp [intOf]; omega
    · obtain rfl : k = n1 := by omega
      rw [List.take_of_length_le (by rw [Hbl.out, Hl.out]; omega)] at hown
      go_wp2
      go_ret
      exact ⟨A', c', rfl, hown, hb⟩

theorem refbase_any (A1 A2 A3 : Option Addr) (n1 n2 n3 c1 c2 c3 : Nat) (S : Sch) (w : World) (hr : RdSch w A1 A2 A3 n1 n2 n3 c1 c2 c3 S) (hn : n1 ≤ 1000000) :
    Calls Try.prog 22 #[.agg #[.slice A1 n1 c1, .slice A2 n2 c2, .slice A3 n3 c3]] w fun e w' => ∃ A' c', e = .returned (.slice A' n1 c') ∧
      w'.ownsRow w.heap.size 3 1 (.slice A' n1 c') n1 ((baseF S).map vi) ∧ Below w.heap.size w w' := by
  have hd := hr.d
  have Hl := Lib.hid hd.1
  have Hsn := Lib.hid (baseF_snoc S)
  have Hbl := Lib.hid (baseF_len S)
  have hc1l := hr.b1.2
  unfold maxLen at hc1l
  clear hr
  go_enter Try.func22, Try.ntmps22
  go_wp2
  have hbx : Below w.heap.size w (w.alloc (.cells #[.slice A1 n1 c1, .slice A2 n2 c2, .slice A3 n3 c3] 26)) := (Below.refl _ _).alloc (Nat.le_refl _) _
  have hblk := Blk.new w 26 #[.slice A1 n1 c1, .slice A2 n2 c2, .slice A3 n3 c3]
  have hd1 := hd.below hbx
  have hsz : (w.alloc (.cells #[.slice A1 n1 c1, .slice A2 n2 c2, .slice A3 n3 c3] 26)).heap.size = w.heap.size + 1 := by simp
  generalize w.alloc (.cells #[.slice A1 n1 c1, .slice A2 n2 c2, .slice A3 n3 c3] 26) = w1 at *
  go_loopw [3, 4] (fun v i wr => ∃ (k : Nat) (A' : Option Addr) (c' : Nat), k ≤ n1 ∧ i = .int .i64 k ∧ v = .slice A' k c' ∧ wr.ownsRow w1.heap.size 3 1 (.slice A' k c') k (((baseF S).take k).map vi) ∧ Below w1.heap.size w1 wr) (fun _ i _ => n1 - (intOf i).toNat)
  case atStart => exact ⟨0, none, 0, Nat.zero_le _, rfl, rfl, own_nil _ _, Below.refl _ _⟩
  case round =>
    obtain ⟨k, A', c', hk, rfl, rfl, hown, hb⟩ := hrel
    have hq : wr.cell? ⟨w.heap.size, 0, none⟩ = some (.slice A1 n1 c1) := (hblk.kept hb).cell 0
    by_cases hlt : k < n1
    · obtain ⟨dm, ad, B, m, cB, hdm, rfl, hc0, hc1, hrt, hmc, hcm⟩ := (hd1.below hb).at_ hlt
      have Hst := Lib.hid (Hsn.out k dm hdm)
      have Hml := Lib.hid hrt.len
      clear hdm hrt hc0
      unfold maxLen at hcm
      have hbB := (Below.refl wr.heap.size wr).alloc (Nat.le_refl _) (.cells #[.int .i64 m] 3)
      have hownB := own_below hown hbB
      have hb0B := below_then hb hbB (Nat.le_refl _)
      have hrB : RdI (wr.alloc (.cells #[.int .i64 m] 3)) (some ⟨wr.heap.size, 0, none⟩) 1 [(m : Int)] := RdI.lit _ _ _ _ _ 1 _ rfl rfl rfl
      go_wp2_with (first
        | (at_builtin; refine wpList_append_is rfl (.tmp 12) (.tmp 20) rfl w1.heap.size rfl hownB rfl hrB (by omega) hb0B.size ?_; intro A3' c3' w3 hown3 hg3 hb3; clear hg3)
        | fail)
      go_roundw
      case rel => exact ⟨k + 1, A3', c3', by omega, by go_num, rfl, by rw [Hst.out, Hml.out]; exact hown3, hb0B.trans hb3⟩
      case measure => simp [intOf]; omega
    · obtain rfl : k = n1 := by omega
      rw [List.take_of_length_le (by rw [Hbl.out, Hl.out]; omega)] at hown
      go_wp2
      go_ret
      exact ⟨A', c', rfl, own_mono hown hbx.size, hbx.trans (hb.mono hbx.size)⟩

end Go.Proofs.Ytojmkbhihnnmaaa
