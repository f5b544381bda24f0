/-
  The walks of the schema: how many corners; the document's examples.
-/
import Derived.Test.YtojmkbhihnnmaaaSch14
namespace Go.Proofs.Ytojmkbhihnnmaaa
open Go.RowKit Go.Maps

theorem DimsOk.reads {w w' : World} {base c n : Nat} {A : Option Addr} {ys : List DimV} {ds : List Dm} (h : DimsOk w ys ds) (hb : Below w.heap.size w w') (ho : w'.ownsRow base 42 2 (.slice A n c) n (dimCells ys)) (hn : ds.length = n) : RdD w' A n ds := by
  refine ⟨hn, fun i d hi => ?_⟩
  obtain ⟨y, hy, h1, h2, h3, h4⟩ := h.2 i d hi
  have hi' : i < n := by rw [← hn]; exact (List.getElem?_eq_some_iff.1 hi).1
  obtain ⟨g, cap, hv, _, _⟩ := ho.form (by omega)
  injection hv with hA _ hc
  subst hA; subst hc
  have cellsAt : ∀ (ys : List DimV) (i : Nat) y, ys[i]? = some y → (dimCells ys)[i * 2]? = some (.string y.nm) ∧ (dimCells ys)[i * 2 + 1]? = some (.slice y.B y.m y.c) := by
    intro ys
    induction ys with
    | nil => intro i y h; simp at h
    | cons z zs ih =>
      intro i y h
      cases i with
      | zero =>
        simp at h; subst h
        simp [dimCells]
      | succ i =>
        have := ih i y (by simpa using h)
        simp only [dimCells, List.flatMap_cons] at this ⊢
        rw [show (i + 1) * 2 = i * 2 + 2 by omega, show i * 2 + 2 + 1 = i * 2 + 1 + 2 by omega]
        simpa using this
  obtain ⟨k1, k2⟩ := cellsAt ys i y hy
  have hl : (dimCells ys).length = n * 2 := ho.1
  have e : (⟨g, 0, none⟩ : Addr).add (i * 2) = ⟨g, i * 2, none⟩ := by unfold Addr.add; split <;> simp_all
  refine ⟨⟨g, 0, none⟩, y.B, y.m, y.c, rfl, ?_, ?_, h2.below hb, h3, h4⟩
  · rw [e, ho.cellAt (i * 2) (by omega), k1, h1]
  · rw [e]
    exact (ho.cellAt (i * 2 + 1) (by omega)).trans k2
theorem ViewsOk.reads {w w' : World} {base c n : Nat} {A : Option Addr} {xs : List Value} {L : List (List Int)} (h : ViewsOk w xs L) (hb : Below w.heap.size w w') (ho : w'.ownsRow base 30 1 (.slice A n c) n xs) (hn : L.length = n) : RdV w' A n L := by
  refine ⟨hn, fun i d hi => ?_⟩
  obtain ⟨B, m, d', hy, h2, h3, h4⟩ := h.2 i d hi
  have hi' : i < n := by rw [← hn]; exact (List.getElem?_eq_some_iff.1 hi).1
  have hx := Rds.of_own ho
  obtain ⟨ad, eA, hc⟩ := hx.2 (by omega)
  exact ⟨ad, B, m, d', eA, hc i _ hy, h2.below hb, h3, h4⟩
theorem fewF_sm (S : Sch) : (fewF S).dims.length ≤ 8 ∧ (∀ d ∈ (fewF S).dims, d.levels.length ≤ 8) ∧ (fewF S).measures.length ≤ 8 ∧ (fewF S).views.length ≤ 12 ∧ ∀ v ∈ (fewF S).views, v.length ≤ 8 := by
  unfold fewF
  refine ⟨by simp; omega, fun d hd => ?_, by simp; omega, by simp; omega, fun v hv => ?_⟩
  · obtain ⟨x, _, rfl⟩ := List.mem_map.1 hd
    simp [fewD]; omega
  · obtain ⟨x, _, rfl⟩ := List.mem_map.1 hv
    simp; omega
theorem fewF_Sm (S : Sch) : Sm (fewF S) := by
  obtain ⟨h1, h2, h3, h4, h5⟩ := fewF_sm S
  exact ⟨by omega, fun d hd => by have := h2 d hd; omega, by omega, by omega, fun v hv => by have := h5 v hv; omega⟩

def prodF (ds : List Dm) : Int := ds.foldl (fun a d => a * (d.levels.length + 1)) 1
theorem prodF_snoc (ds : List Dm) (d : Dm) : prodF (ds ++ [d]) = prodF ds * (d.levels.length + 1) := by simp [prodF, List.foldl_append]
theorem prodF_bd (ds : List Dm) (h : ∀ d ∈ ds, d.levels.length ≤ 8) : 0 ≤ prodF ds ∧ prodF ds ≤ (9 : Int) ^ ds.length := by
  have aux : ∀ (ds : List Dm) (a : Int), 0 ≤ a → (∀ d ∈ ds, d.levels.length ≤ 8) → 0 ≤ ds.foldl (fun a d => a * ((d.levels.length : Int) + 1)) a ∧ ds.foldl (fun a d => a * ((d.levels.length : Int) + 1)) a ≤ a * (9 : Int) ^ ds.length := by
    intro ds
    induction ds with
    | nil => intro a ha _; simp [ha]
    | cons d ds ih =>
      intro a ha h
      have hd := h d (by simp)
      have h1 : 0 ≤ a * ((d.levels.length : Int) + 1) := Int.mul_nonneg ha (by omega)
      obtain ⟨h2, h3⟩ := ih (a * ((d.levels.length : Int) + 1)) h1 (fun x hx => h x (by simp [hx]))
      refine ⟨h2, Int.le_trans h3 ?_⟩
      have h4 : a * ((d.levels.length : Int) + 1) ≤ a * 9 := Int.mul_le_mul_of_nonneg_left (by omega) ha
      have h5 := Int.mul_le_mul_of_nonneg_right h4 (show (0 : Int) ≤ 9 ^ ds.length from Int.pow_nonneg (by omega))
      rw [List.length_cons, Int.pow_succ, Int.mul_comm (9 ^ ds.length) 9, ← Int.mul_assoc]
      exact h5
  have := aux ds 1 (by omega) h
  rw [Int.one_mul] at this
  exact this
theorem pow9 (n : Nat) (h : n ≤ 8) : (9 : Int) ^ n ≤ 43046721 := by
  have : n = 0 ∨ n = 1 ∨ n = 2 ∨ n = 3 ∨ n = 4 ∨ n = 5 ∨ n = 6 ∨ n = 7 ∨ n = 8 := by omega
  rcases this with rfl | rfl | rfl | rfl | rfl | rfl | rfl | rfl | rfl <;> decide

theorem corners_any (A1 A2 A3 : Option Addr) (n1 n2 n3 c1 c2 c3 : Nat) (S : Sch) (w : World) (hr : RdSch w A1 A2 A3 n1 n2 n3 c1 c2 c3 S) (hn : n1 ≤ 8) (hd : ∀ d ∈ S.dims, d.levels.length ≤ 8) :
    Calls Try.prog 34 #[.agg #[.slice A1 n1 c1, .slice A2 n2 c2, .slice A3 n3 c3]] w fun e w' => e = .returned (.int .i64 (prodF S.dims)) ∧ Below w.heap.size w w' := by
  have Hd := Lib.hid hd
  have Hl := Lib.hid hr.d.1
  have hbx : Below w.heap.size w (w.alloc (.cells #[.slice A1 n1 c1, .slice A2 n2 c2, .slice A3 n3 c3] 26)) := (Below.refl _ _).alloc (Nat.le_refl _) _
  have hd1 := hr.d.below hbx
  clear hd
  go_enter Try.func34, Try.ntmps34
  go_wp2_with fail
  generalize w.alloc (.cells #[.slice A1 n1 c1, .slice A2 n2 c2, .slice A3 n3 c3] 26) = w1 at *
  go_loopw [3, 5, 13] (fun p _ i wr => ∃ k : Nat, k ≤ n1 ∧ i = .int .i64 k ∧ p = .int .i64 (prodF (S.dims.take k)) ∧ Below w1.heap.size w1 wr) (fun _ _ i _ => n1 - (intOf i).toNat)
  case atStart => exact ⟨0, Nat.zero_le _, rfl, rfl, Below.refl _ _⟩
  case round =>
    obtain ⟨k, hk, rfl, rfl, hb⟩ := hrel
    by_cases hlt : k < n1
    · obtain ⟨dm, ad, B, m, cB, hdm, rfl, hc0, hc1, hrt, hmc, hcm⟩ := (hd1.below hb).at_ hlt
      have hml := Hd.out dm (List.mem_of_getElem? hdm)
      have hsn : prodF (S.dims.take (k + 1)) = prodF (S.dims.take k) * (m + 1) := by rw [List.take_add_one, hdm, show (some dm).toList = [dm] from rfl, prodF_snoc, hrt.len]
      have hbd := prodF_bd (S.dims.take (k + 1)) (fun d hd => Hd.out d (List.mem_of_mem_take hd))
      have hbd0 := prodF_bd (S.dims.take k) (fun d hd => Hd.out d (List.mem_of_mem_take hd))
      have hle : (S.dims.take (k + 1)).length ≤ 8 := by rw [List.length_take]; omega
      have h9 := pow9 _ hle
      rw [hsn] at hbd
      have hmp0 := hbd.1
      have hmp1 := Int.le_trans hbd.2 h9
      have Hsn := Lib.hid hsn
      rw [hrt.len] at hml
      obtain ⟨nm, hnm⟩ : ∃ nm, dm.name = nm := ⟨_, rfl⟩
      rw [hnm] at hc0
      unfold maxLen at hcm
      generalize prodF (S.dims.take k) = p at *
      clear hdm hrt hsn hbd hbd0 hle h9 hnm
      have hbA := (Below.refl wr.heap.size wr).alloc (Nat.le_refl _) (.cells #[.string nm, .slice B m cB] 42)
      go_wp2_with fail
      go_roundw
      case rel => exact ⟨k + 1, by omega, by go_num, by rw [Hsn.out], below_then hb hbA (Nat.le_refl _)⟩
      case measure => simp [intOf]; omega
    · obtain rfl : k = n1 := by omega
      rw [List.take_of_length_le (by rw [Hl.out]; omega)] at *
      go_wp2
      go_ret
      exact ⟨rfl, below_then hbx hb (Nat.le_refl _)⟩
end Go.Proofs.Ytojmkbhihnnmaaa
