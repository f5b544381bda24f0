/-
  The law TrackPlays.
-/
import Derived.Test.YtojmkbhihnnmaaaT29
namespace Go.Proofs.Ytojmkbhihnnmaaa
open Go.RowKit

/-- a deed as it lies in memory -/
structure Dr where
  x : Dd
  V : Option Addr
  m : Nat
  d : Nat
  A : Option Addr
  k : Nat
  c : Nat
  ys : List (Value × En)
def ddC (r : Dr) : List Value := [vi r.x.kind, vi r.x.idx, vi r.x.term, vi r.x.cmd.op, vi r.x.cmd.sess, vi r.x.cmd.seq, .slice r.V r.m r.d, .slice r.A r.k r.c]
theorem ddC_len (r : Dr) : (ddC r).length = 8 := rfl
/-- the deeds handed in -/
structure DdsV (z : Nat) (w : World) (A : Option Addr) (n : Nat) (rs : List Dr) : Prop where
  r : Rds w 8 A n (rs.flatMap ddC)
  b : 0 < n → ∀ ad, A = some ad → ad.block < z
  v : ∀ r ∈ rs, DdV z w r.x r.V r.m r.d r.A r.k r.c r.ys
section
variable {z M : Nat} {w w' : World} {gt gr n : Nat} {t : Trk} {A : Option Addr} {rs : List Dr}
theorem DdsV.len (h : DdsV z w A n rs) : rs.length = n := by
  have := h.r.1
  rw [flat_len ddC_len] at this
  omega
theorem DdsV.below (h : DdsV z w A n rs) (hb : Below z w w') : DdsV z w' A n rs :=
  ⟨Rds.stay (S := fun j => j < z) h.r (fun h0 ad e => h.b h0 ad e) (Stay.lt hb), h.b, fun r hr => (h.v r hr).below hb⟩
theorem DdsV.at_ (h : DdsV z w A n rs) {i : Nat} (hi : i < n) :
    ∃ ad r, A = some ad ∧ rs[i]? = some r ∧ DdV z w r.x r.V r.m r.d r.A r.k r.c r.ys ∧ w.cell? (ad.add (i * 8)) = some (.int .i64 r.x.kind) ∧ w.cell? ⟨(ad.add (i * 8)).block, (ad.add (i * 8)).off + 1, none⟩ = some (.int .i64 r.x.idx) ∧
      w.cell? ⟨(ad.add (i * 8)).block, (ad.add (i * 8)).off + 2, none⟩ = some (.int .i64 r.x.term) ∧ w.cell? ⟨(ad.add (i * 8)).block, (ad.add (i * 8)).off + 3, none⟩ = some (.int .i64 r.x.cmd.op) ∧
      w.cell? ⟨(ad.add (i * 8)).block, (ad.add (i * 8)).off + 4, none⟩ = some (.int .i64 r.x.cmd.sess) ∧ w.cell? ⟨(ad.add (i * 8)).block, (ad.add (i * 8)).off + 5, none⟩ = some (.int .i64 r.x.cmd.seq) ∧
      w.cell? ⟨(ad.add (i * 8)).block, (ad.add (i * 8)).off + 6, none⟩ = some (.slice r.V r.m r.d) ∧ w.cell? ⟨(ad.add (i * 8)).block, (ad.add (i * 8)).off + 7, none⟩ = some (.slice r.A r.k r.c) := by
  have hl := h.len
  obtain ⟨ad, rfl, hc⟩ := h.r.2 (by omega)
  have hz : rs[i]? = some (rs[i]'(by omega)) := List.getElem?_eq_getElem (by omega)
  obtain ⟨r, hr⟩ : ∃ r, r = rs[i]'(by omega) := ⟨_, rfl⟩
  rw [← hr] at hz
  have key : ∀ j u, j < 8 → (ddC r)[j]? = some u → w.cell? (ad.add (i * 8 + j)) = some u := fun j u hj hu => hc _ _ ((flat_at ddC_len hj hz).trans hu)
  have c0 := key 0 _ (by omega) rfl
  have c1 := key 1 _ (by omega) rfl
  have c2 := key 2 _ (by omega) rfl
  have c3 := key 3 _ (by omega) rfl
  have c4 := key 4 _ (by omega) rfl
  have c5 := key 5 _ (by omega) rfl
  have c6 := key 6 _ (by omega) rfl
  have c7 := key 7 _ (by omega) rfl
  rw [← add_of_add, add_next _ _ (by omega)] at c1 c2 c3 c4 c5 c6 c7
  exact ⟨ad, r, rfl, hz, h.v _ (List.mem_of_getElem? hz), c0, c1, c2, c3, c4, c5, c6, c7⟩
/-- two new tracks -/
theorem two_new {w1 w2 : World} {i tm : Int} (hb : baseB i tm = true) (hb1 : Below w.heap.size w w1) (hk1 : Blk w1 w.heap.size 93 #[.int .i64 i, .int .i64 tm, .slice none 0 0]) (hb2 : Below w1.heap.size w1 w2)
    (hk2 : Blk w2 w1.heap.size 78 #[.int .i64 i, .int .i64 tm, .slice none 0 0]) : Two w.heap.size w2.heap.size w2 w.heap.size w1.heap.size ⟨i, tm, []⟩ ⟨i, tm, []⟩ := by
  have h1 := hb1.size
  have h2 := hb2.size
  exact ⟨_, _, _, _, _, _, _, _, _, trk_new hb (hk1.kept hb2) (Nat.le_refl _), ref_new hb hk2, fun j h => (by obtain ⟨_, h, _⟩ := h; cases h), fun j h => h.elim, h1, by omega, Nat.le_refl _⟩
end
set_option maxRecDepth 100000 in
set_option maxHeartbeats 4000000 in
theorem trackPlays_any {A : Option Addr} {n c : Nat} {rs : List Dr} {w : World} (i tm : Int) (hD : DdsV w.heap.size w A n rs) :
    Calls Try.prog 10 #[.int .i64 i, .int .i64 tm, .slice A n c] w fun e w' => e = .returned (.bool true) ∧ Below w.heap.size w w' := by
  cases hb : baseB i tm with
  | false =>
    have h1 := tnew_nil hb w
    have h2 := rnew_nil hb w
    go_enter Try.func10, Try.ntmps10
    go_wp2_with fail
    refine h1.mono ?_
    rintro e w1 ⟨rfl, rfl⟩
    go_wp2_with fail
    refine h2.mono ?_
    rintro e w1 ⟨rfl, rfl⟩
    go_wp2_with fail
    refine (tlives_any w).mono ?_
    rintro e w1 ⟨rfl, hb1⟩
    go_wp2_with fail
    go_ret
    exact ⟨rfl, hb1⟩
  | true =>
    have h1 := tnew_ok hb w
    go_enter Try.func10, Try.ntmps10
    go_wp2_with fail
    refine h1.mono ?_
    rintro e w1 ⟨rfl, hk1, hb1⟩
    have h2 := rnew_ok hb w1
    go_wp2_with fail
    refine h2.mono ?_
    rintro e w2 ⟨rfl, hk2, hb2⟩
    have hP := two_new hb hb1 hk1 hb2 hk2
    have hb02 := below_then hb1 hb2 (Nat.le_refl _)
    clear h1 h2 hk1 hk2 hb1 hb2
    generalize w1.heap.size = gr at *
    obtain ⟨z, hz⟩ : ∃ z, w.heap.size = z := ⟨_, rfl⟩
    rw [hz] at hP hD hb02 ⊢
    go_wp2_with fail
    go_loopw [9] (fun i' wr => ∃ (k : Nat) (t' : Trk) (M : Nat), k ≤ n ∧ k ≤ 40 ∧ i' = .int .i64 k ∧ Two z M wr z gr t' t' ∧ t'.L.length ≤ 12 * k ∧ Below z w wr) (fun i' _ => 40 - (intOf i').toNat)
    case atStart => exact ⟨0, _, _, Nat.zero_le _, Nat.zero_le _, rfl, hP, Nat.le_refl _, hb02⟩
    case round =>
      clear hP hb02
      obtain ⟨k, t, M, hk, hk4, rfl, hP, hL, hbw⟩ := hrel
      by_cases hlt : k < n
      · by_cases hl4 : k < 40
        · obtain ⟨ad, r, rfl, hr, hv, c0, c1, c2, c3, c4, c5, c6, c7⟩ := (hD.below hbw).at_ hlt
          have hcall := tdoes_any hP (by omega) hv
          have hL2 := doF_len t r.x
          unfold ddV at hcall
          clear hr
          have hmeas := Lib.hid (show 40 - (k + 1) < 40 - k by omega)
          go_wp2_with fail
          refine hcall.mono ?_
          rintro e w3 ⟨rfl, M3, hP3, hb3⟩
          have hcall2 := tlike_any hP3 (by omega)
          clear hcall c0 c1 c2 c3 c4 c5 c6 c7
          go_wp2_with fail
          refine hcall2.mono ?_
          rintro e w4 ⟨rfl, hb4⟩
          have hb4z := hb4.mono hP3.zw
          go_wp2_with fail
          go_roundw
          case rel => exact ⟨k + 1, _, _, hlt, hl4, by go_num, hP3.below hb4, by omega, (hbw.trans hb3).trans hb4z⟩
          case measure => simp [intOf]; have := hmeas.out; omega
        · have hl4' : ¬ (k : Int) < 40 := by omega
          go_wp2_with fail
          refine (tlives_any wr).mono ?_
          rintro e w5 ⟨rfl, hb5⟩
          go_wp2_with fail
          go_ret
          exact ⟨rfl, by rw [hz]; exact hbw.trans (hb5.mono hP.zw)⟩
      · have hl4' : ¬ (k : Int) < n := by omega
        go_wp2_with fail
        refine (tlives_any wr).mono ?_
        rintro e w5 ⟨rfl, hb5⟩
        go_wp2_with fail
        go_ret
        exact ⟨rfl, by rw [hz]; exact hbw.trans (hb5.mono hP.zw)⟩
end Go.Proofs.Ytojmkbhihnnmaaa
