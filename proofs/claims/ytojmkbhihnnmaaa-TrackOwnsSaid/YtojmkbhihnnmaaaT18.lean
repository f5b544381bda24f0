/-
  The track: Take.
-/
import Derived.Test.YtojmkbhihnnmaaaT17
namespace Go.Proofs.Ytojmkbhihnnmaaa
open Go.RowKit

/-- entries taken so far: behind the first k (zk) -/
def TkLoop (S : Nat → Prop) (w5 wr : World) (g : Nat) (t : Trk) (A' : Option Addr) (k q c' : Nat) (zk zq : List (Value × En)) (M : List En) : Prop :=
  Blk wr g 93 #[.int .i64 t.index, .int .i64 t.term, .slice A' (k + q) c'] ∧ EsX w5.heap.size wr A' (k + q) c' (zk ++ zq) ∧ (0 < q → wr.ownsRow w5.heap.size 65 6 (.slice A' (k + q) c') (k + q) ((zk ++ zq).flatMap enC)) ∧
    DeepE (fun j => S j ∨ NewIn TD w5.heap.size wr j) wr (zk ++ zq) ∧ zq.map (·.2) = M.take q ∧ Fr (fun j => j = g) w5 wr ∧ TStay TD w5 wr ∧ (∀ j, rowOf A' j → j < wr.heap.size)
theorem TkLoop.below {S : Nat → Prop} {w5 wr w6 : World} {g : Nat} {t : Trk} {A' : Option Addr} {k q c' : Nat} {zk zq : List (Value × En)} {M : List En} (h : TkLoop S w5 wr g t A' k q c' zk zq M) (hb : Below wr.heap.size wr w6) : TkLoop S w5 w6 g t A' k q c' zk zq M := by
  obtain ⟨h1, h2, h3, h4, h5, h6, h7, h8⟩ := h
  have hT := TStay.below (L := TD) hb
  refine ⟨h1.kept hb, ?_, fun h => own_below (h3 h) hb, ?_, h5, h6.trans (Fr.of_below (X := fun _ => False) hb) fun _ h => h.elim, h7.trans hT, fun j hj => Nat.lt_of_lt_of_le (h8 j hj) hb.size⟩
  · rcases h2 with ⟨e, h2, h2'⟩ | h2
    · exact .inl ⟨e, h2.below hb, h2'⟩
    · exact .inr (own_below h2 hb)
  · refine (h4.keep fun j hj hl => hb.block j hl).mono fun j _ hj => hj.imp_right fun hj => ⟨hj.1, hj.2.move hT⟩
theorem TkLoop.next {S : Nat → Prop} {w5 w6 w7 : World} {g : Nat} {t : Trk} {A' A9 : Option Addr} {k q c' c9 : Nat} {zk zq : List (Value × En)} {M : List En} {z : Value × En} (hg : g < w5.heap.size) (hS : ∀ j, S j → TyIn TD w5 j) (h : TkLoop S w5 w6 g t A' k q c' zk zq M)
    (hb7 : Below w5.heap.size w6 w7) (hs : ∀ L, 65 ∉ L → TStay L w6 w7) (ho : w7.ownsRow w5.heap.size 65 6 (.slice A9 (k + q + 1) c9) (k + q + 1) ((zk ++ zq ++ [z]).flatMap enC))
    (hz : FactsV (NewIn TD w5.heap.size w6) w6 z.1 z.2.facts) (hM : M.take (q + 1) = M.take q ++ [z.2]) : TkLoop S w5 (w7.setCell ⟨g, 2, none⟩ (.slice A9 (k + q + 1) c9)) g t A9 k (q + 1) c9 zk (zq ++ [z]) M := by
  obtain ⟨h1, h2, h3, h4, h5, h6, h7, h8⟩ := h
  have k7 : Blk w7 g 93 #[.int .i64 t.index, .int .i64 t.term, .slice A' (k + q) c'] := h1.below hb7 hg
  have hT := hs TD (by decide)
  have hT2 : TStay TD w7 (w7.setCell ⟨g, 2, none⟩ (.slice A9 (k + q + 1) c9)) := TStay.set k7 (by decide)
  have hF2 : Fr (fun j => j = g) w7 (w7.setCell ⟨g, 2, none⟩ (.slice A9 (k + q + 1) c9)) := Fr.set g 2 _
  have hrow := own_row_blk ho A9 c9 rfl
  have ho2 : (w7.setCell ⟨g, 2, none⟩ (.slice A9 (k + q + 1) c9)).ownsRow w5.heap.size 65 6 (.slice A9 (k + q + 1) c9) (k + q + 1) ((zk ++ (zq ++ [z])).flatMap enC) := by
    rw [← List.append_assoc]
    exact own_keep ho fun j hj hl => hF2.block j hl fun e => by have := (hrow j hj).2.1; omega
  refine ⟨by simpa [Nat.add_assoc] using k7.set_ 2 (.slice A9 (k + q + 1) c9), .inr ho2, fun _ => ho2, ?_, by rw [List.map_append, h5, hM]; rfl, ?_, (h7.trans hT).trans hT2, fun j hj => Nat.lt_of_lt_of_le (hrow j hj).1 hF2.size⟩
  · rw [← List.append_assoc]
    have hTT := hT.trans hT2
    have e1 : DeepE (fun j => S j ∨ NewIn TD w5.heap.size w6 j) (w7.setCell ⟨g, 2, none⟩ (.slice A9 (k + q + 1) c9)) (zk ++ zq) := h4.keep fun j hj hl => hTT j (hj.elim (fun hj => (hS j hj).move h7) fun hj => hj.2)
    refine (e1.mono fun j _ hj => hj.imp_right fun hj => ⟨hj.1, hj.2.move hTT⟩).append fun y hy => ?_
    rw [List.mem_singleton.1 hy]
    exact (hz.move hTT).mono fun j _ hj => .inr hj
  · have hF7 : Fr (fun _ => False) w5 w7 → Fr (fun j => j = g) w5 (w7.setCell ⟨g, 2, none⟩ (.slice A9 (k + q + 1) c9)) := fun h => (h.mono (X' := fun j => j = g) fun _ h => h.elim).trans hF2 fun _ h => .inl h
    exact (h6.trans (X' := fun j => w5.heap.size ≤ j) ⟨hb7.os, hb7.tape, hb7.output, hb7.size, fun j _ hn => hb7.block j (by omega)⟩ fun j hj => .inr hj).trans hF2 fun _ h => .inl h
end Go.Proofs.Ytojmkbhihnnmaaa
