/-
  A region that draws its order and holds calls: operations that only read what stands still, and forced ones between them: one walk.
-/
import Derived.Test.YtojmkbhihnnmaaaMem
import Derived.OrdersHeld
import Derived.BigQuiet
import Derived.Deep.Quiet
import Derived.Lib.SlBytesConst
namespace Go.Proofs.Ytojmkbhihnnmaaa
open Go.RowKit

/-- operations that yield a value or do not end: no call of a function, no store -/
def calm (o : Oper) : Bool :=
  match o.op with
  | .call c => (match c.callee with | .builtin .len => true | .builtin .cap => true | _ => false)
  | .store .. | .ready _ | .mapUpdate .. | .insert .. | .entryStore .. | .go _ | .defer _ | .select .. | .send .. | .recv .. | .panic _ => false
  | _ => true

theorem then_value {α : Type} {r : Result α} {f : α → Value} {n : Next} {w' : World} (h : (r.andThen fun a w1 => Result.ok (Next.value (f a)) w1) = .ok n w') : ∃ v, n = .value v := by
  cases r with
  | ok a w1 =>
    simp only [Result.andThen_ok, Result.ok.injEq] at h
    exact ⟨_, h.1.symm⟩
  | halt x w1 => cases h

def Ends (P : Program) (s : Sem Next) : Prop := ∀ w n w', s.run P w = .ok n w' → ∃ v, n = .value v
theorem Ends.bind {α : Type} {P : Program} {s : Sem α} {f : α → Sem Next} (h : ∀ a, Ends P (f a)) : Ends P (s >>= f) := by
  intro w n w' hr
  rw [Sem.run_bind] at hr
  cases he : s.run P w with
  | ok a w1 => rw [he] at hr; exact h a w1 n w' hr
  | halt x w1 => rw [he] at hr; cases hr
theorem Ends.pure {P : Program} (v : Value) : Ends P (Pure.pure (Next.value v)) := by
  intro w n w' h
  simp only [Sem.run_pure, Result.ok.injEq] at h
  exact ⟨_, h.1.symm⟩
theorem Ends.nil {P : Program} : Ends P (runtimePanic RuntimeError.nilDeref) := by
  intro w n w' h
  simp [runtimePanic, goPanic, program, Sem.run] at h

theorem calm_value (P : Program) (ρ : Operand → Value) (o : Oper) (hc : calm o = true) (w w' : World) (n : Next) (h : (execOp ρ o).run P w = .ok n w') : ∃ v, n = .value v := by
  obtain ⟨dst, op, type, pos, after, guard⟩ := o
  cases op
  case call c =>
    obtain ⟨callee, args, argTypes⟩ := c
    cases callee with
    | value f => simp [calm] at hc
    | invoke r m => simp [calm] at hc
    | builtin b =>
      cases b <;> simp [calm] at hc
      all_goals
        simp only [execOp, resolve, invoke, builtin] at h
        simp only [Sem.run_bind, Sem.run_pure, Result.andThen_ok] at h
        exact then_value (f := id) h
  case nilCheck x =>
    simp only [execOp] at h
    split at h
    all_goals first
      | (simp only [Sem.run_pure, Result.ok.injEq] at h; exact ⟨_, h.1.symm⟩)
      | exact Ends.nil w n w' h
      | skip
    split at h
    · exact Ends.nil w n w' h
    · refine Ends.bind (fun _ => Ends.bind fun _ => ?_) w n w' h
      split
      · exact Ends.bind fun _ => Ends.pure _
      · exact Ends.pure _
    · exact Ends.pure _ w n w' h
  all_goals first
    | (simp [calm] at hc; done)
    | (simp only [execOp, Sem.run_bind, Sem.run_pure] at h; first | exact then_value (f := id) h | exact then_value h | (simp only [Result.ok.injEq] at h; exact ⟨_, h.1.symm⟩))

/-- behind a forced operation: the class of worlds is met again, and what is next holds -/
def mixExit (C : World → Prop) (next : Act → World → Prop) (Q : Exit → Act → World → Prop) : Exit → Act → World → Prop
  | .normal, a, w => C w ∧ next a w
  | e, a, w => Q e a w

def pickL (l : List Oper) : List Nat → List Oper
  | [] => []
  | i :: is => match l[i]? with
    | some o => o :: pickL l is
    | none => pickL l is

/-- the walk: a stretch of calm operations, then a forced one, and so on -/
def wpSegs (P : Program) (l : List Oper) (C : World → Prop) (Q : Exit → Act → World → Prop) : List (List Nat × Nat) → List Nat → Act → World → Prop
  | [], last, a, w => wpQuiet P l.toArray C (fun a' => Q .normal a' w) (pickL l last) a
  | (seg, i) :: more, last, a, w => wpQuiet P l.toArray C (fun a' => wpList P l.toArray (mixExit C (wpSegs P l C Q more last) Q) (pickL l [i]) a' w) (pickL l seg) a

/-- may this stretch be taken first, one after the other? -/
def calmRow (l : List Oper) : List Nat → Array Bool → Option (Array Bool)
  | [], listed => some listed
  | i :: is, listed =>
    if (Region.ready .any l.toArray listed).contains i && Region.free .any l.toArray listed i && ((l[i]?).map calm).getD false then calmRow l is (listed.setIfInBounds i true) else none
def mixRow (l : List Oper) : List (List Nat × Nat) → List Nat → Array Bool → Bool
  | [], last, listed => match calmRow l last listed with
    | some r => (Region.ready .any l.toArray r).isEmpty
    | none => false
  | (seg, i) :: more, last, listed => match calmRow l seg listed with
    | some r => Region.ready .any l.toArray r == [i] && mixRow l more last (r.setIfInBounds i true)
    | none => false
def mixB (l : List Oper) (segs : List (List Nat × Nat)) (last : List Nat) : Bool :=
  Region.noSelect l.toArray && (segs.map (fun s => s.1.length + 1)).sum + last.length == l.length && mixRow l segs last (Array.replicate l.length false)

section
variable {P : Program} {l : List Oper} {C : World → Prop} {Q : Exit → Act → World → Prop}

theorem put_keeps (a : Act) (d : Option Tmp) (v : Value) : (a.put d v).defers = a.defers := by cases d <;> rfl
theorem wpSegs_step {seg last : List Nat} {i : Nat} {more : List (List Nat × Nat)} {a : Act} {w : World}
    (h : ∀ K : Act → World → Prop, (∀ a w, wpSegs P l C Q more last a w → K a w) → wpQuiet P l.toArray C (fun a' => wpList P l.toArray (mixExit C K Q) (pickL l [i]) a' w) (pickL l seg) a) :
    wpSegs P l C Q ((seg, i) :: more) last a w := h _ (fun _ _ h => h)
theorem wpSegs_last {last : List Nat} {a : Act} {w : World} (h : wpQuiet P l.toArray C (fun a' => Q .normal a' w) (pickL l last) a) : wpSegs P l C Q [] last a w := h
theorem yieldsIf_of_quiet {o : Oper} {a : Act} {K : Act → Prop} (hc : calm o = true) (h : wpQuiet P l.toArray C K [o] a) :
    ∃ v, YieldsIf P l.toArray C o v a ∧ K (a.put o.dst v) := by
  unfold wpQuiet at h
  by_cases hw : Region.wanted o (yielded l.toArray a.tmps) = true
  · rw [if_pos hw] at h
    obtain ⟨v, hv, hk⟩ := h
    refine ⟨v, .inl ⟨hw, fun w hCw => ?_⟩, hk⟩
    have h1 := hv w hCw
    unfold Oper.quietAt at h1
    cases hr : (execOp a.eval o).run P w with
    | halt x w1 => rw [hr] at h1; exact h1.elim
    | ok n w1 =>
      obtain ⟨u, rfl⟩ := calm_value P a.eval o hc w w1 n hr
      rw [hr] at h1
      obtain ⟨rfl, rfl⟩ := h1
      rfl
  · rw [if_neg hw] at h
    exact ⟨undef, .inr ⟨by simpa using hw, rfl⟩, h⟩

theorem calm_take (hs : Region.noSelect l.toArray = true) (hQ : ∀ c (a b : Act) w, a.defers = b.defers → Q (.panic c) a w → Q (.panic c) b w) (seg : List Nat) :
    ∀ (listed r : Array Bool) (a : Act) (w : World) (fuel : Nat) (K : Act → Prop), calmRow l seg listed = some r → C w → wpQuiet P l.toArray C K (pickL l seg) a →
      (∀ a', K a' → wpAnyH P .any l.toArray Q C fuel r a' w) → wpAnyH P .any l.toArray Q C (seg.length + fuel) listed a w := by
  induction seg with
  | nil =>
    intro listed r a w fuel K hr hC h hK
    simp only [calmRow, Option.some.injEq] at hr
    subst hr
    simpa using hK a h
  | cons i is ih =>
    intro listed r a w fuel K hr hC h hK
    unfold calmRow at hr
    by_cases hb : ((Region.ready .any l.toArray listed).contains i && Region.free .any l.toArray listed i && ((l[i]?).map calm).getD false) = true
    · rw [if_pos hb] at hr
      simp only [Bool.and_eq_true] at hb
      obtain ⟨⟨hrd, hfr⟩, hcm⟩ := hb
      cases ho : l[i]? with
      | none => rw [ho] at hcm; cases hcm
      | some o =>
        rw [ho] at hcm
        have hp : pickL l (i :: is) = o :: pickL l is := by simp [pickL, ho]
        rw [hp] at h
        have h' : wpQuiet P l.toArray C (wpQuiet P l.toArray C K (pickL l is)) [o] a := h
        obtain ⟨v, hy, hn⟩ := yieldsIf_of_quiet hcm h'
        rw [show (i :: is).length + fuel = (is.length + fuel) + 1 by simp; omega]
        exact wpAnyH_take (by simpa using ho) hs hfr hrd (fun c a w hq => hQ c _ _ w (put_keeps _ _ _) hq) hy hC (ih _ r _ w fuel K hr hC hn hK)
    · rw [if_neg hb] at hr; cases hr

theorem wp_of_mix {o : Oper} {a : Act} {w : World} {next K K' : Act → World → Prop} (h : ∀ a w, K a w → K' a w) (hh : o.wp P a w K (mixExit C next Q)) : o.wp P a w K' Q := by
  unfold Oper.wp at *
  generalize (execOp a.eval o).run P w = r at *
  cases r with
  | ok n w' =>
    cases n <;> simp only [Oper.upon] at hh ⊢ <;>
      first
        | exact h _ _ hh
        | exact Calls.mono hh (fun e w'' he => by cases e <;> first | exact h _ _ he | exact he)
        | exact Rows.mono hh (fun _ _ he => h _ _ he)
  | halt x w' => cases x <;> simp only [Oper.upon] at hh ⊢ <;> exact hh

theorem mix_any (hs : Region.noSelect l.toArray = true) (hQ : ∀ c (a b : Act) w, a.defers = b.defers → Q (.panic c) a w → Q (.panic c) b w) (last : List Nat) (segs : List (List Nat × Nat)) :
    ∀ (listed : Array Bool) (a : Act) (w : World), mixRow l segs last listed = true → C w → wpSegs P l C Q segs last a w →
      wpAnyH P .any l.toArray Q C ((segs.map (fun s => s.1.length + 1)).sum + last.length) listed a w := by
  induction segs with
  | nil =>
    intro listed a w hr hC h
    unfold mixRow at hr
    cases hc : calmRow l last listed with
    | none => rw [hc] at hr; cases hr
    | some r =>
      rw [hc] at hr
      have := calm_take (P := P) (C := C) (Q := Q) hs hQ last listed r a w 0 (fun a' => Q .normal a' w) hc hC h (fun a' ha => wpAnyH_done (by simpa using hr) ha 0)
      simpa using this
  | cons s more ih =>
    obtain ⟨seg, i⟩ := s
    intro listed a w hr hC h
    unfold mixRow at hr
    cases hc : calmRow l seg listed with
    | none => rw [hc] at hr; cases hr
    | some r =>
      rw [hc] at hr
      simp only [Bool.and_eq_true, beq_iff_eq] at hr
      obtain ⟨hrd, hmore⟩ := hr
      have hlen : (((seg, i) :: more).map (fun s => s.1.length + 1)).sum + last.length = seg.length + (((more.map (fun s => s.1.length + 1)).sum + last.length) + 1) := by
        simp; omega
      rw [hlen]
      refine calm_take (P := P) (C := C) (Q := Q) hs hQ seg listed r a w _ _ hc hC h fun a' ha => ?_
      refine wpAnyH_all hrd (by simp) fun j hj => ?_
      obtain rfl : j = i := by simpa using hj
      have hready : j ∈ Region.ready .any l.toArray r := by rw [hrd]; simp
      obtain ⟨_, o, ho, _⟩ := mem_ready.1 hready
      have ho' : l[j]? = some o := by simpa using ho
      have hp : pickL l [j] = [o] := by simp [pickL, ho']
      rw [hp] at ha
      unfold wpOp
      rw [ho]
      simp only []
      unfold wpList at ha
      have hmono : ∀ a2 w2, wpList P l.toArray (mixExit C (wpSegs P l C Q more last) Q) [] a2 w2 → C w2 ∧ wpAnyH P .any l.toArray Q C ((more.map (fun s => s.1.length + 1)).sum + last.length) (r.setIfInBounds j true) a2 w2 :=
        fun a2 w2 h2 => ⟨h2.1, ih _ a2 w2 hmore h2.1 h2.2⟩
      split
      · rename_i hw
        rw [if_pos hw] at ha
        exact ha.imp (wp_of_mix hmono) (fun h2 => h2)
      · rename_i hw
        rw [if_neg hw] at ha
        exact hmono _ _ ha

/-- A REGION THAT DRAWS ITS ORDER: calm stretches and forced operations between them, walked once -/
theorem wp_region_mix {id : Nat} {a : Act} {w : World} (segs : List (List Nat × Nat)) (last : List Nat) (hm : P.follows .mixedOrders = true) (hB : mixB l segs last = true)
    (hQ : ∀ c (a b : Act) w, a.defers = b.defers → Q (.panic c) a w → Q (.panic c) b w) (hC : C w.drew) (h : wpSegs P l C Q segs last a w.drew) : (Code.region id l.toArray true).wp P Q a w := by
  simp only [mixB, Bool.and_eq_true, beq_iff_eq] at hB
  obtain ⟨⟨hs, hlen⟩, hrow⟩ := hB
  refine wp_region_held (S := C) hm ?_
  have := mix_any (P := P) hs hQ last segs _ a w.drew hrow hC h
  rw [hlen] at this
  simpa using this
end

/-- '[]byte("..")' of a constant -/
theorem convert_const (P : Program) (t e : TypeId) (ht : P.underlying t = some (.slice e)) (he : P.underlying e = some (.int .u8)) :
    ∀ (w : World) (g : Nat) (C : Array Value) (n c : Nat), w.heap.size = g →
      (convert t t (.slice (some ⟨g, 0, none⟩) n c)).run P (w.alloc (.cells C e)) = .ok (.slice (some ⟨g, 0, none⟩) n c) (w.alloc (.cells C e (C.size, C.size + 1))) := by
  intro w g C n c hg
  subst hg
  exact Lib.run_convert_bytes_const w t e C n c ht he

/-- the class of all worlds -/
def anyW : World → Prop := fun w' => ∃ x : World, w' = x
attribute [go_sem] anyW
theorem anyW_all (w : World) : anyW w := ⟨w, rfl⟩
/-- the class of the worlds in which nothing below B has turned -/
def After (B : Nat) (w : World) : Type := { w' : World // Below B w w' }
instance (B : Nat) (w : World) : Nonempty (After B w) := ⟨⟨w, Below.refl _ _⟩⟩
def laterW (B : Nat) (w : World) : World → Prop := fun w' => ∃ x : After B w, w' = x.1
attribute [go_sem] laterW
theorem laterW_of {B : Nat} {w w' : World} (h : Below B w w') : laterW B w w' := ⟨⟨w', h⟩, rfl⟩
theorem laterW_below {B : Nat} {w w' : World} (h : laterW B w w') : Below B w w' := by
  obtain ⟨x, rfl⟩ := h; exact x.2
theorem after_cell {B : Nat} {w : World} {p : Addr} {v : Value} (h : w.cell? p = some v) (hB : p.block < B) : ∀ x : After B w, x.1.cell? p = some v :=
  fun x => (x.2.cell hB).trans h
end Go.Proofs.Ytojmkbhihnnmaaa
