/-
  No cell of these rows narrows 'for every input' (looked for: loops, veiled, ifaces, maps, wideKeys, modest, calm, conditions, laid).
  DERIVED. THE GIVEN ROWS OF THIS SEAT. 10 by the template 'for every input the law returns true; each argument reads behind the call as it read before'; 0 by the template 'total and deterministic' (their statements: YtkgcccllabofoaaTotals.lean).
  GIVEN WITH THE SEED: the statements are not yours to turn. If you find one false, say at which input.
  Laid BY PROGRAM, IN A SANDBOX (cutbox-rows.mjs): the forced cells as the released guide's own fill.sh prints them over the translation e553b7685f1167f7… (all of the seat's roots in one cut). By AI agents, Wed Nov 11 2026. No macro, syntax, notation, axiom, sorry.
-/
import Derived.Test.YtkgcccllabofoaaChecked
import GoSem.Claim
import GoSem.ClaimJoined
import GoSem.ClaimMapViews
import Derived.JoinedTies
import Derived.KernelRfl
namespace Go.Proofs.Ytkgcccllabofoaa
/- THE CELL 'sum', in the pinned program and in every row, IS THE sha256 OF THE DUMP (.gsa) THAT YtkgcccllabofoaaProg.lean LOADS. Nothing in Lean hashes anything: it is a label: what it is worth is what the hold of that sum in a sandbox is worth. -/
noncomputable def Try.pinned : Pinned := { name := "ytkgcccllabofoaa", sum := "e553b7685f1167f74ad56ded89afcffdf2564f35baf69010aa8a9f867ec6083c", checked := Try.checked }
namespace Rows
def none {H : Type} : Left H := { results := [], args := [] }

/-- 'tesseractlaw20.QuorumWon': WHATEVER THE INPUT: true; the input reads as it did. -/
def quorumWonSpec : ChangeSpec := { name := "quorumWon", fn := fun _ => fun
  | [d1, d2] => { results := [.lit (.bool true)], args := [d1, d2] }
  | _ => none }
def quorumWonRow : OpenClaim := { program := "ytkgcccllabofoaa", sum := "e553b7685f1167f74ad56ded89afcffdf2564f35baf69010aa8a9f867ec6083c", func := "tesseract/tesseractlaw20.QuorumWon", spec := "quorumWon", recurses := true, apart := false }
def QuorumWonSaid : Prop := quorumWonRow.holds Try.pinned (OpenSpec.ofChange quorumWonSpec)

/-- ITS FALSE NEIGHBOUR: 'it returns false'. Refute it at one input. -/
def quorumWonWrong : ChangeSpec := { name := "quorumWon", fn := fun _ => fun
  | [d1, d2] => { results := [.lit (.bool false)], args := [d1, d2] }
  | _ => none }
def QuorumWonWrongFalsely : Prop := quorumWonRow.holds Try.pinned (OpenSpec.ofChange quorumWonWrong)

/-- 'tesseractlaw20.QuorumAgreed': WHATEVER THE INPUT: true; the input reads as it did. -/
def quorumAgreedSpec : ChangeSpec := { name := "quorumAgreed", fn := fun _ => fun
  | [d1, d2] => { results := [.lit (.bool true)], args := [d1, d2] }
  | _ => none }
def quorumAgreedRow : OpenClaim := { program := "ytkgcccllabofoaa", sum := "e553b7685f1167f74ad56ded89afcffdf2564f35baf69010aa8a9f867ec6083c", func := "tesseract/tesseractlaw20.QuorumAgreed", spec := "quorumAgreed", recurses := true, apart := false }
def QuorumAgreedSaid : Prop := quorumAgreedRow.holds Try.pinned (OpenSpec.ofChange quorumAgreedSpec)

/-- ITS FALSE NEIGHBOUR: 'it returns false'. Refute it at one input. -/
def quorumAgreedWrong : ChangeSpec := { name := "quorumAgreed", fn := fun _ => fun
  | [d1, d2] => { results := [.lit (.bool false)], args := [d1, d2] }
  | _ => none }
def QuorumAgreedWrongFalsely : Prop := quorumAgreedRow.holds Try.pinned (OpenSpec.ofChange quorumAgreedWrong)

/-- 'tesseractlaw20.QuorumMeets': WHATEVER THE INPUT: true; the input reads as it did. -/
def quorumMeetsSpec : ChangeSpec := { name := "quorumMeets", fn := fun _ => fun
  | [d1, d2, d3] => { results := [.lit (.bool true)], args := [d1, d2, d3] }
  | _ => none }
def quorumMeetsRow : OpenClaim := { program := "ytkgcccllabofoaa", sum := "e553b7685f1167f74ad56ded89afcffdf2564f35baf69010aa8a9f867ec6083c", func := "tesseract/tesseractlaw20.QuorumMeets", spec := "quorumMeets", recurses := true, apart := false }
def QuorumMeetsSaid : Prop := quorumMeetsRow.holds Try.pinned (OpenSpec.ofChange quorumMeetsSpec)

/-- ITS FALSE NEIGHBOUR: 'it returns false'. Refute it at one input. -/
def quorumMeetsWrong : ChangeSpec := { name := "quorumMeets", fn := fun _ => fun
  | [d1, d2, d3] => { results := [.lit (.bool false)], args := [d1, d2, d3] }
  | _ => none }
def QuorumMeetsWrongFalsely : Prop := quorumMeetsRow.holds Try.pinned (OpenSpec.ofChange quorumMeetsWrong)

/-- 'tesseractlaw20.QuorumBest': WHATEVER THE INPUT: true; the input reads as it did. -/
def quorumBestSpec : ChangeSpec := { name := "quorumBest", fn := fun _ => fun
  | [d1, d2, d3] => { results := [.lit (.bool true)], args := [d1, d2, d3] }
  | _ => none }
def quorumBestRow : OpenClaim := { program := "ytkgcccllabofoaa", sum := "e553b7685f1167f74ad56ded89afcffdf2564f35baf69010aa8a9f867ec6083c", func := "tesseract/tesseractlaw20.QuorumBest", spec := "quorumBest", recurses := true, apart := false }
def QuorumBestSaid : Prop := quorumBestRow.holds Try.pinned (OpenSpec.ofChange quorumBestSpec)

/-- ITS FALSE NEIGHBOUR: 'it returns false'. Refute it at one input. -/
def quorumBestWrong : ChangeSpec := { name := "quorumBest", fn := fun _ => fun
  | [d1, d2, d3] => { results := [.lit (.bool false)], args := [d1, d2, d3] }
  | _ => none }
def QuorumBestWrongFalsely : Prop := quorumBestRow.holds Try.pinned (OpenSpec.ofChange quorumBestWrong)

/-- 'tesseractlaw20.QuorumNewer': WHATEVER THE INPUT: true; the input reads as it did. -/
def quorumNewerSpec : ChangeSpec := { name := "quorumNewer", fn := fun _ => fun
  | [d1, d2, d3, d4] => { results := [.lit (.bool true)], args := [d1, d2, d3, d4] }
  | _ => none }
def quorumNewerRow : OpenClaim := { program := "ytkgcccllabofoaa", sum := "e553b7685f1167f74ad56ded89afcffdf2564f35baf69010aa8a9f867ec6083c", func := "tesseract/tesseractlaw20.QuorumNewer", spec := "quorumNewer", recurses := true, apart := false }
def QuorumNewerSaid : Prop := quorumNewerRow.holds Try.pinned (OpenSpec.ofChange quorumNewerSpec)

/-- ITS FALSE NEIGHBOUR: 'it returns false'. Refute it at one input. -/
def quorumNewerWrong : ChangeSpec := { name := "quorumNewer", fn := fun _ => fun
  | [d1, d2, d3, d4] => { results := [.lit (.bool false)], args := [d1, d2, d3, d4] }
  | _ => none }
def QuorumNewerWrongFalsely : Prop := quorumNewerRow.holds Try.pinned (OpenSpec.ofChange quorumNewerWrong)

/-- 'tesseractlaw16.DiskPlays': WHATEVER THE INPUT: true; the input reads as it did. -/
def diskPlaysSpec : ChangeSpec := { name := "diskPlays", fn := fun _ => fun
  | [d] => { results := [.lit (.bool true)], args := [d] }
  | _ => none }
def diskPlaysRow : OpenClaim := { program := "ytkgcccllabofoaa", sum := "e553b7685f1167f74ad56ded89afcffdf2564f35baf69010aa8a9f867ec6083c", func := "tesseract/tesseractlaw16.DiskPlays", spec := "diskPlays", recurses := true, apart := false }
def DiskPlaysSaid : Prop := diskPlaysRow.holds Try.pinned (OpenSpec.ofChange diskPlaysSpec)

/-- ITS FALSE NEIGHBOUR: 'it returns false'. Refute it at one input. -/
def diskPlaysWrong : ChangeSpec := { name := "diskPlays", fn := fun _ => fun
  | [d] => { results := [.lit (.bool false)], args := [d] }
  | _ => none }
def DiskPlaysWrongFalsely : Prop := diskPlaysRow.holds Try.pinned (OpenSpec.ofChange diskPlaysWrong)

/-- 'tesseractlaw16.DiskSynced': WHATEVER THE INPUT: true; the input reads as it did. -/
def diskSyncedSpec : ChangeSpec := { name := "diskSynced", fn := fun _ => fun
  | [d1, d2, d3, d4] => { results := [.lit (.bool true)], args := [d1, d2, d3, d4] }
  | _ => none }
def diskSyncedRow : OpenClaim := { program := "ytkgcccllabofoaa", sum := "e553b7685f1167f74ad56ded89afcffdf2564f35baf69010aa8a9f867ec6083c", func := "tesseract/tesseractlaw16.DiskSynced", spec := "diskSynced", recurses := true, apart := false }
def DiskSyncedSaid : Prop := diskSyncedRow.holds Try.pinned (OpenSpec.ofChange diskSyncedSpec)

/-- ITS FALSE NEIGHBOUR: 'it returns false'. Refute it at one input. -/
def diskSyncedWrong : ChangeSpec := { name := "diskSynced", fn := fun _ => fun
  | [d1, d2, d3, d4] => { results := [.lit (.bool false)], args := [d1, d2, d3, d4] }
  | _ => none }
def DiskSyncedWrongFalsely : Prop := diskSyncedRow.holds Try.pinned (OpenSpec.ofChange diskSyncedWrong)

/-- 'tesseractlaw16.DiskAll': WHATEVER THE INPUT: true; the input reads as it did. -/
def diskAllSpec : ChangeSpec := { name := "diskAll", fn := fun _ => fun
  | [d] => { results := [.lit (.bool true)], args := [d] }
  | _ => none }
def diskAllRow : OpenClaim := { program := "ytkgcccllabofoaa", sum := "e553b7685f1167f74ad56ded89afcffdf2564f35baf69010aa8a9f867ec6083c", func := "tesseract/tesseractlaw16.DiskAll", spec := "diskAll", recurses := true, apart := false }
def DiskAllSaid : Prop := diskAllRow.holds Try.pinned (OpenSpec.ofChange diskAllSpec)

/-- ITS FALSE NEIGHBOUR: 'it returns false'. Refute it at one input. -/
def diskAllWrong : ChangeSpec := { name := "diskAll", fn := fun _ => fun
  | [d] => { results := [.lit (.bool false)], args := [d] }
  | _ => none }
def DiskAllWrongFalsely : Prop := diskAllRow.holds Try.pinned (OpenSpec.ofChange diskAllWrong)

/-- 'tesseractlaw16.DiskDown': WHATEVER THE INPUT: true; the input reads as it did. -/
def diskDownSpec : ChangeSpec := { name := "diskDown", fn := fun _ => fun
  | [d1, d2] => { results := [.lit (.bool true)], args := [d1, d2] }
  | _ => none }
def diskDownRow : OpenClaim := { program := "ytkgcccllabofoaa", sum := "e553b7685f1167f74ad56ded89afcffdf2564f35baf69010aa8a9f867ec6083c", func := "tesseract/tesseractlaw16.DiskDown", spec := "diskDown", recurses := true, apart := false }
def DiskDownSaid : Prop := diskDownRow.holds Try.pinned (OpenSpec.ofChange diskDownSpec)

/-- ITS FALSE NEIGHBOUR: 'it returns false'. Refute it at one input. -/
def diskDownWrong : ChangeSpec := { name := "diskDown", fn := fun _ => fun
  | [d1, d2] => { results := [.lit (.bool false)], args := [d1, d2] }
  | _ => none }
def DiskDownWrongFalsely : Prop := diskDownRow.holds Try.pinned (OpenSpec.ofChange diskDownWrong)

/-- 'tesseractlaw16.DiskOwns': WHATEVER THE INPUT: true; the input reads as it did. -/
def diskOwnsSpec : ChangeSpec := { name := "diskOwns", fn := fun _ => fun
  | [d] => { results := [.lit (.bool true)], args := [d] }
  | _ => none }
def diskOwnsRow : OpenClaim := { program := "ytkgcccllabofoaa", sum := "e553b7685f1167f74ad56ded89afcffdf2564f35baf69010aa8a9f867ec6083c", func := "tesseract/tesseractlaw16.DiskOwns", spec := "diskOwns", recurses := true, apart := false }
def DiskOwnsSaid : Prop := diskOwnsRow.holds Try.pinned (OpenSpec.ofChange diskOwnsSpec)

/-- ITS FALSE NEIGHBOUR: 'it returns false'. Refute it at one input. -/
def diskOwnsWrong : ChangeSpec := { name := "diskOwns", fn := fun _ => fun
  | [d] => { results := [.lit (.bool false)], args := [d] }
  | _ => none }
def DiskOwnsWrongFalsely : Prop := diskOwnsRow.holds Try.pinned (OpenSpec.ofChange diskOwnsWrong)

/- THE SECOND FORM. 'bulk': how many values and letters a reading holds, each counted each time it is reached (what is shared counts as often as it is met; a slice's spare places count too). A statement '..UptoSaid' is the law's where the arguments, and the package variables that the reading takes, are together of bulk at most 1048576: NARROWER than '..Said'. Prove '..Said' where nothing that the law and all that it calls make is longer than what came in: it says more and counts as full. Else prove '..UptoSaid'. A law counts once. -/
mutual
def uptoBulk {H : Type} : DataW H → Nat
  | .lit (.string bytes) => bytes.length + 1
  | .lit _ => 1
  | .nil => 1
  | .ptr d => uptoBulk d + 1
  | .slice elems spare => uptoBulkAll elems + uptoBulkAll spare + 1
  | .agg parts => uptoBulkAll parts + 1
  | .iface _ d => uptoBulk d + 1
  | .map entries => uptoBulkEntries entries + 1
  | .held _ => 1
def uptoBulkAll {H : Type} : List (DataW H) → Nat
  | [] => 0
  | d :: r => uptoBulk d + uptoBulkAll r
def uptoBulkEntries {H : Type} : List (Lit × DataW H) → Nat
  | [] => 0
  | x :: r => uptoBulkEntry x + uptoBulkEntries r
def uptoBulkEntry {H : Type} : Lit × DataW H → Nat
  | (.string bytes, d) => bytes.length + uptoBulk d + 1
  | (_, d) => uptoBulk d + 1
 end
def uptoSmall : (H : Type) → List (DataW H) → Bool := fun _ ds => decide (uptoBulkAll ds ≤ 1048576)
def OpenSpec.upto (s : _root_.Go.ChangeSpec) : _root_.Go.OpenSpec := { _root_.Go.OpenSpec.ofChange s with cond := some uptoSmall }

/-- 'tesseractlaw20.QuorumWon', WHERE WHAT IT READS IS OF BULK AT MOST 1048576: true; the input reads as it did. -/
def quorumWonUptoRow : OpenClaim := { program := "ytkgcccllabofoaa", sum := "e553b7685f1167f74ad56ded89afcffdf2564f35baf69010aa8a9f867ec6083c", func := "tesseract/tesseractlaw20.QuorumWon", spec := "quorumWon", recurses := true, apart := false, narrowed := true }
def QuorumWonUptoSaid : Prop := quorumWonUptoRow.holds Try.pinned (OpenSpec.upto quorumWonSpec)

/-- 'tesseractlaw20.QuorumAgreed', WHERE WHAT IT READS IS OF BULK AT MOST 1048576: true; the input reads as it did. -/
def quorumAgreedUptoRow : OpenClaim := { program := "ytkgcccllabofoaa", sum := "e553b7685f1167f74ad56ded89afcffdf2564f35baf69010aa8a9f867ec6083c", func := "tesseract/tesseractlaw20.QuorumAgreed", spec := "quorumAgreed", recurses := true, apart := false, narrowed := true }
def QuorumAgreedUptoSaid : Prop := quorumAgreedUptoRow.holds Try.pinned (OpenSpec.upto quorumAgreedSpec)

/-- 'tesseractlaw20.QuorumMeets', WHERE WHAT IT READS IS OF BULK AT MOST 1048576: true; the input reads as it did. -/
def quorumMeetsUptoRow : OpenClaim := { program := "ytkgcccllabofoaa", sum := "e553b7685f1167f74ad56ded89afcffdf2564f35baf69010aa8a9f867ec6083c", func := "tesseract/tesseractlaw20.QuorumMeets", spec := "quorumMeets", recurses := true, apart := false, narrowed := true }
def QuorumMeetsUptoSaid : Prop := quorumMeetsUptoRow.holds Try.pinned (OpenSpec.upto quorumMeetsSpec)

/-- 'tesseractlaw20.QuorumBest', WHERE WHAT IT READS IS OF BULK AT MOST 1048576: true; the input reads as it did. -/
def quorumBestUptoRow : OpenClaim := { program := "ytkgcccllabofoaa", sum := "e553b7685f1167f74ad56ded89afcffdf2564f35baf69010aa8a9f867ec6083c", func := "tesseract/tesseractlaw20.QuorumBest", spec := "quorumBest", recurses := true, apart := false, narrowed := true }
def QuorumBestUptoSaid : Prop := quorumBestUptoRow.holds Try.pinned (OpenSpec.upto quorumBestSpec)

/-- 'tesseractlaw20.QuorumNewer', WHERE WHAT IT READS IS OF BULK AT MOST 1048576: true; the input reads as it did. -/
def quorumNewerUptoRow : OpenClaim := { program := "ytkgcccllabofoaa", sum := "e553b7685f1167f74ad56ded89afcffdf2564f35baf69010aa8a9f867ec6083c", func := "tesseract/tesseractlaw20.QuorumNewer", spec := "quorumNewer", recurses := true, apart := false, narrowed := true }
def QuorumNewerUptoSaid : Prop := quorumNewerUptoRow.holds Try.pinned (OpenSpec.upto quorumNewerSpec)

/-- 'tesseractlaw16.DiskPlays', WHERE WHAT IT READS IS OF BULK AT MOST 1048576: true; the input reads as it did. -/
def diskPlaysUptoRow : OpenClaim := { program := "ytkgcccllabofoaa", sum := "e553b7685f1167f74ad56ded89afcffdf2564f35baf69010aa8a9f867ec6083c", func := "tesseract/tesseractlaw16.DiskPlays", spec := "diskPlays", recurses := true, apart := false, narrowed := true }
def DiskPlaysUptoSaid : Prop := diskPlaysUptoRow.holds Try.pinned (OpenSpec.upto diskPlaysSpec)

/-- 'tesseractlaw16.DiskSynced', WHERE WHAT IT READS IS OF BULK AT MOST 1048576: true; the input reads as it did. -/
def diskSyncedUptoRow : OpenClaim := { program := "ytkgcccllabofoaa", sum := "e553b7685f1167f74ad56ded89afcffdf2564f35baf69010aa8a9f867ec6083c", func := "tesseract/tesseractlaw16.DiskSynced", spec := "diskSynced", recurses := true, apart := false, narrowed := true }
def DiskSyncedUptoSaid : Prop := diskSyncedUptoRow.holds Try.pinned (OpenSpec.upto diskSyncedSpec)

/-- 'tesseractlaw16.DiskAll', WHERE WHAT IT READS IS OF BULK AT MOST 1048576: true; the input reads as it did. -/
def diskAllUptoRow : OpenClaim := { program := "ytkgcccllabofoaa", sum := "e553b7685f1167f74ad56ded89afcffdf2564f35baf69010aa8a9f867ec6083c", func := "tesseract/tesseractlaw16.DiskAll", spec := "diskAll", recurses := true, apart := false, narrowed := true }
def DiskAllUptoSaid : Prop := diskAllUptoRow.holds Try.pinned (OpenSpec.upto diskAllSpec)

/-- 'tesseractlaw16.DiskDown', WHERE WHAT IT READS IS OF BULK AT MOST 1048576: true; the input reads as it did. -/
def diskDownUptoRow : OpenClaim := { program := "ytkgcccllabofoaa", sum := "e553b7685f1167f74ad56ded89afcffdf2564f35baf69010aa8a9f867ec6083c", func := "tesseract/tesseractlaw16.DiskDown", spec := "diskDown", recurses := true, apart := false, narrowed := true }
def DiskDownUptoSaid : Prop := diskDownUptoRow.holds Try.pinned (OpenSpec.upto diskDownSpec)

/-- 'tesseractlaw16.DiskOwns', WHERE WHAT IT READS IS OF BULK AT MOST 1048576: true; the input reads as it did. -/
def diskOwnsUptoRow : OpenClaim := { program := "ytkgcccllabofoaa", sum := "e553b7685f1167f74ad56ded89afcffdf2564f35baf69010aa8a9f867ec6083c", func := "tesseract/tesseractlaw16.DiskOwns", spec := "diskOwns", recurses := true, apart := false, narrowed := true }
def DiskOwnsUptoSaid : Prop := diskOwnsUptoRow.holds Try.pinned (OpenSpec.upto diskOwnsSpec)

end Rows
end Go.Proofs.Ytkgcccllabofoaa
