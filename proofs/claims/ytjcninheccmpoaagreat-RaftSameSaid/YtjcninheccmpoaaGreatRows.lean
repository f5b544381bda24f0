/-
  No cell of these rows narrows 'for every input' (looked for: loops, veiled, ifaces, maps, wideKeys, modest, calm, conditions, laid).
  DERIVED. THE GIVEN ROWS OF THIS SEAT. 9 by the template 'for every input the law returns true; each argument reads behind the call as it read before'; 0 by the template 'total and deterministic' (their statements: YtjcninheccmpoaaGreatTotals.lean).
  GIVEN WITH THE SEED: the statements are not yours to turn. If you find one false, say at which input.
  Laid BY PROGRAM, IN A SANDBOX (cutbox-rows.mjs): the forced cells as the released guide's own fill.sh prints them over the translation 3a7885f63b60b0bd… (all of the seat's roots in one cut). By AI agents, Wed Nov 11 2026. No macro, syntax, notation, axiom, sorry.
-/
import Derived.Test.YtjcninheccmpoaaGreatChecked
import GoSem.Claim
import GoSem.ClaimJoined
import GoSem.ClaimMapViews
import Derived.JoinedTies
import Derived.KernelRfl
namespace Go.Proofs.YtjcninheccmpoaaGreat
/- THE CELL 'sum', in the pinned program and in every row, IS THE sha256 OF THE DUMP (.gsa) THAT YtjcninheccmpoaaGreatProg.lean LOADS. Nothing in Lean hashes anything: it is a label: what it is worth is what the hold of that sum in a sandbox is worth. -/
noncomputable def Tryz.pinned : Pinned := { name := "ytjcninheccmpoaagreat", sum := "3a7885f63b60b0bda735ae25cddb3e586ea210ac3e8125239dd5f895227b7bf3", checked := Tryz.checked }
namespace Rows
def none {H : Type} : Left H := { results := [], args := [] }

/-- 'tesseractlaw21.RaftOwns': WHATEVER THE INPUT: true; the input reads as it did. -/
def raftOwnsSpec : ChangeSpec := { name := "raftOwns", fn := fun _ => fun
  | [d1, d2, d3, d4] => { results := [.lit (.bool true)], args := [d1, d2, d3, d4] }
  | _ => none }
def raftOwnsRow : OpenClaim := { program := "ytjcninheccmpoaagreat", sum := "3a7885f63b60b0bda735ae25cddb3e586ea210ac3e8125239dd5f895227b7bf3", func := "tesseract/tesseractlaw21.RaftOwns", spec := "raftOwns", inPlace := ["internal/abi.NoEscape", "internal/bytealg.MakeNoZero"], unfollowed := true, recurses := true, apart := false }
def RaftOwnsSaid : Prop := raftOwnsRow.holds Tryz.pinned (OpenSpec.ofChange raftOwnsSpec)

/-- ITS FALSE NEIGHBOUR: 'it returns false'. Refute it at one input. -/
def raftOwnsWrong : ChangeSpec := { name := "raftOwns", fn := fun _ => fun
  | [d1, d2, d3, d4] => { results := [.lit (.bool false)], args := [d1, d2, d3, d4] }
  | _ => none }
def RaftOwnsWrongFalsely : Prop := raftOwnsRow.holds Tryz.pinned (OpenSpec.ofChange raftOwnsWrong)

/-- 'tesseractlaw21.RaftPlays': WHATEVER THE INPUT: true; the input reads as it did. -/
def raftPlaysSpec : ChangeSpec := { name := "raftPlays", fn := fun _ => fun
  | [d1, d2, d3, d4] => { results := [.lit (.bool true)], args := [d1, d2, d3, d4] }
  | _ => none }
def raftPlaysRow : OpenClaim := { program := "ytjcninheccmpoaagreat", sum := "3a7885f63b60b0bda735ae25cddb3e586ea210ac3e8125239dd5f895227b7bf3", func := "tesseract/tesseractlaw21.RaftPlays", spec := "raftPlays", inPlace := ["internal/abi.NoEscape", "internal/bytealg.MakeNoZero"], unfollowed := true, recurses := true, apart := false }
def RaftPlaysSaid : Prop := raftPlaysRow.holds Tryz.pinned (OpenSpec.ofChange raftPlaysSpec)

/-- ITS FALSE NEIGHBOUR: 'it returns false'. Refute it at one input. -/
def raftPlaysWrong : ChangeSpec := { name := "raftPlays", fn := fun _ => fun
  | [d1, d2, d3, d4] => { results := [.lit (.bool false)], args := [d1, d2, d3, d4] }
  | _ => none }
def RaftPlaysWrongFalsely : Prop := raftPlaysRow.holds Tryz.pinned (OpenSpec.ofChange raftPlaysWrong)

/-- 'tesseractlaw21.RaftOne': WHATEVER THE INPUT: true; the input reads as it did. -/
def raftOneSpec : ChangeSpec := { name := "raftOne", fn := fun _ => fun
  | [d1, d2] => { results := [.lit (.bool true)], args := [d1, d2] }
  | _ => none }
def raftOneRow : OpenClaim := { program := "ytjcninheccmpoaagreat", sum := "3a7885f63b60b0bda735ae25cddb3e586ea210ac3e8125239dd5f895227b7bf3", func := "tesseract/tesseractlaw21.RaftOne", spec := "raftOne", inPlace := ["internal/abi.NoEscape", "internal/bytealg.MakeNoZero"], unfollowed := true, recurses := true, apart := false }
def RaftOneSaid : Prop := raftOneRow.holds Tryz.pinned (OpenSpec.ofChange raftOneSpec)

/-- ITS FALSE NEIGHBOUR: 'it returns false'. Refute it at one input. -/
def raftOneWrong : ChangeSpec := { name := "raftOne", fn := fun _ => fun
  | [d1, d2] => { results := [.lit (.bool false)], args := [d1, d2] }
  | _ => none }
def RaftOneWrongFalsely : Prop := raftOneRow.holds Tryz.pinned (OpenSpec.ofChange raftOneWrong)

/-- 'tesseractlaw21.RaftSame': WHATEVER THE INPUT: true; the input reads as it did. -/
def raftSameSpec : ChangeSpec := { name := "raftSame", fn := fun _ => fun
  | [d1, d2] => { results := [.lit (.bool true)], args := [d1, d2] }
  | _ => none }
def raftSameRow : OpenClaim := { program := "ytjcninheccmpoaagreat", sum := "3a7885f63b60b0bda735ae25cddb3e586ea210ac3e8125239dd5f895227b7bf3", func := "tesseract/tesseractlaw21.RaftSame", spec := "raftSame", inPlace := ["internal/abi.NoEscape", "internal/bytealg.MakeNoZero"], unfollowed := true, recurses := true, apart := false }
def RaftSameSaid : Prop := raftSameRow.holds Tryz.pinned (OpenSpec.ofChange raftSameSpec)

/-- ITS FALSE NEIGHBOUR: 'it returns false'. Refute it at one input. -/
def raftSameWrong : ChangeSpec := { name := "raftSame", fn := fun _ => fun
  | [d1, d2] => { results := [.lit (.bool false)], args := [d1, d2] }
  | _ => none }
def RaftSameWrongFalsely : Prop := raftSameRow.holds Tryz.pinned (OpenSpec.ofChange raftSameWrong)

/-- 'tesseractlaw21.RaftKept': WHATEVER THE INPUT: true; the input reads as it did. -/
def raftKeptSpec : ChangeSpec := { name := "raftKept", fn := fun _ => fun
  | [d1, d2] => { results := [.lit (.bool true)], args := [d1, d2] }
  | _ => none }
def raftKeptRow : OpenClaim := { program := "ytjcninheccmpoaagreat", sum := "3a7885f63b60b0bda735ae25cddb3e586ea210ac3e8125239dd5f895227b7bf3", func := "tesseract/tesseractlaw21.RaftKept", spec := "raftKept", inPlace := ["internal/abi.NoEscape", "internal/bytealg.MakeNoZero"], unfollowed := true, recurses := true, apart := false }
def RaftKeptSaid : Prop := raftKeptRow.holds Tryz.pinned (OpenSpec.ofChange raftKeptSpec)

/-- ITS FALSE NEIGHBOUR: 'it returns false'. Refute it at one input. -/
def raftKeptWrong : ChangeSpec := { name := "raftKept", fn := fun _ => fun
  | [d1, d2] => { results := [.lit (.bool false)], args := [d1, d2] }
  | _ => none }
def RaftKeptWrongFalsely : Prop := raftKeptRow.holds Tryz.pinned (OpenSpec.ofChange raftKeptWrong)

/-- 'tesseractlaw21.RaftReads': WHATEVER THE INPUT: true; the input reads as it did. -/
def raftReadsSpec : ChangeSpec := { name := "raftReads", fn := fun _ => fun
  | [d1, d2] => { results := [.lit (.bool true)], args := [d1, d2] }
  | _ => none }
def raftReadsRow : OpenClaim := { program := "ytjcninheccmpoaagreat", sum := "3a7885f63b60b0bda735ae25cddb3e586ea210ac3e8125239dd5f895227b7bf3", func := "tesseract/tesseractlaw21.RaftReads", spec := "raftReads", inPlace := ["internal/abi.NoEscape", "internal/bytealg.MakeNoZero"], unfollowed := true, recurses := true, apart := false }
def RaftReadsSaid : Prop := raftReadsRow.holds Tryz.pinned (OpenSpec.ofChange raftReadsSpec)

/-- ITS FALSE NEIGHBOUR: 'it returns false'. Refute it at one input. -/
def raftReadsWrong : ChangeSpec := { name := "raftReads", fn := fun _ => fun
  | [d1, d2] => { results := [.lit (.bool false)], args := [d1, d2] }
  | _ => none }
def RaftReadsWrongFalsely : Prop := raftReadsRow.holds Tryz.pinned (OpenSpec.ofChange raftReadsWrong)

/-- 'tesseractlaw21.RaftCalm': WHATEVER THE INPUT: true; the input reads as it did. -/
def raftCalmSpec : ChangeSpec := { name := "raftCalm", fn := fun _ => fun
  | [d1, d2] => { results := [.lit (.bool true)], args := [d1, d2] }
  | _ => none }
def raftCalmRow : OpenClaim := { program := "ytjcninheccmpoaagreat", sum := "3a7885f63b60b0bda735ae25cddb3e586ea210ac3e8125239dd5f895227b7bf3", func := "tesseract/tesseractlaw21.RaftCalm", spec := "raftCalm", inPlace := ["internal/abi.NoEscape", "internal/bytealg.MakeNoZero"], unfollowed := true, recurses := true, apart := false }
def RaftCalmSaid : Prop := raftCalmRow.holds Tryz.pinned (OpenSpec.ofChange raftCalmSpec)

/-- ITS FALSE NEIGHBOUR: 'it returns false'. Refute it at one input. -/
def raftCalmWrong : ChangeSpec := { name := "raftCalm", fn := fun _ => fun
  | [d1, d2] => { results := [.lit (.bool false)], args := [d1, d2] }
  | _ => none }
def RaftCalmWrongFalsely : Prop := raftCalmRow.holds Tryz.pinned (OpenSpec.ofChange raftCalmWrong)

/-- 'tesseractlaw21.RaftQuiet': WHATEVER THE INPUT: true; the input reads as it did. -/
def raftQuietSpec : ChangeSpec := { name := "raftQuiet", fn := fun _ => fun
  | [d1, d2, d3, d4] => { results := [.lit (.bool true)], args := [d1, d2, d3, d4] }
  | _ => none }
def raftQuietRow : OpenClaim := { program := "ytjcninheccmpoaagreat", sum := "3a7885f63b60b0bda735ae25cddb3e586ea210ac3e8125239dd5f895227b7bf3", func := "tesseract/tesseractlaw21.RaftQuiet", spec := "raftQuiet", inPlace := ["internal/abi.NoEscape", "internal/bytealg.MakeNoZero"], unfollowed := true, recurses := true, apart := false }
def RaftQuietSaid : Prop := raftQuietRow.holds Tryz.pinned (OpenSpec.ofChange raftQuietSpec)

/-- ITS FALSE NEIGHBOUR: 'it returns false'. Refute it at one input. -/
def raftQuietWrong : ChangeSpec := { name := "raftQuiet", fn := fun _ => fun
  | [d1, d2, d3, d4] => { results := [.lit (.bool false)], args := [d1, d2, d3, d4] }
  | _ => none }
def RaftQuietWrongFalsely : Prop := raftQuietRow.holds Tryz.pinned (OpenSpec.ofChange raftQuietWrong)

/-- 'tesseractlaw21.RaftLags': WHATEVER THE INPUT: true; the input reads as it did. -/
def raftLagsSpec : ChangeSpec := { name := "raftLags", fn := fun _ => fun
  | [d1, d2, d3, d4] => { results := [.lit (.bool true)], args := [d1, d2, d3, d4] }
  | _ => none }
def raftLagsRow : OpenClaim := { program := "ytjcninheccmpoaagreat", sum := "3a7885f63b60b0bda735ae25cddb3e586ea210ac3e8125239dd5f895227b7bf3", func := "tesseract/tesseractlaw21.RaftLags", spec := "raftLags", inPlace := ["internal/abi.NoEscape", "internal/bytealg.MakeNoZero"], unfollowed := true, recurses := true, apart := false }
def RaftLagsSaid : Prop := raftLagsRow.holds Tryz.pinned (OpenSpec.ofChange raftLagsSpec)

/-- ITS FALSE NEIGHBOUR: 'it returns false'. Refute it at one input. -/
def raftLagsWrong : ChangeSpec := { name := "raftLags", fn := fun _ => fun
  | [d1, d2, d3, d4] => { results := [.lit (.bool false)], args := [d1, d2, d3, d4] }
  | _ => none }
def RaftLagsWrongFalsely : Prop := raftLagsRow.holds Tryz.pinned (OpenSpec.ofChange raftLagsWrong)

/- THE SECOND FORM. 'bulk': how many values and letters a reading holds, each counted each time it is reached (what is shared counts as often as it is met; a slice's spare places count too). A statement '..UptoSaid' is the law's where the arguments, and the package variables that the reading takes, are together of bulk at most 1048576: NARROWER than '..Said'. Prove '..Said' where nothing that the law and all that it calls make is longer than what came in: it says more and counts as full. Else prove '..UptoSaid'. A law counts once. -/
mutual
def uptoBulk {H : Type} : DataW H → Nat
  | .lit (.string bytes) => bytes.length + 1
  | .lit _ => 1
  | .nil => 1
  | .ptr d => uptoBulk d + 1
  | .slice elems spare => uptoBulkAll elems + uptoBulkAll spare + 1
  | .agg parts => uptoBulkAll parts + 1
  | .iface _ d => uptoBulk d + 1
  | .map entries => uptoBulkEntries entries + 1
  | .held _ => 1
def uptoBulkAll {H : Type} : List (DataW H) → Nat
  | [] => 0
  | d :: r => uptoBulk d + uptoBulkAll r
def uptoBulkEntries {H : Type} : List (Lit × DataW H) → Nat
  | [] => 0
  | x :: r => uptoBulkEntry x + uptoBulkEntries r
def uptoBulkEntry {H : Type} : Lit × DataW H → Nat
  | (.string bytes, d) => bytes.length + uptoBulk d + 1
  | (_, d) => uptoBulk d + 1
 end
def uptoSmall : (H : Type) → List (DataW H) → Bool := fun _ ds => decide (uptoBulkAll ds ≤ 1048576)
def OpenSpec.upto (s : _root_.Go.ChangeSpec) : _root_.Go.OpenSpec := { _root_.Go.OpenSpec.ofChange s with cond := some uptoSmall }

/-- 'tesseractlaw21.RaftOwns', WHERE WHAT IT READS IS OF BULK AT MOST 1048576: true; the input reads as it did. -/
def raftOwnsUptoRow : OpenClaim := { program := "ytjcninheccmpoaagreat", sum := "3a7885f63b60b0bda735ae25cddb3e586ea210ac3e8125239dd5f895227b7bf3", func := "tesseract/tesseractlaw21.RaftOwns", spec := "raftOwns", inPlace := ["internal/abi.NoEscape", "internal/bytealg.MakeNoZero"], unfollowed := true, recurses := true, apart := false, narrowed := true }
def RaftOwnsUptoSaid : Prop := raftOwnsUptoRow.holds Tryz.pinned (OpenSpec.upto raftOwnsSpec)

/-- 'tesseractlaw21.RaftPlays', WHERE WHAT IT READS IS OF BULK AT MOST 1048576: true; the input reads as it did. -/
def raftPlaysUptoRow : OpenClaim := { program := "ytjcninheccmpoaagreat", sum := "3a7885f63b60b0bda735ae25cddb3e586ea210ac3e8125239dd5f895227b7bf3", func := "tesseract/tesseractlaw21.RaftPlays", spec := "raftPlays", inPlace := ["internal/abi.NoEscape", "internal/bytealg.MakeNoZero"], unfollowed := true, recurses := true, apart := false, narrowed := true }
def RaftPlaysUptoSaid : Prop := raftPlaysUptoRow.holds Tryz.pinned (OpenSpec.upto raftPlaysSpec)

/-- 'tesseractlaw21.RaftOne', WHERE WHAT IT READS IS OF BULK AT MOST 1048576: true; the input reads as it did. -/
def raftOneUptoRow : OpenClaim := { program := "ytjcninheccmpoaagreat", sum := "3a7885f63b60b0bda735ae25cddb3e586ea210ac3e8125239dd5f895227b7bf3", func := "tesseract/tesseractlaw21.RaftOne", spec := "raftOne", inPlace := ["internal/abi.NoEscape", "internal/bytealg.MakeNoZero"], unfollowed := true, recurses := true, apart := false, narrowed := true }
def RaftOneUptoSaid : Prop := raftOneUptoRow.holds Tryz.pinned (OpenSpec.upto raftOneSpec)

/-- 'tesseractlaw21.RaftSame', WHERE WHAT IT READS IS OF BULK AT MOST 1048576: true; the input reads as it did. -/
def raftSameUptoRow : OpenClaim := { program := "ytjcninheccmpoaagreat", sum := "3a7885f63b60b0bda735ae25cddb3e586ea210ac3e8125239dd5f895227b7bf3", func := "tesseract/tesseractlaw21.RaftSame", spec := "raftSame", inPlace := ["internal/abi.NoEscape", "internal/bytealg.MakeNoZero"], unfollowed := true, recurses := true, apart := false, narrowed := true }
def RaftSameUptoSaid : Prop := raftSameUptoRow.holds Tryz.pinned (OpenSpec.upto raftSameSpec)

/-- 'tesseractlaw21.RaftKept', WHERE WHAT IT READS IS OF BULK AT MOST 1048576: true; the input reads as it did. -/
def raftKeptUptoRow : OpenClaim := { program := "ytjcninheccmpoaagreat", sum := "3a7885f63b60b0bda735ae25cddb3e586ea210ac3e8125239dd5f895227b7bf3", func := "tesseract/tesseractlaw21.RaftKept", spec := "raftKept", inPlace := ["internal/abi.NoEscape", "internal/bytealg.MakeNoZero"], unfollowed := true, recurses := true, apart := false, narrowed := true }
def RaftKeptUptoSaid : Prop := raftKeptUptoRow.holds Tryz.pinned (OpenSpec.upto raftKeptSpec)

/-- 'tesseractlaw21.RaftReads', WHERE WHAT IT READS IS OF BULK AT MOST 1048576: true; the input reads as it did. -/
def raftReadsUptoRow : OpenClaim := { program := "ytjcninheccmpoaagreat", sum := "3a7885f63b60b0bda735ae25cddb3e586ea210ac3e8125239dd5f895227b7bf3", func := "tesseract/tesseractlaw21.RaftReads", spec := "raftReads", inPlace := ["internal/abi.NoEscape", "internal/bytealg.MakeNoZero"], unfollowed := true, recurses := true, apart := false, narrowed := true }
def RaftReadsUptoSaid : Prop := raftReadsUptoRow.holds Tryz.pinned (OpenSpec.upto raftReadsSpec)

/-- 'tesseractlaw21.RaftCalm', WHERE WHAT IT READS IS OF BULK AT MOST 1048576: true; the input reads as it did. -/
def raftCalmUptoRow : OpenClaim := { program := "ytjcninheccmpoaagreat", sum := "3a7885f63b60b0bda735ae25cddb3e586ea210ac3e8125239dd5f895227b7bf3", func := "tesseract/tesseractlaw21.RaftCalm", spec := "raftCalm", inPlace := ["internal/abi.NoEscape", "internal/bytealg.MakeNoZero"], unfollowed := true, recurses := true, apart := false, narrowed := true }
def RaftCalmUptoSaid : Prop := raftCalmUptoRow.holds Tryz.pinned (OpenSpec.upto raftCalmSpec)

/-- 'tesseractlaw21.RaftQuiet', WHERE WHAT IT READS IS OF BULK AT MOST 1048576: true; the input reads as it did. -/
def raftQuietUptoRow : OpenClaim := { program := "ytjcninheccmpoaagreat", sum := "3a7885f63b60b0bda735ae25cddb3e586ea210ac3e8125239dd5f895227b7bf3", func := "tesseract/tesseractlaw21.RaftQuiet", spec := "raftQuiet", inPlace := ["internal/abi.NoEscape", "internal/bytealg.MakeNoZero"], unfollowed := true, recurses := true, apart := false, narrowed := true }
def RaftQuietUptoSaid : Prop := raftQuietUptoRow.holds Tryz.pinned (OpenSpec.upto raftQuietSpec)

/-- 'tesseractlaw21.RaftLags', WHERE WHAT IT READS IS OF BULK AT MOST 1048576: true; the input reads as it did. -/
def raftLagsUptoRow : OpenClaim := { program := "ytjcninheccmpoaagreat", sum := "3a7885f63b60b0bda735ae25cddb3e586ea210ac3e8125239dd5f895227b7bf3", func := "tesseract/tesseractlaw21.RaftLags", spec := "raftLags", inPlace := ["internal/abi.NoEscape", "internal/bytealg.MakeNoZero"], unfollowed := true, recurses := true, apart := false, narrowed := true }
def RaftLagsUptoSaid : Prop := raftLagsUptoRow.holds Tryz.pinned (OpenSpec.upto raftLagsSpec)

end Rows
end Go.Proofs.YtjcninheccmpoaaGreat
