/-
  No cell of these rows narrows 'for every input' (looked for: loops, veiled, ifaces, maps, wideKeys, modest, calm, conditions, laid).
  DERIVED. THE GIVEN ROWS OF THIS SEAT. 12 by the template 'for every input the law returns true; each argument reads behind the call as it read before'; 0 by the template 'total and deterministic' (their statements: YtfhfpcihbclanaaTotals.lean).
  GIVEN WITH THE SEED: the statements are not yours to turn. If you find one false, say at which input.
  Laid BY PROGRAM, IN A SANDBOX (cutbox-rows.mjs): the forced cells as the released guide's own fill.sh prints them over the translation 0e2f3b4c6dd42a29… (all of the seat's roots in one cut). By AI agents, Wed Nov 11 2026. No macro, syntax, notation, axiom, sorry.
-/
import Derived.Test.YtfhfpcihbclanaaChecked
import GoSem.Claim
import GoSem.ClaimJoined
import GoSem.ClaimMapViews
import Derived.JoinedTies
import Derived.KernelRfl
namespace Go.Proofs.Ytfhfpcihbclanaa
/- THE CELL 'sum', in the pinned program and in every row, IS THE sha256 OF THE DUMP (.gsa) THAT YtfhfpcihbclanaaProg.lean LOADS. Nothing in Lean hashes anything: it is a label: what it is worth is what the hold of that sum in a sandbox is worth. -/
noncomputable def Try.pinned : Pinned := { name := "ytfhfpcihbclanaa", sum := "0e2f3b4c6dd42a29fd6341a1d4712d662ed4ddf4604850f19ee9e769a67484e3", checked := Try.checked }
namespace Rows
def none {H : Type} : Left H := { results := [], args := [] }

/-- 'tesseractlaw01.CrcSums': WHATEVER THE INPUT: true; the input reads as it did. -/
def crcSumsSpec : ChangeSpec := { name := "crcSums", fn := fun _ => fun
  | [d1, d2] => { results := [.lit (.bool true)], args := [d1, d2] }
  | _ => none }
def crcSumsRow : OpenClaim := { program := "ytfhfpcihbclanaa", sum := "0e2f3b4c6dd42a29fd6341a1d4712d662ed4ddf4604850f19ee9e769a67484e3", func := "tesseract/tesseractlaw01.CrcSums", spec := "crcSums", apart := false }
def CrcSumsSaid : Prop := crcSumsRow.holds Try.pinned (OpenSpec.ofChange crcSumsSpec)

/-- ITS FALSE NEIGHBOUR: 'it returns false'. Refute it at one input. -/
def crcSumsWrong : ChangeSpec := { name := "crcSums", fn := fun _ => fun
  | [d1, d2] => { results := [.lit (.bool false)], args := [d1, d2] }
  | _ => none }
def CrcSumsWrongFalsely : Prop := crcSumsRow.holds Try.pinned (OpenSpec.ofChange crcSumsWrong)

/-- 'tesseractlaw01.CrcMore': WHATEVER THE INPUT: true; the input reads as it did. -/
def crcMoreSpec : ChangeSpec := { name := "crcMore", fn := fun _ => fun
  | [d1, d2] => { results := [.lit (.bool true)], args := [d1, d2] }
  | _ => none }
def crcMoreRow : OpenClaim := { program := "ytfhfpcihbclanaa", sum := "0e2f3b4c6dd42a29fd6341a1d4712d662ed4ddf4604850f19ee9e769a67484e3", func := "tesseract/tesseractlaw01.CrcMore", spec := "crcMore", apart := false }
def CrcMoreSaid : Prop := crcMoreRow.holds Try.pinned (OpenSpec.ofChange crcMoreSpec)

/-- ITS FALSE NEIGHBOUR: 'it returns false'. Refute it at one input. -/
def crcMoreWrong : ChangeSpec := { name := "crcMore", fn := fun _ => fun
  | [d1, d2] => { results := [.lit (.bool false)], args := [d1, d2] }
  | _ => none }
def CrcMoreWrongFalsely : Prop := crcMoreRow.holds Try.pinned (OpenSpec.ofChange crcMoreWrong)

/-- 'tesseractlaw01.CrcWhole': WHATEVER THE INPUT: true; the input reads as it did. -/
def crcWholeSpec : ChangeSpec := { name := "crcWhole", fn := fun _ => fun
  | [d] => { results := [.lit (.bool true)], args := [d] }
  | _ => none }
def crcWholeRow : OpenClaim := { program := "ytfhfpcihbclanaa", sum := "0e2f3b4c6dd42a29fd6341a1d4712d662ed4ddf4604850f19ee9e769a67484e3", func := "tesseract/tesseractlaw01.CrcWhole", spec := "crcWhole", apart := false }
def CrcWholeSaid : Prop := crcWholeRow.holds Try.pinned (OpenSpec.ofChange crcWholeSpec)

/-- ITS FALSE NEIGHBOUR: 'it returns false'. Refute it at one input. -/
def crcWholeWrong : ChangeSpec := { name := "crcWhole", fn := fun _ => fun
  | [d] => { results := [.lit (.bool false)], args := [d] }
  | _ => none }
def CrcWholeWrongFalsely : Prop := crcWholeRow.holds Try.pinned (OpenSpec.ofChange crcWholeWrong)

/-- 'tesseractlaw01.CrcBursts': WHATEVER THE INPUT: true; the input reads as it did. -/
def crcBurstsSpec : ChangeSpec := { name := "crcBursts", fn := fun _ => fun
  | [d1, d2, d3] => { results := [.lit (.bool true)], args := [d1, d2, d3] }
  | _ => none }
def crcBurstsRow : OpenClaim := { program := "ytfhfpcihbclanaa", sum := "0e2f3b4c6dd42a29fd6341a1d4712d662ed4ddf4604850f19ee9e769a67484e3", func := "tesseract/tesseractlaw01.CrcBursts", spec := "crcBursts", apart := false }
def CrcBurstsSaid : Prop := crcBurstsRow.holds Try.pinned (OpenSpec.ofChange crcBurstsSpec)

/-- ITS FALSE NEIGHBOUR: 'it returns false'. Refute it at one input. -/
def crcBurstsWrong : ChangeSpec := { name := "crcBursts", fn := fun _ => fun
  | [d1, d2, d3] => { results := [.lit (.bool false)], args := [d1, d2, d3] }
  | _ => none }
def CrcBurstsWrongFalsely : Prop := crcBurstsRow.holds Try.pinned (OpenSpec.ofChange crcBurstsWrong)

/-- 'tesseractlaw01.CrcThree': WHATEVER THE INPUT: true; the input reads as it did. -/
def crcThreeSpec : ChangeSpec := { name := "crcThree", fn := fun _ => fun
  | [d1, d2, d3] => { results := [.lit (.bool true)], args := [d1, d2, d3] }
  | _ => none }
def crcThreeRow : OpenClaim := { program := "ytfhfpcihbclanaa", sum := "0e2f3b4c6dd42a29fd6341a1d4712d662ed4ddf4604850f19ee9e769a67484e3", func := "tesseract/tesseractlaw01.CrcThree", spec := "crcThree", apart := false }
def CrcThreeSaid : Prop := crcThreeRow.holds Try.pinned (OpenSpec.ofChange crcThreeSpec)

/-- ITS FALSE NEIGHBOUR: 'it returns false'. Refute it at one input. -/
def crcThreeWrong : ChangeSpec := { name := "crcThree", fn := fun _ => fun
  | [d1, d2, d3] => { results := [.lit (.bool false)], args := [d1, d2, d3] }
  | _ => none }
def CrcThreeWrongFalsely : Prop := crcThreeRow.holds Try.pinned (OpenSpec.ofChange crcThreeWrong)

/-- 'tesseractlaw01.CrcStays': WHATEVER THE INPUT: true; the input reads as it did. -/
def crcStaysSpec : ChangeSpec := { name := "crcStays", fn := fun _ => fun
  | [d1, d2] => { results := [.lit (.bool true)], args := [d1, d2] }
  | _ => none }
def crcStaysRow : OpenClaim := { program := "ytfhfpcihbclanaa", sum := "0e2f3b4c6dd42a29fd6341a1d4712d662ed4ddf4604850f19ee9e769a67484e3", func := "tesseract/tesseractlaw01.CrcStays", spec := "crcStays", apart := false }
def CrcStaysSaid : Prop := crcStaysRow.holds Try.pinned (OpenSpec.ofChange crcStaysSpec)

/-- ITS FALSE NEIGHBOUR: 'it returns false'. Refute it at one input. -/
def crcStaysWrong : ChangeSpec := { name := "crcStays", fn := fun _ => fun
  | [d1, d2] => { results := [.lit (.bool false)], args := [d1, d2] }
  | _ => none }
def CrcStaysWrongFalsely : Prop := crcStaysRow.holds Try.pinned (OpenSpec.ofChange crcStaysWrong)

/-- 'tesseractlaw03.FramePuts': WHATEVER THE INPUT: true; the input reads as it did. -/
def framePutsSpec : ChangeSpec := { name := "framePuts", fn := fun _ => fun
  | [d1, d2, d3] => { results := [.lit (.bool true)], args := [d1, d2, d3] }
  | _ => none }
def framePutsRow : OpenClaim := { program := "ytfhfpcihbclanaa", sum := "0e2f3b4c6dd42a29fd6341a1d4712d662ed4ddf4604850f19ee9e769a67484e3", func := "tesseract/tesseractlaw03.FramePuts", spec := "framePuts", apart := false }
def FramePutsSaid : Prop := framePutsRow.holds Try.pinned (OpenSpec.ofChange framePutsSpec)

/-- ITS FALSE NEIGHBOUR: 'it returns false'. Refute it at one input. -/
def framePutsWrong : ChangeSpec := { name := "framePuts", fn := fun _ => fun
  | [d1, d2, d3] => { results := [.lit (.bool false)], args := [d1, d2, d3] }
  | _ => none }
def FramePutsWrongFalsely : Prop := framePutsRow.holds Try.pinned (OpenSpec.ofChange framePutsWrong)

/-- 'tesseractlaw03.FrameScans': WHATEVER THE INPUT: true; the input reads as it did. -/
def frameScansSpec : ChangeSpec := { name := "frameScans", fn := fun _ => fun
  | [d] => { results := [.lit (.bool true)], args := [d] }
  | _ => none }
def frameScansRow : OpenClaim := { program := "ytfhfpcihbclanaa", sum := "0e2f3b4c6dd42a29fd6341a1d4712d662ed4ddf4604850f19ee9e769a67484e3", func := "tesseract/tesseractlaw03.FrameScans", spec := "frameScans", apart := false }
def FrameScansSaid : Prop := frameScansRow.holds Try.pinned (OpenSpec.ofChange frameScansSpec)

/-- ITS FALSE NEIGHBOUR: 'it returns false'. Refute it at one input. -/
def frameScansWrong : ChangeSpec := { name := "frameScans", fn := fun _ => fun
  | [d] => { results := [.lit (.bool false)], args := [d] }
  | _ => none }
def FrameScansWrongFalsely : Prop := frameScansRow.holds Try.pinned (OpenSpec.ofChange frameScansWrong)

/-- 'tesseractlaw03.FrameRound': WHATEVER THE INPUT: true; the input reads as it did. -/
def frameRoundSpec : ChangeSpec := { name := "frameRound", fn := fun _ => fun
  | [d] => { results := [.lit (.bool true)], args := [d] }
  | _ => none }
def frameRoundRow : OpenClaim := { program := "ytfhfpcihbclanaa", sum := "0e2f3b4c6dd42a29fd6341a1d4712d662ed4ddf4604850f19ee9e769a67484e3", func := "tesseract/tesseractlaw03.FrameRound", spec := "frameRound", apart := false }
def FrameRoundSaid : Prop := frameRoundRow.holds Try.pinned (OpenSpec.ofChange frameRoundSpec)

/-- ITS FALSE NEIGHBOUR: 'it returns false'. Refute it at one input. -/
def frameRoundWrong : ChangeSpec := { name := "frameRound", fn := fun _ => fun
  | [d] => { results := [.lit (.bool false)], args := [d] }
  | _ => none }
def FrameRoundWrongFalsely : Prop := frameRoundRow.holds Try.pinned (OpenSpec.ofChange frameRoundWrong)

/-- 'tesseractlaw03.FrameTorn': WHATEVER THE INPUT: true; the input reads as it did. -/
def frameTornSpec : ChangeSpec := { name := "frameTorn", fn := fun _ => fun
  | [d1, d2] => { results := [.lit (.bool true)], args := [d1, d2] }
  | _ => none }
def frameTornRow : OpenClaim := { program := "ytfhfpcihbclanaa", sum := "0e2f3b4c6dd42a29fd6341a1d4712d662ed4ddf4604850f19ee9e769a67484e3", func := "tesseract/tesseractlaw03.FrameTorn", spec := "frameTorn", apart := false }
def FrameTornSaid : Prop := frameTornRow.holds Try.pinned (OpenSpec.ofChange frameTornSpec)

/-- ITS FALSE NEIGHBOUR: 'it returns false'. Refute it at one input. -/
def frameTornWrong : ChangeSpec := { name := "frameTorn", fn := fun _ => fun
  | [d1, d2] => { results := [.lit (.bool false)], args := [d1, d2] }
  | _ => none }
def FrameTornWrongFalsely : Prop := frameTornRow.holds Try.pinned (OpenSpec.ofChange frameTornWrong)

/-- 'tesseractlaw03.FrameTells': WHATEVER THE INPUT: true; the input reads as it did. -/
def frameTellsSpec : ChangeSpec := { name := "frameTells", fn := fun _ => fun
  | [d1, d2, d3, d4] => { results := [.lit (.bool true)], args := [d1, d2, d3, d4] }
  | _ => none }
def frameTellsRow : OpenClaim := { program := "ytfhfpcihbclanaa", sum := "0e2f3b4c6dd42a29fd6341a1d4712d662ed4ddf4604850f19ee9e769a67484e3", func := "tesseract/tesseractlaw03.FrameTells", spec := "frameTells", apart := false }
def FrameTellsSaid : Prop := frameTellsRow.holds Try.pinned (OpenSpec.ofChange frameTellsSpec)

/-- ITS FALSE NEIGHBOUR: 'it returns false'. Refute it at one input. -/
def frameTellsWrong : ChangeSpec := { name := "frameTells", fn := fun _ => fun
  | [d1, d2, d3, d4] => { results := [.lit (.bool false)], args := [d1, d2, d3, d4] }
  | _ => none }
def FrameTellsWrongFalsely : Prop := frameTellsRow.holds Try.pinned (OpenSpec.ofChange frameTellsWrong)

/-- 'tesseractlaw03.FrameOwns': WHATEVER THE INPUT: true; the input reads as it did. -/
def frameOwnsSpec : ChangeSpec := { name := "frameOwns", fn := fun _ => fun
  | [d1, d2] => { results := [.lit (.bool true)], args := [d1, d2] }
  | _ => none }
def frameOwnsRow : OpenClaim := { program := "ytfhfpcihbclanaa", sum := "0e2f3b4c6dd42a29fd6341a1d4712d662ed4ddf4604850f19ee9e769a67484e3", func := "tesseract/tesseractlaw03.FrameOwns", spec := "frameOwns", apart := false }
def FrameOwnsSaid : Prop := frameOwnsRow.holds Try.pinned (OpenSpec.ofChange frameOwnsSpec)

/-- ITS FALSE NEIGHBOUR: 'it returns false'. Refute it at one input. -/
def frameOwnsWrong : ChangeSpec := { name := "frameOwns", fn := fun _ => fun
  | [d1, d2] => { results := [.lit (.bool false)], args := [d1, d2] }
  | _ => none }
def FrameOwnsWrongFalsely : Prop := frameOwnsRow.holds Try.pinned (OpenSpec.ofChange frameOwnsWrong)

/- THE SECOND FORM. 'bulk': how many values and letters a reading holds, each counted each time it is reached (what is shared counts as often as it is met; a slice's spare places count too). A statement '..UptoSaid' is the law's where the arguments, and the package variables that the reading takes, are together of bulk at most 1048576: NARROWER than '..Said'. Prove '..Said' where nothing that the law and all that it calls make is longer than what came in: it says more and counts as full. Else prove '..UptoSaid'. A law counts once. -/
mutual
def uptoBulk {H : Type} : DataW H → Nat
  | .lit (.string bytes) => bytes.length + 1
  | .lit _ => 1
  | .nil => 1
  | .ptr d => uptoBulk d + 1
  | .slice elems spare => uptoBulkAll elems + uptoBulkAll spare + 1
  | .agg parts => uptoBulkAll parts + 1
  | .iface _ d => uptoBulk d + 1
  | .map entries => uptoBulkEntries entries + 1
  | .held _ => 1
def uptoBulkAll {H : Type} : List (DataW H) → Nat
  | [] => 0
  | d :: r => uptoBulk d + uptoBulkAll r
def uptoBulkEntries {H : Type} : List (Lit × DataW H) → Nat
  | [] => 0
  | x :: r => uptoBulkEntry x + uptoBulkEntries r
def uptoBulkEntry {H : Type} : Lit × DataW H → Nat
  | (.string bytes, d) => bytes.length + uptoBulk d + 1
  | (_, d) => uptoBulk d + 1
 end
def uptoSmall : (H : Type) → List (DataW H) → Bool := fun _ ds => decide (uptoBulkAll ds ≤ 1048576)
def OpenSpec.upto (s : _root_.Go.ChangeSpec) : _root_.Go.OpenSpec := { _root_.Go.OpenSpec.ofChange s with cond := some uptoSmall }

/-- 'tesseractlaw01.CrcSums', WHERE WHAT IT READS IS OF BULK AT MOST 1048576: true; the input reads as it did. -/
def crcSumsUptoRow : OpenClaim := { program := "ytfhfpcihbclanaa", sum := "0e2f3b4c6dd42a29fd6341a1d4712d662ed4ddf4604850f19ee9e769a67484e3", func := "tesseract/tesseractlaw01.CrcSums", spec := "crcSums", apart := false, narrowed := true }
def CrcSumsUptoSaid : Prop := crcSumsUptoRow.holds Try.pinned (OpenSpec.upto crcSumsSpec)

/-- 'tesseractlaw01.CrcMore', WHERE WHAT IT READS IS OF BULK AT MOST 1048576: true; the input reads as it did. -/
def crcMoreUptoRow : OpenClaim := { program := "ytfhfpcihbclanaa", sum := "0e2f3b4c6dd42a29fd6341a1d4712d662ed4ddf4604850f19ee9e769a67484e3", func := "tesseract/tesseractlaw01.CrcMore", spec := "crcMore", apart := false, narrowed := true }
def CrcMoreUptoSaid : Prop := crcMoreUptoRow.holds Try.pinned (OpenSpec.upto crcMoreSpec)

/-- 'tesseractlaw01.CrcWhole', WHERE WHAT IT READS IS OF BULK AT MOST 1048576: true; the input reads as it did. -/
def crcWholeUptoRow : OpenClaim := { program := "ytfhfpcihbclanaa", sum := "0e2f3b4c6dd42a29fd6341a1d4712d662ed4ddf4604850f19ee9e769a67484e3", func := "tesseract/tesseractlaw01.CrcWhole", spec := "crcWhole", apart := false, narrowed := true }
def CrcWholeUptoSaid : Prop := crcWholeUptoRow.holds Try.pinned (OpenSpec.upto crcWholeSpec)

/-- 'tesseractlaw01.CrcBursts', WHERE WHAT IT READS IS OF BULK AT MOST 1048576: true; the input reads as it did. -/
def crcBurstsUptoRow : OpenClaim := { program := "ytfhfpcihbclanaa", sum := "0e2f3b4c6dd42a29fd6341a1d4712d662ed4ddf4604850f19ee9e769a67484e3", func := "tesseract/tesseractlaw01.CrcBursts", spec := "crcBursts", apart := false, narrowed := true }
def CrcBurstsUptoSaid : Prop := crcBurstsUptoRow.holds Try.pinned (OpenSpec.upto crcBurstsSpec)

/-- 'tesseractlaw01.CrcThree', WHERE WHAT IT READS IS OF BULK AT MOST 1048576: true; the input reads as it did. -/
def crcThreeUptoRow : OpenClaim := { program := "ytfhfpcihbclanaa", sum := "0e2f3b4c6dd42a29fd6341a1d4712d662ed4ddf4604850f19ee9e769a67484e3", func := "tesseract/tesseractlaw01.CrcThree", spec := "crcThree", apart := false, narrowed := true }
def CrcThreeUptoSaid : Prop := crcThreeUptoRow.holds Try.pinned (OpenSpec.upto crcThreeSpec)

/-- 'tesseractlaw01.CrcStays', WHERE WHAT IT READS IS OF BULK AT MOST 1048576: true; the input reads as it did. -/
def crcStaysUptoRow : OpenClaim := { program := "ytfhfpcihbclanaa", sum := "0e2f3b4c6dd42a29fd6341a1d4712d662ed4ddf4604850f19ee9e769a67484e3", func := "tesseract/tesseractlaw01.CrcStays", spec := "crcStays", apart := false, narrowed := true }
def CrcStaysUptoSaid : Prop := crcStaysUptoRow.holds Try.pinned (OpenSpec.upto crcStaysSpec)

/-- 'tesseractlaw03.FramePuts', WHERE WHAT IT READS IS OF BULK AT MOST 1048576: true; the input reads as it did. -/
def framePutsUptoRow : OpenClaim := { program := "ytfhfpcihbclanaa", sum := "0e2f3b4c6dd42a29fd6341a1d4712d662ed4ddf4604850f19ee9e769a67484e3", func := "tesseract/tesseractlaw03.FramePuts", spec := "framePuts", apart := false, narrowed := true }
def FramePutsUptoSaid : Prop := framePutsUptoRow.holds Try.pinned (OpenSpec.upto framePutsSpec)

/-- 'tesseractlaw03.FrameScans', WHERE WHAT IT READS IS OF BULK AT MOST 1048576: true; the input reads as it did. -/
def frameScansUptoRow : OpenClaim := { program := "ytfhfpcihbclanaa", sum := "0e2f3b4c6dd42a29fd6341a1d4712d662ed4ddf4604850f19ee9e769a67484e3", func := "tesseract/tesseractlaw03.FrameScans", spec := "frameScans", apart := false, narrowed := true }
def FrameScansUptoSaid : Prop := frameScansUptoRow.holds Try.pinned (OpenSpec.upto frameScansSpec)

/-- 'tesseractlaw03.FrameRound', WHERE WHAT IT READS IS OF BULK AT MOST 1048576: true; the input reads as it did. -/
def frameRoundUptoRow : OpenClaim := { program := "ytfhfpcihbclanaa", sum := "0e2f3b4c6dd42a29fd6341a1d4712d662ed4ddf4604850f19ee9e769a67484e3", func := "tesseract/tesseractlaw03.FrameRound", spec := "frameRound", apart := false, narrowed := true }
def FrameRoundUptoSaid : Prop := frameRoundUptoRow.holds Try.pinned (OpenSpec.upto frameRoundSpec)

/-- 'tesseractlaw03.FrameTorn', WHERE WHAT IT READS IS OF BULK AT MOST 1048576: true; the input reads as it did. -/
def frameTornUptoRow : OpenClaim := { program := "ytfhfpcihbclanaa", sum := "0e2f3b4c6dd42a29fd6341a1d4712d662ed4ddf4604850f19ee9e769a67484e3", func := "tesseract/tesseractlaw03.FrameTorn", spec := "frameTorn", apart := false, narrowed := true }
def FrameTornUptoSaid : Prop := frameTornUptoRow.holds Try.pinned (OpenSpec.upto frameTornSpec)

/-- 'tesseractlaw03.FrameTells', WHERE WHAT IT READS IS OF BULK AT MOST 1048576: true; the input reads as it did. -/
def frameTellsUptoRow : OpenClaim := { program := "ytfhfpcihbclanaa", sum := "0e2f3b4c6dd42a29fd6341a1d4712d662ed4ddf4604850f19ee9e769a67484e3", func := "tesseract/tesseractlaw03.FrameTells", spec := "frameTells", apart := false, narrowed := true }
def FrameTellsUptoSaid : Prop := frameTellsUptoRow.holds Try.pinned (OpenSpec.upto frameTellsSpec)

/-- 'tesseractlaw03.FrameOwns', WHERE WHAT IT READS IS OF BULK AT MOST 1048576: true; the input reads as it did. -/
def frameOwnsUptoRow : OpenClaim := { program := "ytfhfpcihbclanaa", sum := "0e2f3b4c6dd42a29fd6341a1d4712d662ed4ddf4604850f19ee9e769a67484e3", func := "tesseract/tesseractlaw03.FrameOwns", spec := "frameOwns", apart := false, narrowed := true }
def FrameOwnsUptoSaid : Prop := frameOwnsUptoRow.holds Try.pinned (OpenSpec.upto frameOwnsSpec)

end Rows
end Go.Proofs.Ytfhfpcihbclanaa
