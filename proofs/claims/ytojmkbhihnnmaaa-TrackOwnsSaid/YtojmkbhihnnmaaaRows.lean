/-
  No cell of these rows narrows 'for every input' (looked for: loops, veiled, ifaces, maps, wideKeys, modest, calm, conditions, laid).
  DERIVED. THE GIVEN ROWS OF THIS SEAT. 12 by the template 'for every input the law returns true; each argument reads behind the call as it read before'; 0 by the template 'total and deterministic' (their statements: YtojmkbhihnnmaaaTotals.lean).
  GIVEN WITH THE SEED: the statements are not yours to turn. If you find one false, say at which input.
  Laid BY PROGRAM, IN A SANDBOX (cutbox-rows.mjs): the forced cells as the released guide's own fill.sh prints them over the translation 1797b52d952bb4b8… (all of the seat's roots in one cut). By AI agents, Wed Nov 11 2026. No macro, syntax, notation, axiom, sorry.
-/
import Derived.Test.YtojmkbhihnnmaaaChecked
import GoSem.Claim
import GoSem.ClaimJoined
import GoSem.ClaimMapViews
import Derived.JoinedTies
import Derived.KernelRfl
namespace Go.Proofs.Ytojmkbhihnnmaaa
/- THE CELL 'sum', in the pinned program and in every row, IS THE sha256 OF THE DUMP (.gsa) THAT YtojmkbhihnnmaaaProg.lean LOADS. Nothing in Lean hashes anything: it is a label: what it is worth is what the hold of that sum in a sandbox is worth. -/
noncomputable def Try.pinned : Pinned := { name := "ytojmkbhihnnmaaa", sum := "1797b52d952bb4b858d493f6b24431fc34fba631b53705201ece8bce13094de4", checked := Try.checked }
namespace Rows
def none {H : Type} : Left H := { results := [], args := [] }

/-- 'tesseractlaw08.SchemaMay': WHATEVER THE INPUT: true; the input reads as it did. -/
def schemaMaySpec : ChangeSpec := { name := "schemaMay", fn := fun _ => fun
  | [d] => { results := [.lit (.bool true)], args := [d] }
  | _ => none }
def schemaMayRow : OpenClaim := { program := "ytojmkbhihnnmaaa", sum := "1797b52d952bb4b858d493f6b24431fc34fba631b53705201ece8bce13094de4", func := "tesseract/tesseractlaw08.SchemaMay", spec := "schemaMay", unfollowed := true, recurses := true, apart := false }
def SchemaMaySaid : Prop := schemaMayRow.holds Try.pinned (OpenSpec.ofChange schemaMaySpec)

/-- ITS FALSE NEIGHBOUR: 'it returns false'. Refute it at one input. -/
def schemaMayWrong : ChangeSpec := { name := "schemaMay", fn := fun _ => fun
  | [d] => { results := [.lit (.bool false)], args := [d] }
  | _ => none }
def SchemaMayWrongFalsely : Prop := schemaMayRow.holds Try.pinned (OpenSpec.ofChange schemaMayWrong)

/-- 'tesseractlaw08.SchemaViews': WHATEVER THE INPUT: true; the input reads as it did. -/
def schemaViewsSpec : ChangeSpec := { name := "schemaViews", fn := fun _ => fun
  | [d1, d2] => { results := [.lit (.bool true)], args := [d1, d2] }
  | _ => none }
def schemaViewsRow : OpenClaim := { program := "ytojmkbhihnnmaaa", sum := "1797b52d952bb4b858d493f6b24431fc34fba631b53705201ece8bce13094de4", func := "tesseract/tesseractlaw08.SchemaViews", spec := "schemaViews", unfollowed := true, recurses := true, apart := false }
def SchemaViewsSaid : Prop := schemaViewsRow.holds Try.pinned (OpenSpec.ofChange schemaViewsSpec)

/-- ITS FALSE NEIGHBOUR: 'it returns false'. Refute it at one input. -/
def schemaViewsWrong : ChangeSpec := { name := "schemaViews", fn := fun _ => fun
  | [d1, d2] => { results := [.lit (.bool false)], args := [d1, d2] }
  | _ => none }
def SchemaViewsWrongFalsely : Prop := schemaViewsRow.holds Try.pinned (OpenSpec.ofChange schemaViewsWrong)

/-- 'tesseractlaw08.SchemaCovers': WHATEVER THE INPUT: true; the input reads as it did. -/
def schemaCoversSpec : ChangeSpec := { name := "schemaCovers", fn := fun _ => fun
  | [d1, d2] => { results := [.lit (.bool true)], args := [d1, d2] }
  | _ => none }
def schemaCoversRow : OpenClaim := { program := "ytojmkbhihnnmaaa", sum := "1797b52d952bb4b858d493f6b24431fc34fba631b53705201ece8bce13094de4", func := "tesseract/tesseractlaw08.SchemaCovers", spec := "schemaCovers", unfollowed := true, recurses := true, apart := false }
def SchemaCoversSaid : Prop := schemaCoversRow.holds Try.pinned (OpenSpec.ofChange schemaCoversSpec)

/-- ITS FALSE NEIGHBOUR: 'it returns false'. Refute it at one input. -/
def schemaCoversWrong : ChangeSpec := { name := "schemaCovers", fn := fun _ => fun
  | [d1, d2] => { results := [.lit (.bool false)], args := [d1, d2] }
  | _ => none }
def SchemaCoversWrongFalsely : Prop := schemaCoversRow.holds Try.pinned (OpenSpec.ofChange schemaCoversWrong)

/-- 'tesseractlaw08.SchemaOrder': WHATEVER THE INPUT: true; the input reads as it did. -/
def schemaOrderSpec : ChangeSpec := { name := "schemaOrder", fn := fun _ => fun
  | [d1, d2, d3] => { results := [.lit (.bool true)], args := [d1, d2, d3] }
  | _ => none }
def schemaOrderRow : OpenClaim := { program := "ytojmkbhihnnmaaa", sum := "1797b52d952bb4b858d493f6b24431fc34fba631b53705201ece8bce13094de4", func := "tesseract/tesseractlaw08.SchemaOrder", spec := "schemaOrder", unfollowed := true, recurses := true, apart := false }
def SchemaOrderSaid : Prop := schemaOrderRow.holds Try.pinned (OpenSpec.ofChange schemaOrderSpec)

/-- ITS FALSE NEIGHBOUR: 'it returns false'. Refute it at one input. -/
def schemaOrderWrong : ChangeSpec := { name := "schemaOrder", fn := fun _ => fun
  | [d1, d2, d3] => { results := [.lit (.bool false)], args := [d1, d2, d3] }
  | _ => none }
def SchemaOrderWrongFalsely : Prop := schemaOrderRow.holds Try.pinned (OpenSpec.ofChange schemaOrderWrong)

/-- 'tesseractlaw08.SchemaJoins': WHATEVER THE INPUT: true; the input reads as it did. -/
def schemaJoinsSpec : ChangeSpec := { name := "schemaJoins", fn := fun _ => fun
  | [d1, d2, d3] => { results := [.lit (.bool true)], args := [d1, d2, d3] }
  | _ => none }
def schemaJoinsRow : OpenClaim := { program := "ytojmkbhihnnmaaa", sum := "1797b52d952bb4b858d493f6b24431fc34fba631b53705201ece8bce13094de4", func := "tesseract/tesseractlaw08.SchemaJoins", spec := "schemaJoins", unfollowed := true, recurses := true, apart := false }
def SchemaJoinsSaid : Prop := schemaJoinsRow.holds Try.pinned (OpenSpec.ofChange schemaJoinsSpec)

/-- ITS FALSE NEIGHBOUR: 'it returns false'. Refute it at one input. -/
def schemaJoinsWrong : ChangeSpec := { name := "schemaJoins", fn := fun _ => fun
  | [d1, d2, d3] => { results := [.lit (.bool false)], args := [d1, d2, d3] }
  | _ => none }
def SchemaJoinsWrongFalsely : Prop := schemaJoinsRow.holds Try.pinned (OpenSpec.ofChange schemaJoinsWrong)

/-- 'tesseractlaw08.SchemaCorners': WHATEVER THE INPUT: true; the input reads as it did. -/
def schemaCornersSpec : ChangeSpec := { name := "schemaCorners", fn := fun _ => fun
  | [d] => { results := [.lit (.bool true)], args := [d] }
  | _ => none }
def schemaCornersRow : OpenClaim := { program := "ytojmkbhihnnmaaa", sum := "1797b52d952bb4b858d493f6b24431fc34fba631b53705201ece8bce13094de4", func := "tesseract/tesseractlaw08.SchemaCorners", spec := "schemaCorners", unfollowed := true, recurses := true, apart := false }
def SchemaCornersSaid : Prop := schemaCornersRow.holds Try.pinned (OpenSpec.ofChange schemaCornersSpec)

/-- ITS FALSE NEIGHBOUR: 'it returns false'. Refute it at one input. -/
def schemaCornersWrong : ChangeSpec := { name := "schemaCorners", fn := fun _ => fun
  | [d] => { results := [.lit (.bool false)], args := [d] }
  | _ => none }
def SchemaCornersWrongFalsely : Prop := schemaCornersRow.holds Try.pinned (OpenSpec.ofChange schemaCornersWrong)

/-- 'tesseractlaw08.SchemaOwns': WHATEVER THE INPUT: true; the input reads as it did. -/
def schemaOwnsSpec : ChangeSpec := { name := "schemaOwns", fn := fun _ => fun
  | [d1, d2] => { results := [.lit (.bool true)], args := [d1, d2] }
  | _ => none }
def schemaOwnsRow : OpenClaim := { program := "ytojmkbhihnnmaaa", sum := "1797b52d952bb4b858d493f6b24431fc34fba631b53705201ece8bce13094de4", func := "tesseract/tesseractlaw08.SchemaOwns", spec := "schemaOwns", unfollowed := true, recurses := true, apart := false }
def SchemaOwnsSaid : Prop := schemaOwnsRow.holds Try.pinned (OpenSpec.ofChange schemaOwnsSpec)

/-- ITS FALSE NEIGHBOUR: 'it returns false'. Refute it at one input. -/
def schemaOwnsWrong : ChangeSpec := { name := "schemaOwns", fn := fun _ => fun
  | [d1, d2] => { results := [.lit (.bool false)], args := [d1, d2] }
  | _ => none }
def SchemaOwnsWrongFalsely : Prop := schemaOwnsRow.holds Try.pinned (OpenSpec.ofChange schemaOwnsWrong)

/-- 'tesseractlaw19.TrackPlays': WHATEVER THE INPUT: true; the input reads as it did. -/
def trackPlaysSpec : ChangeSpec := { name := "trackPlays", fn := fun _ => fun
  | [d1, d2, d3] => { results := [.lit (.bool true)], args := [d1, d2, d3] }
  | _ => none }
def trackPlaysRow : OpenClaim := { program := "ytojmkbhihnnmaaa", sum := "1797b52d952bb4b858d493f6b24431fc34fba631b53705201ece8bce13094de4", func := "tesseract/tesseractlaw19.TrackPlays", spec := "trackPlays", inPlace := ["internal/abi.NoEscape", "internal/bytealg.MakeNoZero"], unfollowed := true, recurses := true, apart := false }
def TrackPlaysSaid : Prop := trackPlaysRow.holds Try.pinned (OpenSpec.ofChange trackPlaysSpec)

/-- ITS FALSE NEIGHBOUR: 'it returns false'. Refute it at one input. -/
def trackPlaysWrong : ChangeSpec := { name := "trackPlays", fn := fun _ => fun
  | [d1, d2, d3] => { results := [.lit (.bool false)], args := [d1, d2, d3] }
  | _ => none }
def TrackPlaysWrongFalsely : Prop := trackPlaysRow.holds Try.pinned (OpenSpec.ofChange trackPlaysWrong)

/-- 'tesseractlaw19.TrackRising': WHATEVER THE INPUT: true; the input reads as it did. -/
def trackRisingSpec : ChangeSpec := { name := "trackRising", fn := fun _ => fun
  | [d1, d2, d3] => { results := [.lit (.bool true)], args := [d1, d2, d3] }
  | _ => none }
def trackRisingRow : OpenClaim := { program := "ytojmkbhihnnmaaa", sum := "1797b52d952bb4b858d493f6b24431fc34fba631b53705201ece8bce13094de4", func := "tesseract/tesseractlaw19.TrackRising", spec := "trackRising", inPlace := ["internal/abi.NoEscape", "internal/bytealg.MakeNoZero"], unfollowed := true, recurses := true, apart := false }
def TrackRisingSaid : Prop := trackRisingRow.holds Try.pinned (OpenSpec.ofChange trackRisingSpec)

/-- ITS FALSE NEIGHBOUR: 'it returns false'. Refute it at one input. -/
def trackRisingWrong : ChangeSpec := { name := "trackRising", fn := fun _ => fun
  | [d1, d2, d3] => { results := [.lit (.bool false)], args := [d1, d2, d3] }
  | _ => none }
def TrackRisingWrongFalsely : Prop := trackRisingRow.holds Try.pinned (OpenSpec.ofChange trackRisingWrong)

/-- 'tesseractlaw19.TrackAlike': WHATEVER THE INPUT: true; the input reads as it did. -/
def trackAlikeSpec : ChangeSpec := { name := "trackAlike", fn := fun _ => fun
  | [d] => { results := [.lit (.bool true)], args := [d] }
  | _ => none }
def trackAlikeRow : OpenClaim := { program := "ytojmkbhihnnmaaa", sum := "1797b52d952bb4b858d493f6b24431fc34fba631b53705201ece8bce13094de4", func := "tesseract/tesseractlaw19.TrackAlike", spec := "trackAlike", inPlace := ["internal/abi.NoEscape", "internal/bytealg.MakeNoZero"], unfollowed := true, recurses := true, apart := false }
def TrackAlikeSaid : Prop := trackAlikeRow.holds Try.pinned (OpenSpec.ofChange trackAlikeSpec)

/-- ITS FALSE NEIGHBOUR: 'it returns false'. Refute it at one input. -/
def trackAlikeWrong : ChangeSpec := { name := "trackAlike", fn := fun _ => fun
  | [d] => { results := [.lit (.bool false)], args := [d] }
  | _ => none }
def TrackAlikeWrongFalsely : Prop := trackAlikeRow.holds Try.pinned (OpenSpec.ofChange trackAlikeWrong)

/-- 'tesseractlaw19.TrackDrops': WHATEVER THE INPUT: true; the input reads as it did. -/
def trackDropsSpec : ChangeSpec := { name := "trackDrops", fn := fun _ => fun
  | [d1, d2, d3, d4] => { results := [.lit (.bool true)], args := [d1, d2, d3, d4] }
  | _ => none }
def trackDropsRow : OpenClaim := { program := "ytojmkbhihnnmaaa", sum := "1797b52d952bb4b858d493f6b24431fc34fba631b53705201ece8bce13094de4", func := "tesseract/tesseractlaw19.TrackDrops", spec := "trackDrops", inPlace := ["internal/abi.NoEscape", "internal/bytealg.MakeNoZero"], unfollowed := true, recurses := true, apart := false }
def TrackDropsSaid : Prop := trackDropsRow.holds Try.pinned (OpenSpec.ofChange trackDropsSpec)

/-- ITS FALSE NEIGHBOUR: 'it returns false'. Refute it at one input. -/
def trackDropsWrong : ChangeSpec := { name := "trackDrops", fn := fun _ => fun
  | [d1, d2, d3, d4] => { results := [.lit (.bool false)], args := [d1, d2, d3, d4] }
  | _ => none }
def TrackDropsWrongFalsely : Prop := trackDropsRow.holds Try.pinned (OpenSpec.ofChange trackDropsWrong)

/-- 'tesseractlaw19.TrackOwns': WHATEVER THE INPUT: true; the input reads as it did. -/
def trackOwnsSpec : ChangeSpec := { name := "trackOwns", fn := fun _ => fun
  | [d] => { results := [.lit (.bool true)], args := [d] }
  | _ => none }
def trackOwnsRow : OpenClaim := { program := "ytojmkbhihnnmaaa", sum := "1797b52d952bb4b858d493f6b24431fc34fba631b53705201ece8bce13094de4", func := "tesseract/tesseractlaw19.TrackOwns", spec := "trackOwns", inPlace := ["internal/abi.NoEscape", "internal/bytealg.MakeNoZero"], unfollowed := true, recurses := true, apart := false }
def TrackOwnsSaid : Prop := trackOwnsRow.holds Try.pinned (OpenSpec.ofChange trackOwnsSpec)

/-- ITS FALSE NEIGHBOUR: 'it returns false'. Refute it at one input. -/
def trackOwnsWrong : ChangeSpec := { name := "trackOwns", fn := fun _ => fun
  | [d] => { results := [.lit (.bool false)], args := [d] }
  | _ => none }
def TrackOwnsWrongFalsely : Prop := trackOwnsRow.holds Try.pinned (OpenSpec.ofChange trackOwnsWrong)

/- THE SECOND FORM. 'bulk': how many values and letters a reading holds, each counted each time it is reached (what is shared counts as often as it is met; a slice's spare places count too). A statement '..UptoSaid' is the law's where the arguments, and the package variables that the reading takes, are together of bulk at most 1048576: NARROWER than '..Said'. Prove '..Said' where nothing that the law and all that it calls make is longer than what came in: it says more and counts as full. Else prove '..UptoSaid'. A law counts once. -/
mutual
def uptoBulk {H : Type} : DataW H → Nat
  | .lit (.string bytes) => bytes.length + 1
  | .lit _ => 1
  | .nil => 1
  | .ptr d => uptoBulk d + 1
  | .slice elems spare => uptoBulkAll elems + uptoBulkAll spare + 1
  | .agg parts => uptoBulkAll parts + 1
  | .iface _ d => uptoBulk d + 1
  | .map entries => uptoBulkEntries entries + 1
  | .held _ => 1
def uptoBulkAll {H : Type} : List (DataW H) → Nat
  | [] => 0
  | d :: r => uptoBulk d + uptoBulkAll r
def uptoBulkEntries {H : Type} : List (Lit × DataW H) → Nat
  | [] => 0
  | x :: r => uptoBulkEntry x + uptoBulkEntries r
def uptoBulkEntry {H : Type} : Lit × DataW H → Nat
  | (.string bytes, d) => bytes.length + uptoBulk d + 1
  | (_, d) => uptoBulk d + 1
 end
def uptoSmall : (H : Type) → List (DataW H) → Bool := fun _ ds => decide (uptoBulkAll ds ≤ 1048576)
def OpenSpec.upto (s : _root_.Go.ChangeSpec) : _root_.Go.OpenSpec := { _root_.Go.OpenSpec.ofChange s with cond := some uptoSmall }

/-- 'tesseractlaw08.SchemaMay', WHERE WHAT IT READS IS OF BULK AT MOST 1048576: true; the input reads as it did. -/
def schemaMayUptoRow : OpenClaim := { program := "ytojmkbhihnnmaaa", sum := "1797b52d952bb4b858d493f6b24431fc34fba631b53705201ece8bce13094de4", func := "tesseract/tesseractlaw08.SchemaMay", spec := "schemaMay", unfollowed := true, recurses := true, apart := false, narrowed := true }
def SchemaMayUptoSaid : Prop := schemaMayUptoRow.holds Try.pinned (OpenSpec.upto schemaMaySpec)

/-- 'tesseractlaw08.SchemaViews', WHERE WHAT IT READS IS OF BULK AT MOST 1048576: true; the input reads as it did. -/
def schemaViewsUptoRow : OpenClaim := { program := "ytojmkbhihnnmaaa", sum := "1797b52d952bb4b858d493f6b24431fc34fba631b53705201ece8bce13094de4", func := "tesseract/tesseractlaw08.SchemaViews", spec := "schemaViews", unfollowed := true, recurses := true, apart := false, narrowed := true }
def SchemaViewsUptoSaid : Prop := schemaViewsUptoRow.holds Try.pinned (OpenSpec.upto schemaViewsSpec)

/-- 'tesseractlaw08.SchemaCovers', WHERE WHAT IT READS IS OF BULK AT MOST 1048576: true; the input reads as it did. -/
def schemaCoversUptoRow : OpenClaim := { program := "ytojmkbhihnnmaaa", sum := "1797b52d952bb4b858d493f6b24431fc34fba631b53705201ece8bce13094de4", func := "tesseract/tesseractlaw08.SchemaCovers", spec := "schemaCovers", unfollowed := true, recurses := true, apart := false, narrowed := true }
def SchemaCoversUptoSaid : Prop := schemaCoversUptoRow.holds Try.pinned (OpenSpec.upto schemaCoversSpec)

/-- 'tesseractlaw08.SchemaOrder', WHERE WHAT IT READS IS OF BULK AT MOST 1048576: true; the input reads as it did. -/
def schemaOrderUptoRow : OpenClaim := { program := "ytojmkbhihnnmaaa", sum := "1797b52d952bb4b858d493f6b24431fc34fba631b53705201ece8bce13094de4", func := "tesseract/tesseractlaw08.SchemaOrder", spec := "schemaOrder", unfollowed := true, recurses := true, apart := false, narrowed := true }
def SchemaOrderUptoSaid : Prop := schemaOrderUptoRow.holds Try.pinned (OpenSpec.upto schemaOrderSpec)

/-- 'tesseractlaw08.SchemaJoins', WHERE WHAT IT READS IS OF BULK AT MOST 1048576: true; the input reads as it did. -/
def schemaJoinsUptoRow : OpenClaim := { program := "ytojmkbhihnnmaaa", sum := "1797b52d952bb4b858d493f6b24431fc34fba631b53705201ece8bce13094de4", func := "tesseract/tesseractlaw08.SchemaJoins", spec := "schemaJoins", unfollowed := true, recurses := true, apart := false, narrowed := true }
def SchemaJoinsUptoSaid : Prop := schemaJoinsUptoRow.holds Try.pinned (OpenSpec.upto schemaJoinsSpec)

/-- 'tesseractlaw08.SchemaCorners', WHERE WHAT IT READS IS OF BULK AT MOST 1048576: true; the input reads as it did. -/
def schemaCornersUptoRow : OpenClaim := { program := "ytojmkbhihnnmaaa", sum := "1797b52d952bb4b858d493f6b24431fc34fba631b53705201ece8bce13094de4", func := "tesseract/tesseractlaw08.SchemaCorners", spec := "schemaCorners", unfollowed := true, recurses := true, apart := false, narrowed := true }
def SchemaCornersUptoSaid : Prop := schemaCornersUptoRow.holds Try.pinned (OpenSpec.upto schemaCornersSpec)

/-- 'tesseractlaw08.SchemaOwns', WHERE WHAT IT READS IS OF BULK AT MOST 1048576: true; the input reads as it did. -/
def schemaOwnsUptoRow : OpenClaim := { program := "ytojmkbhihnnmaaa", sum := "1797b52d952bb4b858d493f6b24431fc34fba631b53705201ece8bce13094de4", func := "tesseract/tesseractlaw08.SchemaOwns", spec := "schemaOwns", unfollowed := true, recurses := true, apart := false, narrowed := true }
def SchemaOwnsUptoSaid : Prop := schemaOwnsUptoRow.holds Try.pinned (OpenSpec.upto schemaOwnsSpec)

/-- 'tesseractlaw19.TrackPlays', WHERE WHAT IT READS IS OF BULK AT MOST 1048576: true; the input reads as it did. -/
def trackPlaysUptoRow : OpenClaim := { program := "ytojmkbhihnnmaaa", sum := "1797b52d952bb4b858d493f6b24431fc34fba631b53705201ece8bce13094de4", func := "tesseract/tesseractlaw19.TrackPlays", spec := "trackPlays", inPlace := ["internal/abi.NoEscape", "internal/bytealg.MakeNoZero"], unfollowed := true, recurses := true, apart := false, narrowed := true }
def TrackPlaysUptoSaid : Prop := trackPlaysUptoRow.holds Try.pinned (OpenSpec.upto trackPlaysSpec)

/-- 'tesseractlaw19.TrackRising', WHERE WHAT IT READS IS OF BULK AT MOST 1048576: true; the input reads as it did. -/
def trackRisingUptoRow : OpenClaim := { program := "ytojmkbhihnnmaaa", sum := "1797b52d952bb4b858d493f6b24431fc34fba631b53705201ece8bce13094de4", func := "tesseract/tesseractlaw19.TrackRising", spec := "trackRising", inPlace := ["internal/abi.NoEscape", "internal/bytealg.MakeNoZero"], unfollowed := true, recurses := true, apart := false, narrowed := true }
def TrackRisingUptoSaid : Prop := trackRisingUptoRow.holds Try.pinned (OpenSpec.upto trackRisingSpec)

/-- 'tesseractlaw19.TrackAlike', WHERE WHAT IT READS IS OF BULK AT MOST 1048576: true; the input reads as it did. -/
def trackAlikeUptoRow : OpenClaim := { program := "ytojmkbhihnnmaaa", sum := "1797b52d952bb4b858d493f6b24431fc34fba631b53705201ece8bce13094de4", func := "tesseract/tesseractlaw19.TrackAlike", spec := "trackAlike", inPlace := ["internal/abi.NoEscape", "internal/bytealg.MakeNoZero"], unfollowed := true, recurses := true, apart := false, narrowed := true }
def TrackAlikeUptoSaid : Prop := trackAlikeUptoRow.holds Try.pinned (OpenSpec.upto trackAlikeSpec)

/-- 'tesseractlaw19.TrackDrops', WHERE WHAT IT READS IS OF BULK AT MOST 1048576: true; the input reads as it did. -/
def trackDropsUptoRow : OpenClaim := { program := "ytojmkbhihnnmaaa", sum := "1797b52d952bb4b858d493f6b24431fc34fba631b53705201ece8bce13094de4", func := "tesseract/tesseractlaw19.TrackDrops", spec := "trackDrops", inPlace := ["internal/abi.NoEscape", "internal/bytealg.MakeNoZero"], unfollowed := true, recurses := true, apart := false, narrowed := true }
def TrackDropsUptoSaid : Prop := trackDropsUptoRow.holds Try.pinned (OpenSpec.upto trackDropsSpec)

/-- 'tesseractlaw19.TrackOwns', WHERE WHAT IT READS IS OF BULK AT MOST 1048576: true; the input reads as it did. -/
def trackOwnsUptoRow : OpenClaim := { program := "ytojmkbhihnnmaaa", sum := "1797b52d952bb4b858d493f6b24431fc34fba631b53705201ece8bce13094de4", func := "tesseract/tesseractlaw19.TrackOwns", spec := "trackOwns", inPlace := ["internal/abi.NoEscape", "internal/bytealg.MakeNoZero"], unfollowed := true, recurses := true, apart := false, narrowed := true }
def TrackOwnsUptoSaid : Prop := trackOwnsUptoRow.holds Try.pinned (OpenSpec.upto trackOwnsSpec)

end Rows
end Go.Proofs.Ytojmkbhihnnmaaa
