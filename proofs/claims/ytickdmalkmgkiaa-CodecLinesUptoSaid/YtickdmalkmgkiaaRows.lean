/-
  No cell of these rows narrows 'for every input' (looked for: loops, veiled, ifaces, maps, wideKeys, modest, calm, conditions, laid).
  DERIVED. THE GIVEN ROWS OF THIS SEAT. 12 by the template 'for every input the law returns true; each argument reads behind the call as it read before'; 0 by the template 'total and deterministic' (their statements: YtickdmalkmgkiaaTotals.lean).
  GIVEN WITH THE SEED: the statements are not yours to turn. If you find one false, say at which input.
  Laid BY PROGRAM, IN A SANDBOX (cutbox-rows.mjs): the forced cells as the released guide's own fill.sh prints them over the translation 108201bb9526fb82… (all of the seat's roots in one cut). By AI agents, Wed Nov 11 2026. No macro, syntax, notation, axiom, sorry.
-/
import Derived.Test.YtickdmalkmgkiaaChecked
import GoSem.Claim
import GoSem.ClaimJoined
import GoSem.ClaimMapViews
import Derived.JoinedTies
import Derived.KernelRfl
namespace Go.Proofs.Ytickdmalkmgkiaa
/- THE CELL 'sum', in the pinned program and in every row, IS THE sha256 OF THE DUMP (.gsa) THAT YtickdmalkmgkiaaProg.lean LOADS. Nothing in Lean hashes anything: it is a label: what it is worth is what the hold of that sum in a sandbox is worth. -/
noncomputable def Try.pinned : Pinned := { name := "ytickdmalkmgkiaa", sum := "108201bb9526fb822a9cb9c1752e3239a2c9c82b78e501fba18b7cf7f3c8797c", checked := Try.checked }
namespace Rows
def none {H : Type} : Left H := { results := [], args := [] }

/-- 'sextantlaw23.TrailWrites': WHATEVER THE INPUT: true; the input reads as it did. -/
def trailWritesSpec : ChangeSpec := { name := "trailWrites", fn := fun _ => fun
  | [d] => { results := [.lit (.bool true)], args := [d] }
  | _ => none }
def trailWritesRow : OpenClaim := { program := "ytickdmalkmgkiaa", sum := "108201bb9526fb822a9cb9c1752e3239a2c9c82b78e501fba18b7cf7f3c8797c", func := "sextant/sextantlaw23.TrailWrites", spec := "trailWrites", unfollowed := true, recurses := true, apart := false }
def TrailWritesSaid : Prop := trailWritesRow.holds Try.pinned (OpenSpec.ofChange trailWritesSpec)

/-- ITS FALSE NEIGHBOUR: 'it returns false'. Refute it at one input. -/
def trailWritesWrong : ChangeSpec := { name := "trailWrites", fn := fun _ => fun
  | [d] => { results := [.lit (.bool false)], args := [d] }
  | _ => none }
def TrailWritesWrongFalsely : Prop := trailWritesRow.holds Try.pinned (OpenSpec.ofChange trailWritesWrong)

/-- 'sextantlaw23.TrailApart': WHATEVER THE INPUT: true; the input reads as it did. -/
def trailApartSpec : ChangeSpec := { name := "trailApart", fn := fun _ => fun
  | [d1, d2] => { results := [.lit (.bool true)], args := [d1, d2] }
  | _ => none }
def trailApartRow : OpenClaim := { program := "ytickdmalkmgkiaa", sum := "108201bb9526fb822a9cb9c1752e3239a2c9c82b78e501fba18b7cf7f3c8797c", func := "sextant/sextantlaw23.TrailApart", spec := "trailApart", unfollowed := true, recurses := true, apart := false }
def TrailApartSaid : Prop := trailApartRow.holds Try.pinned (OpenSpec.ofChange trailApartSpec)

/-- ITS FALSE NEIGHBOUR: 'it returns false'. Refute it at one input. -/
def trailApartWrong : ChangeSpec := { name := "trailApart", fn := fun _ => fun
  | [d1, d2] => { results := [.lit (.bool false)], args := [d1, d2] }
  | _ => none }
def TrailApartWrongFalsely : Prop := trailApartRow.holds Try.pinned (OpenSpec.ofChange trailApartWrong)

/-- 'sextantlaw01.CodecLines': WHATEVER THE INPUT: true; the input reads as it did. -/
def codecLinesSpec : ChangeSpec := { name := "codecLines", fn := fun _ => fun
  | [d1, d2] => { results := [.lit (.bool true)], args := [d1, d2] }
  | _ => none }
def codecLinesRow : OpenClaim := { program := "ytickdmalkmgkiaa", sum := "108201bb9526fb822a9cb9c1752e3239a2c9c82b78e501fba18b7cf7f3c8797c", func := "sextant/sextantlaw01.CodecLines", spec := "codecLines", inPlace := ["internal/bytealg.IndexByteString"], unfollowed := true, recurses := true, apart := false }
def CodecLinesSaid : Prop := codecLinesRow.holds Try.pinned (OpenSpec.ofChange codecLinesSpec)

/-- ITS FALSE NEIGHBOUR: 'it returns false'. Refute it at one input. -/
def codecLinesWrong : ChangeSpec := { name := "codecLines", fn := fun _ => fun
  | [d1, d2] => { results := [.lit (.bool false)], args := [d1, d2] }
  | _ => none }
def CodecLinesWrongFalsely : Prop := codecLinesRow.holds Try.pinned (OpenSpec.ofChange codecLinesWrong)

/-- 'sextantlaw01.CodecApart': WHATEVER THE INPUT: true; the input reads as it did. -/
def codecApartSpec : ChangeSpec := { name := "codecApart", fn := fun _ => fun
  | [d1, d2, d3] => { results := [.lit (.bool true)], args := [d1, d2, d3] }
  | _ => none }
def codecApartRow : OpenClaim := { program := "ytickdmalkmgkiaa", sum := "108201bb9526fb822a9cb9c1752e3239a2c9c82b78e501fba18b7cf7f3c8797c", func := "sextant/sextantlaw01.CodecApart", spec := "codecApart", inPlace := ["internal/bytealg.IndexByteString"], unfollowed := true, recurses := true, apart := false }
def CodecApartSaid : Prop := codecApartRow.holds Try.pinned (OpenSpec.ofChange codecApartSpec)

/-- ITS FALSE NEIGHBOUR: 'it returns false'. Refute it at one input. -/
def codecApartWrong : ChangeSpec := { name := "codecApart", fn := fun _ => fun
  | [d1, d2, d3] => { results := [.lit (.bool false)], args := [d1, d2, d3] }
  | _ => none }
def CodecApartWrongFalsely : Prop := codecApartRow.holds Try.pinned (OpenSpec.ofChange codecApartWrong)

/-- 'sextantlaw01.CodecLengths': WHATEVER THE INPUT: true; the input reads as it did. -/
def codecLengthsSpec : ChangeSpec := { name := "codecLengths", fn := fun _ => fun
  | [d1, d2] => { results := [.lit (.bool true)], args := [d1, d2] }
  | _ => none }
def codecLengthsRow : OpenClaim := { program := "ytickdmalkmgkiaa", sum := "108201bb9526fb822a9cb9c1752e3239a2c9c82b78e501fba18b7cf7f3c8797c", func := "sextant/sextantlaw01.CodecLengths", spec := "codecLengths", inPlace := ["internal/bytealg.IndexByteString"], unfollowed := true, recurses := true, apart := false }
def CodecLengthsSaid : Prop := codecLengthsRow.holds Try.pinned (OpenSpec.ofChange codecLengthsSpec)

/-- ITS FALSE NEIGHBOUR: 'it returns false'. Refute it at one input. -/
def codecLengthsWrong : ChangeSpec := { name := "codecLengths", fn := fun _ => fun
  | [d1, d2] => { results := [.lit (.bool false)], args := [d1, d2] }
  | _ => none }
def CodecLengthsWrongFalsely : Prop := codecLengthsRow.holds Try.pinned (OpenSpec.ofChange codecLengthsWrong)

/-- 'sextantlaw01.CodecJoins': WHATEVER THE INPUT: true; the input reads as it did. -/
def codecJoinsSpec : ChangeSpec := { name := "codecJoins", fn := fun _ => fun
  | [d] => { results := [.lit (.bool true)], args := [d] }
  | _ => none }
def codecJoinsRow : OpenClaim := { program := "ytickdmalkmgkiaa", sum := "108201bb9526fb822a9cb9c1752e3239a2c9c82b78e501fba18b7cf7f3c8797c", func := "sextant/sextantlaw01.CodecJoins", spec := "codecJoins", inPlace := ["internal/bytealg.IndexByteString"], unfollowed := true, recurses := true, apart := false }
def CodecJoinsSaid : Prop := codecJoinsRow.holds Try.pinned (OpenSpec.ofChange codecJoinsSpec)

/-- ITS FALSE NEIGHBOUR: 'it returns false'. Refute it at one input. -/
def codecJoinsWrong : ChangeSpec := { name := "codecJoins", fn := fun _ => fun
  | [d] => { results := [.lit (.bool false)], args := [d] }
  | _ => none }
def CodecJoinsWrongFalsely : Prop := codecJoinsRow.holds Try.pinned (OpenSpec.ofChange codecJoinsWrong)

/-- 'sextantlaw01.CodecReads': WHATEVER THE INPUT: true; the input reads as it did. -/
def codecReadsSpec : ChangeSpec := { name := "codecReads", fn := fun _ => fun
  | [d1, d2] => { results := [.lit (.bool true)], args := [d1, d2] }
  | _ => none }
def codecReadsRow : OpenClaim := { program := "ytickdmalkmgkiaa", sum := "108201bb9526fb822a9cb9c1752e3239a2c9c82b78e501fba18b7cf7f3c8797c", func := "sextant/sextantlaw01.CodecReads", spec := "codecReads", inPlace := ["internal/bytealg.IndexByteString"], unfollowed := true, recurses := true, apart := false }
def CodecReadsSaid : Prop := codecReadsRow.holds Try.pinned (OpenSpec.ofChange codecReadsSpec)

/-- ITS FALSE NEIGHBOUR: 'it returns false'. Refute it at one input. -/
def codecReadsWrong : ChangeSpec := { name := "codecReads", fn := fun _ => fun
  | [d1, d2] => { results := [.lit (.bool false)], args := [d1, d2] }
  | _ => none }
def CodecReadsWrongFalsely : Prop := codecReadsRow.holds Try.pinned (OpenSpec.ofChange codecReadsWrong)

/-- 'sextantlaw01.CodecPuts': WHATEVER THE INPUT: true; the input reads as it did. -/
def codecPutsSpec : ChangeSpec := { name := "codecPuts", fn := fun _ => fun
  | [d1, d2] => { results := [.lit (.bool true)], args := [d1, d2] }
  | _ => none }
def codecPutsRow : OpenClaim := { program := "ytickdmalkmgkiaa", sum := "108201bb9526fb822a9cb9c1752e3239a2c9c82b78e501fba18b7cf7f3c8797c", func := "sextant/sextantlaw01.CodecPuts", spec := "codecPuts", inPlace := ["internal/bytealg.IndexByteString"], unfollowed := true, recurses := true, apart := false }
def CodecPutsSaid : Prop := codecPutsRow.holds Try.pinned (OpenSpec.ofChange codecPutsSpec)

/-- ITS FALSE NEIGHBOUR: 'it returns false'. Refute it at one input. -/
def codecPutsWrong : ChangeSpec := { name := "codecPuts", fn := fun _ => fun
  | [d1, d2] => { results := [.lit (.bool false)], args := [d1, d2] }
  | _ => none }
def CodecPutsWrongFalsely : Prop := codecPutsRow.holds Try.pinned (OpenSpec.ofChange codecPutsWrong)

/-- 'sextantlaw01.CodecBack': WHATEVER THE INPUT: true; the input reads as it did. -/
def codecBackSpec : ChangeSpec := { name := "codecBack", fn := fun _ => fun
  | [d] => { results := [.lit (.bool true)], args := [d] }
  | _ => none }
def codecBackRow : OpenClaim := { program := "ytickdmalkmgkiaa", sum := "108201bb9526fb822a9cb9c1752e3239a2c9c82b78e501fba18b7cf7f3c8797c", func := "sextant/sextantlaw01.CodecBack", spec := "codecBack", inPlace := ["internal/bytealg.IndexByteString"], unfollowed := true, recurses := true, apart := false }
def CodecBackSaid : Prop := codecBackRow.holds Try.pinned (OpenSpec.ofChange codecBackSpec)

/-- ITS FALSE NEIGHBOUR: 'it returns false'. Refute it at one input. -/
def codecBackWrong : ChangeSpec := { name := "codecBack", fn := fun _ => fun
  | [d] => { results := [.lit (.bool false)], args := [d] }
  | _ => none }
def CodecBackWrongFalsely : Prop := codecBackRow.holds Try.pinned (OpenSpec.ofChange codecBackWrong)

/-- 'sextantlaw23.TrailParses': WHATEVER THE INPUT: true; the input reads as it did. -/
def trailParsesSpec : ChangeSpec := { name := "trailParses", fn := fun _ => fun
  | [d] => { results := [.lit (.bool true)], args := [d] }
  | _ => none }
def trailParsesRow : OpenClaim := { program := "ytickdmalkmgkiaa", sum := "108201bb9526fb822a9cb9c1752e3239a2c9c82b78e501fba18b7cf7f3c8797c", func := "sextant/sextantlaw23.TrailParses", spec := "trailParses", unfollowed := true, recurses := true, apart := false }
def TrailParsesSaid : Prop := trailParsesRow.holds Try.pinned (OpenSpec.ofChange trailParsesSpec)

/-- ITS FALSE NEIGHBOUR: 'it returns false'. Refute it at one input. -/
def trailParsesWrong : ChangeSpec := { name := "trailParses", fn := fun _ => fun
  | [d] => { results := [.lit (.bool false)], args := [d] }
  | _ => none }
def TrailParsesWrongFalsely : Prop := trailParsesRow.holds Try.pinned (OpenSpec.ofChange trailParsesWrong)

/-- 'sextantlaw23.TrailBack': WHATEVER THE INPUT: true; the input reads as it did. -/
def trailBackSpec : ChangeSpec := { name := "trailBack", fn := fun _ => fun
  | [d1, d2] => { results := [.lit (.bool true)], args := [d1, d2] }
  | _ => none }
def trailBackRow : OpenClaim := { program := "ytickdmalkmgkiaa", sum := "108201bb9526fb822a9cb9c1752e3239a2c9c82b78e501fba18b7cf7f3c8797c", func := "sextant/sextantlaw23.TrailBack", spec := "trailBack", unfollowed := true, recurses := true, apart := false }
def TrailBackSaid : Prop := trailBackRow.holds Try.pinned (OpenSpec.ofChange trailBackSpec)

/-- ITS FALSE NEIGHBOUR: 'it returns false'. Refute it at one input. -/
def trailBackWrong : ChangeSpec := { name := "trailBack", fn := fun _ => fun
  | [d1, d2] => { results := [.lit (.bool false)], args := [d1, d2] }
  | _ => none }
def TrailBackWrongFalsely : Prop := trailBackRow.holds Try.pinned (OpenSpec.ofChange trailBackWrong)

/-- 'sextantlaw01.CodecNothing': WHATEVER THE INPUT: true; the input reads as it did. -/
def codecNothingSpec : ChangeSpec := { name := "codecNothing", fn := fun _ => fun
  | [d1, d2, d3] => { results := [.lit (.bool true)], args := [d1, d2, d3] }
  | _ => none }
def codecNothingRow : OpenClaim := { program := "ytickdmalkmgkiaa", sum := "108201bb9526fb822a9cb9c1752e3239a2c9c82b78e501fba18b7cf7f3c8797c", func := "sextant/sextantlaw01.CodecNothing", spec := "codecNothing", inPlace := ["internal/bytealg.IndexByteString"], unfollowed := true, recurses := true, apart := false }
def CodecNothingSaid : Prop := codecNothingRow.holds Try.pinned (OpenSpec.ofChange codecNothingSpec)

/-- ITS FALSE NEIGHBOUR: 'it returns false'. Refute it at one input. -/
def codecNothingWrong : ChangeSpec := { name := "codecNothing", fn := fun _ => fun
  | [d1, d2, d3] => { results := [.lit (.bool false)], args := [d1, d2, d3] }
  | _ => none }
def CodecNothingWrongFalsely : Prop := codecNothingRow.holds Try.pinned (OpenSpec.ofChange codecNothingWrong)

/- THE SECOND FORM. 'bulk': how many values and letters a reading holds, each counted each time it is reached (what is shared counts as often as it is met; a slice's spare places count too). A statement '..UptoSaid' is the law's where the arguments, and the package variables that the reading takes, are together of bulk at most 1048576: NARROWER than '..Said'. Prove '..Said' where nothing that the law and all that it calls make is longer than what came in: it says more and counts as full. Else prove '..UptoSaid'. A law counts once. -/
mutual
def uptoBulk {H : Type} : DataW H → Nat
  | .lit (.string bytes) => bytes.length + 1
  | .lit _ => 1
  | .nil => 1
  | .ptr d => uptoBulk d + 1
  | .slice elems spare => uptoBulkAll elems + uptoBulkAll spare + 1
  | .agg parts => uptoBulkAll parts + 1
  | .iface _ d => uptoBulk d + 1
  | .map entries => uptoBulkEntries entries + 1
  | .held _ => 1
def uptoBulkAll {H : Type} : List (DataW H) → Nat
  | [] => 0
  | d :: r => uptoBulk d + uptoBulkAll r
def uptoBulkEntries {H : Type} : List (Lit × DataW H) → Nat
  | [] => 0
  | x :: r => uptoBulkEntry x + uptoBulkEntries r
def uptoBulkEntry {H : Type} : Lit × DataW H → Nat
  | (.string bytes, d) => bytes.length + uptoBulk d + 1
  | (_, d) => uptoBulk d + 1
 end
def uptoSmall : (H : Type) → List (DataW H) → Bool := fun _ ds => decide (uptoBulkAll ds ≤ 1048576)
def OpenSpec.upto (s : _root_.Go.ChangeSpec) : _root_.Go.OpenSpec := { _root_.Go.OpenSpec.ofChange s with cond := some uptoSmall }

/-- 'sextantlaw23.TrailWrites', WHERE WHAT IT READS IS OF BULK AT MOST 1048576: true; the input reads as it did. -/
def trailWritesUptoRow : OpenClaim := { program := "ytickdmalkmgkiaa", sum := "108201bb9526fb822a9cb9c1752e3239a2c9c82b78e501fba18b7cf7f3c8797c", func := "sextant/sextantlaw23.TrailWrites", spec := "trailWrites", unfollowed := true, recurses := true, apart := false, narrowed := true }
def TrailWritesUptoSaid : Prop := trailWritesUptoRow.holds Try.pinned (OpenSpec.upto trailWritesSpec)

/-- 'sextantlaw23.TrailApart', WHERE WHAT IT READS IS OF BULK AT MOST 1048576: true; the input reads as it did. -/
def trailApartUptoRow : OpenClaim := { program := "ytickdmalkmgkiaa", sum := "108201bb9526fb822a9cb9c1752e3239a2c9c82b78e501fba18b7cf7f3c8797c", func := "sextant/sextantlaw23.TrailApart", spec := "trailApart", unfollowed := true, recurses := true, apart := false, narrowed := true }
def TrailApartUptoSaid : Prop := trailApartUptoRow.holds Try.pinned (OpenSpec.upto trailApartSpec)

/-- 'sextantlaw01.CodecLines', WHERE WHAT IT READS IS OF BULK AT MOST 1048576: true; the input reads as it did. -/
def codecLinesUptoRow : OpenClaim := { program := "ytickdmalkmgkiaa", sum := "108201bb9526fb822a9cb9c1752e3239a2c9c82b78e501fba18b7cf7f3c8797c", func := "sextant/sextantlaw01.CodecLines", spec := "codecLines", inPlace := ["internal/bytealg.IndexByteString"], unfollowed := true, recurses := true, apart := false, narrowed := true }
def CodecLinesUptoSaid : Prop := codecLinesUptoRow.holds Try.pinned (OpenSpec.upto codecLinesSpec)

/-- 'sextantlaw01.CodecApart', WHERE WHAT IT READS IS OF BULK AT MOST 1048576: true; the input reads as it did. -/
def codecApartUptoRow : OpenClaim := { program := "ytickdmalkmgkiaa", sum := "108201bb9526fb822a9cb9c1752e3239a2c9c82b78e501fba18b7cf7f3c8797c", func := "sextant/sextantlaw01.CodecApart", spec := "codecApart", inPlace := ["internal/bytealg.IndexByteString"], unfollowed := true, recurses := true, apart := false, narrowed := true }
def CodecApartUptoSaid : Prop := codecApartUptoRow.holds Try.pinned (OpenSpec.upto codecApartSpec)

/-- 'sextantlaw01.CodecLengths', WHERE WHAT IT READS IS OF BULK AT MOST 1048576: true; the input reads as it did. -/
def codecLengthsUptoRow : OpenClaim := { program := "ytickdmalkmgkiaa", sum := "108201bb9526fb822a9cb9c1752e3239a2c9c82b78e501fba18b7cf7f3c8797c", func := "sextant/sextantlaw01.CodecLengths", spec := "codecLengths", inPlace := ["internal/bytealg.IndexByteString"], unfollowed := true, recurses := true, apart := false, narrowed := true }
def CodecLengthsUptoSaid : Prop := codecLengthsUptoRow.holds Try.pinned (OpenSpec.upto codecLengthsSpec)

/-- 'sextantlaw01.CodecJoins', WHERE WHAT IT READS IS OF BULK AT MOST 1048576: true; the input reads as it did. -/
def codecJoinsUptoRow : OpenClaim := { program := "ytickdmalkmgkiaa", sum := "108201bb9526fb822a9cb9c1752e3239a2c9c82b78e501fba18b7cf7f3c8797c", func := "sextant/sextantlaw01.CodecJoins", spec := "codecJoins", inPlace := ["internal/bytealg.IndexByteString"], unfollowed := true, recurses := true, apart := false, narrowed := true }
def CodecJoinsUptoSaid : Prop := codecJoinsUptoRow.holds Try.pinned (OpenSpec.upto codecJoinsSpec)

/-- 'sextantlaw01.CodecReads', WHERE WHAT IT READS IS OF BULK AT MOST 1048576: true; the input reads as it did. -/
def codecReadsUptoRow : OpenClaim := { program := "ytickdmalkmgkiaa", sum := "108201bb9526fb822a9cb9c1752e3239a2c9c82b78e501fba18b7cf7f3c8797c", func := "sextant/sextantlaw01.CodecReads", spec := "codecReads", inPlace := ["internal/bytealg.IndexByteString"], unfollowed := true, recurses := true, apart := false, narrowed := true }
def CodecReadsUptoSaid : Prop := codecReadsUptoRow.holds Try.pinned (OpenSpec.upto codecReadsSpec)

/-- 'sextantlaw01.CodecPuts', WHERE WHAT IT READS IS OF BULK AT MOST 1048576: true; the input reads as it did. -/
def codecPutsUptoRow : OpenClaim := { program := "ytickdmalkmgkiaa", sum := "108201bb9526fb822a9cb9c1752e3239a2c9c82b78e501fba18b7cf7f3c8797c", func := "sextant/sextantlaw01.CodecPuts", spec := "codecPuts", inPlace := ["internal/bytealg.IndexByteString"], unfollowed := true, recurses := true, apart := false, narrowed := true }
def CodecPutsUptoSaid : Prop := codecPutsUptoRow.holds Try.pinned (OpenSpec.upto codecPutsSpec)

/-- 'sextantlaw01.CodecBack', WHERE WHAT IT READS IS OF BULK AT MOST 1048576: true; the input reads as it did. -/
def codecBackUptoRow : OpenClaim := { program := "ytickdmalkmgkiaa", sum := "108201bb9526fb822a9cb9c1752e3239a2c9c82b78e501fba18b7cf7f3c8797c", func := "sextant/sextantlaw01.CodecBack", spec := "codecBack", inPlace := ["internal/bytealg.IndexByteString"], unfollowed := true, recurses := true, apart := false, narrowed := true }
def CodecBackUptoSaid : Prop := codecBackUptoRow.holds Try.pinned (OpenSpec.upto codecBackSpec)

/-- 'sextantlaw23.TrailParses', WHERE WHAT IT READS IS OF BULK AT MOST 1048576: true; the input reads as it did. -/
def trailParsesUptoRow : OpenClaim := { program := "ytickdmalkmgkiaa", sum := "108201bb9526fb822a9cb9c1752e3239a2c9c82b78e501fba18b7cf7f3c8797c", func := "sextant/sextantlaw23.TrailParses", spec := "trailParses", unfollowed := true, recurses := true, apart := false, narrowed := true }
def TrailParsesUptoSaid : Prop := trailParsesUptoRow.holds Try.pinned (OpenSpec.upto trailParsesSpec)

/-- 'sextantlaw23.TrailBack', WHERE WHAT IT READS IS OF BULK AT MOST 1048576: true; the input reads as it did. -/
def trailBackUptoRow : OpenClaim := { program := "ytickdmalkmgkiaa", sum := "108201bb9526fb822a9cb9c1752e3239a2c9c82b78e501fba18b7cf7f3c8797c", func := "sextant/sextantlaw23.TrailBack", spec := "trailBack", unfollowed := true, recurses := true, apart := false, narrowed := true }
def TrailBackUptoSaid : Prop := trailBackUptoRow.holds Try.pinned (OpenSpec.upto trailBackSpec)

/-- 'sextantlaw01.CodecNothing', WHERE WHAT IT READS IS OF BULK AT MOST 1048576: true; the input reads as it did. -/
def codecNothingUptoRow : OpenClaim := { program := "ytickdmalkmgkiaa", sum := "108201bb9526fb822a9cb9c1752e3239a2c9c82b78e501fba18b7cf7f3c8797c", func := "sextant/sextantlaw01.CodecNothing", spec := "codecNothing", inPlace := ["internal/bytealg.IndexByteString"], unfollowed := true, recurses := true, apart := false, narrowed := true }
def CodecNothingUptoSaid : Prop := codecNothingUptoRow.holds Try.pinned (OpenSpec.upto codecNothingSpec)

end Rows
end Go.Proofs.Ytickdmalkmgkiaa
