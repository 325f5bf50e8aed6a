/-
  NARROWER THAN 'FOR EVERY INPUT', by the rows' own cells (each row's printed sentence says how): LtlPrints: loops · LtlNormal: loops · LtlBack: loops · LtlTurns: loops · LtlSpells: loops.
  DERIVED. THE GIVEN ROWS OF THIS SEAT. 9 by the template 'for every input the law returns true; each argument reads behind the call as it read before'; 0 by the template 'total and deterministic' (their statements: YtkgfdgfhpdhhaaaTotals.lean).
  GIVEN WITH THE SEED: the statements are not yours to turn. If you find one false, say at which input.
  Laid BY PROGRAM, IN A SANDBOX (cutbox-rows.mjs): the forced cells as the released guide's own fill.sh prints them over the translation b9cdb93dad408417… (all of the seat's roots in one cut). By AI agents, Wed Nov 11 2026. No macro, syntax, notation, axiom, sorry.
-/
import Derived.Test.YtkgfdgfhpdhhaaaChecked
import GoSem.Claim
import GoSem.ClaimJoined
import GoSem.ClaimMapViews
import Derived.JoinedTies
import Derived.KernelRfl
namespace Go.Proofs.Ytkgfdgfhpdhhaaa
/- THE CELL 'sum', in the pinned program and in every row, IS THE sha256 OF THE DUMP (.gsa) THAT YtkgfdgfhpdhhaaaProg.lean LOADS. Nothing in Lean hashes anything: it is a label: what it is worth is what the hold of that sum in a sandbox is worth. -/
noncomputable def Try.pinned : Pinned := { name := "ytkgfdgfhpdhhaaa", sum := "b9cdb93dad40841794c7f5480649e0f5e57155787daad30feaadbacdb18acfb2", checked := Try.checked }
namespace Rows
def none {H : Type} : Left H := { results := [], args := [] }

/-- 'sextantlaw10.LassoWords': WHATEVER THE INPUT: true; the input reads as it did. -/
def lassoWordsSpec : ChangeSpec := { name := "lassoWords", fn := fun _ => fun
  | [d1, d2, d3] => { results := [.lit (.bool true)], args := [d1, d2, d3] }
  | _ => none }
def lassoWordsRow : OpenClaim := { program := "ytkgfdgfhpdhhaaa", sum := "b9cdb93dad40841794c7f5480649e0f5e57155787daad30feaadbacdb18acfb2", func := "sextant/sextantlaw10.LassoWords", spec := "lassoWords", unfollowed := true, recurses := true, apart := false }
def LassoWordsSaid : Prop := lassoWordsRow.holds Try.pinned (OpenSpec.ofChange lassoWordsSpec)

/-- ITS FALSE NEIGHBOUR: 'it returns false'. Refute it at one input. -/
def lassoWordsWrong : ChangeSpec := { name := "lassoWords", fn := fun _ => fun
  | [d1, d2, d3] => { results := [.lit (.bool false)], args := [d1, d2, d3] }
  | _ => none }
def LassoWordsWrongFalsely : Prop := lassoWordsRow.holds Try.pinned (OpenSpec.ofChange lassoWordsWrong)

/-- 'sextantlaw09.LtlReads': WHATEVER THE INPUT: true; the input reads as it did. -/
def ltlReadsSpec : ChangeSpec := { name := "ltlReads", fn := fun _ => fun
  | [d] => { results := [.lit (.bool true)], args := [d] }
  | _ => none }
def ltlReadsRow : OpenClaim := { program := "ytkgfdgfhpdhhaaa", sum := "b9cdb93dad40841794c7f5480649e0f5e57155787daad30feaadbacdb18acfb2", func := "sextant/sextantlaw09.LtlReads", spec := "ltlReads", inPlace := ["internal/bytealg.IndexByteString", "internal/abi.NoEscape"], unfollowed := true, recurses := true, apart := false }
def LtlReadsSaid : Prop := ltlReadsRow.holds Try.pinned (OpenSpec.ofChange ltlReadsSpec)

/-- ITS FALSE NEIGHBOUR: 'it returns false'. Refute it at one input. -/
def ltlReadsWrong : ChangeSpec := { name := "ltlReads", fn := fun _ => fun
  | [d] => { results := [.lit (.bool false)], args := [d] }
  | _ => none }
def LtlReadsWrongFalsely : Prop := ltlReadsRow.holds Try.pinned (OpenSpec.ofChange ltlReadsWrong)

/-- 'sextantlaw09.LtlPrints': WHATEVER THE INPUT: true; the input reads as it did. -/
def ltlPrintsSpec : ChangeSpec := { name := "ltlPrints", fn := fun _ => fun
  | [d] => { results := [.lit (.bool true)], args := [d] }
  | _ => none }
def ltlPrintsRow : OpenClaim := { program := "ytkgfdgfhpdhhaaa", sum := "b9cdb93dad40841794c7f5480649e0f5e57155787daad30feaadbacdb18acfb2", func := "sextant/sextantlaw09.LtlPrints", spec := "ltlPrints", inPlace := ["internal/bytealg.IndexByteString", "internal/abi.NoEscape"], unfollowed := true, recurses := true, loops := true, apart := false }
def LtlPrintsSaid : Prop := ltlPrintsRow.holds Try.pinned (OpenSpec.ofChange ltlPrintsSpec)

/-- ITS FALSE NEIGHBOUR: 'it returns false'. Refute it at one input. -/
def ltlPrintsWrong : ChangeSpec := { name := "ltlPrints", fn := fun _ => fun
  | [d] => { results := [.lit (.bool false)], args := [d] }
  | _ => none }
def LtlPrintsWrongFalsely : Prop := ltlPrintsRow.holds Try.pinned (OpenSpec.ofChange ltlPrintsWrong)

/-- 'sextantlaw09.LtlNormal': WHATEVER THE INPUT: true; the input reads as it did. -/
def ltlNormalSpec : ChangeSpec := { name := "ltlNormal", fn := fun _ => fun
  | [d] => { results := [.lit (.bool true)], args := [d] }
  | _ => none }
def ltlNormalRow : OpenClaim := { program := "ytkgfdgfhpdhhaaa", sum := "b9cdb93dad40841794c7f5480649e0f5e57155787daad30feaadbacdb18acfb2", func := "sextant/sextantlaw09.LtlNormal", spec := "ltlNormal", inPlace := ["internal/bytealg.IndexByteString", "internal/abi.NoEscape"], unfollowed := true, recurses := true, loops := true, apart := false }
def LtlNormalSaid : Prop := ltlNormalRow.holds Try.pinned (OpenSpec.ofChange ltlNormalSpec)

/-- ITS FALSE NEIGHBOUR: 'it returns false'. Refute it at one input. -/
def ltlNormalWrong : ChangeSpec := { name := "ltlNormal", fn := fun _ => fun
  | [d] => { results := [.lit (.bool false)], args := [d] }
  | _ => none }
def LtlNormalWrongFalsely : Prop := ltlNormalRow.holds Try.pinned (OpenSpec.ofChange ltlNormalWrong)

/-- 'sextantlaw09.LtlDepths': WHATEVER THE INPUT: true; the input reads as it did. -/
def ltlDepthsSpec : ChangeSpec := { name := "ltlDepths", fn := fun _ => fun
  | [d1, d2, d3] => { results := [.lit (.bool true)], args := [d1, d2, d3] }
  | _ => none }
def ltlDepthsRow : OpenClaim := { program := "ytkgfdgfhpdhhaaa", sum := "b9cdb93dad40841794c7f5480649e0f5e57155787daad30feaadbacdb18acfb2", func := "sextant/sextantlaw09.LtlDepths", spec := "ltlDepths", inPlace := ["internal/bytealg.IndexByteString", "internal/abi.NoEscape"], unfollowed := true, recurses := true, apart := false }
def LtlDepthsSaid : Prop := ltlDepthsRow.holds Try.pinned (OpenSpec.ofChange ltlDepthsSpec)

/-- ITS FALSE NEIGHBOUR: 'it returns false'. Refute it at one input. -/
def ltlDepthsWrong : ChangeSpec := { name := "ltlDepths", fn := fun _ => fun
  | [d1, d2, d3] => { results := [.lit (.bool false)], args := [d1, d2, d3] }
  | _ => none }
def LtlDepthsWrongFalsely : Prop := ltlDepthsRow.holds Try.pinned (OpenSpec.ofChange ltlDepthsWrong)

/-- 'sextantlaw09.LtlBack': WHATEVER THE INPUT: true; the input reads as it did. -/
def ltlBackSpec : ChangeSpec := { name := "ltlBack", fn := fun _ => fun
  | [d1, d2] => { results := [.lit (.bool true)], args := [d1, d2] }
  | _ => none }
def ltlBackRow : OpenClaim := { program := "ytkgfdgfhpdhhaaa", sum := "b9cdb93dad40841794c7f5480649e0f5e57155787daad30feaadbacdb18acfb2", func := "sextant/sextantlaw09.LtlBack", spec := "ltlBack", inPlace := ["internal/bytealg.IndexByteString", "internal/abi.NoEscape"], unfollowed := true, recurses := true, loops := true, apart := false }
def LtlBackSaid : Prop := ltlBackRow.holds Try.pinned (OpenSpec.ofChange ltlBackSpec)

/-- ITS FALSE NEIGHBOUR: 'it returns false'. Refute it at one input. -/
def ltlBackWrong : ChangeSpec := { name := "ltlBack", fn := fun _ => fun
  | [d1, d2] => { results := [.lit (.bool false)], args := [d1, d2] }
  | _ => none }
def LtlBackWrongFalsely : Prop := ltlBackRow.holds Try.pinned (OpenSpec.ofChange ltlBackWrong)

/-- 'sextantlaw09.LtlTurns': WHATEVER THE INPUT: true; the input reads as it did. -/
def ltlTurnsSpec : ChangeSpec := { name := "ltlTurns", fn := fun _ => fun
  | [d] => { results := [.lit (.bool true)], args := [d] }
  | _ => none }
def ltlTurnsRow : OpenClaim := { program := "ytkgfdgfhpdhhaaa", sum := "b9cdb93dad40841794c7f5480649e0f5e57155787daad30feaadbacdb18acfb2", func := "sextant/sextantlaw09.LtlTurns", spec := "ltlTurns", inPlace := ["internal/bytealg.IndexByteString", "internal/abi.NoEscape"], unfollowed := true, recurses := true, loops := true, apart := false }
def LtlTurnsSaid : Prop := ltlTurnsRow.holds Try.pinned (OpenSpec.ofChange ltlTurnsSpec)

/-- ITS FALSE NEIGHBOUR: 'it returns false'. Refute it at one input. -/
def ltlTurnsWrong : ChangeSpec := { name := "ltlTurns", fn := fun _ => fun
  | [d] => { results := [.lit (.bool false)], args := [d] }
  | _ => none }
def LtlTurnsWrongFalsely : Prop := ltlTurnsRow.holds Try.pinned (OpenSpec.ofChange ltlTurnsWrong)

/-- 'sextantlaw09.LtlAround': WHATEVER THE INPUT: true; the input reads as it did. -/
def ltlAroundSpec : ChangeSpec := { name := "ltlAround", fn := fun _ => fun
  | [d1, d2, d3, d4] => { results := [.lit (.bool true)], args := [d1, d2, d3, d4] }
  | _ => none }
def ltlAroundRow : OpenClaim := { program := "ytkgfdgfhpdhhaaa", sum := "b9cdb93dad40841794c7f5480649e0f5e57155787daad30feaadbacdb18acfb2", func := "sextant/sextantlaw09.LtlAround", spec := "ltlAround", inPlace := ["internal/bytealg.IndexByteString", "internal/abi.NoEscape"], unfollowed := true, recurses := true, apart := false }
def LtlAroundSaid : Prop := ltlAroundRow.holds Try.pinned (OpenSpec.ofChange ltlAroundSpec)

/-- ITS FALSE NEIGHBOUR: 'it returns false'. Refute it at one input. -/
def ltlAroundWrong : ChangeSpec := { name := "ltlAround", fn := fun _ => fun
  | [d1, d2, d3, d4] => { results := [.lit (.bool false)], args := [d1, d2, d3, d4] }
  | _ => none }
def LtlAroundWrongFalsely : Prop := ltlAroundRow.holds Try.pinned (OpenSpec.ofChange ltlAroundWrong)

/-- 'sextantlaw09.LtlSpells': WHATEVER THE INPUT: true; the input reads as it did. -/
def ltlSpellsSpec : ChangeSpec := { name := "ltlSpells", fn := fun _ => fun
  | [d1, d2] => { results := [.lit (.bool true)], args := [d1, d2] }
  | _ => none }
def ltlSpellsRow : OpenClaim := { program := "ytkgfdgfhpdhhaaa", sum := "b9cdb93dad40841794c7f5480649e0f5e57155787daad30feaadbacdb18acfb2", func := "sextant/sextantlaw09.LtlSpells", spec := "ltlSpells", inPlace := ["internal/bytealg.IndexByteString", "internal/abi.NoEscape"], unfollowed := true, recurses := true, loops := true, apart := false }
def LtlSpellsSaid : Prop := ltlSpellsRow.holds Try.pinned (OpenSpec.ofChange ltlSpellsSpec)

/-- ITS FALSE NEIGHBOUR: 'it returns false'. Refute it at one input. -/
def ltlSpellsWrong : ChangeSpec := { name := "ltlSpells", fn := fun _ => fun
  | [d1, d2] => { results := [.lit (.bool false)], args := [d1, d2] }
  | _ => none }
def LtlSpellsWrongFalsely : Prop := ltlSpellsRow.holds Try.pinned (OpenSpec.ofChange ltlSpellsWrong)

/- THE SECOND FORM. 'bulk': how many values and letters a reading holds, each counted each time it is reached (what is shared counts as often as it is met; a slice's spare places count too). A statement '..UptoSaid' is the law's where the arguments, and the package variables that the reading takes, are together of bulk at most 1048576: NARROWER than '..Said'. Prove '..Said' where nothing that the law and all that it calls make is longer than what came in: it says more and counts as full. Else prove '..UptoSaid'. A law counts once. -/
mutual
def uptoBulk {H : Type} : DataW H → Nat
  | .lit (.string bytes) => bytes.length + 1
  | .lit _ => 1
  | .nil => 1
  | .ptr d => uptoBulk d + 1
  | .slice elems spare => uptoBulkAll elems + uptoBulkAll spare + 1
  | .agg parts => uptoBulkAll parts + 1
  | .iface _ d => uptoBulk d + 1
  | .map entries => uptoBulkEntries entries + 1
  | .held _ => 1
def uptoBulkAll {H : Type} : List (DataW H) → Nat
  | [] => 0
  | d :: r => uptoBulk d + uptoBulkAll r
def uptoBulkEntries {H : Type} : List (Lit × DataW H) → Nat
  | [] => 0
  | x :: r => uptoBulkEntry x + uptoBulkEntries r
def uptoBulkEntry {H : Type} : Lit × DataW H → Nat
  | (.string bytes, d) => bytes.length + uptoBulk d + 1
  | (_, d) => uptoBulk d + 1
 end
def uptoSmall : (H : Type) → List (DataW H) → Bool := fun _ ds => decide (uptoBulkAll ds ≤ 1048576)
def OpenSpec.upto (s : _root_.Go.ChangeSpec) : _root_.Go.OpenSpec := { _root_.Go.OpenSpec.ofChange s with cond := some uptoSmall }

/-- 'sextantlaw10.LassoWords', WHERE WHAT IT READS IS OF BULK AT MOST 1048576: true; the input reads as it did. -/
def lassoWordsUptoRow : OpenClaim := { program := "ytkgfdgfhpdhhaaa", sum := "b9cdb93dad40841794c7f5480649e0f5e57155787daad30feaadbacdb18acfb2", func := "sextant/sextantlaw10.LassoWords", spec := "lassoWords", unfollowed := true, recurses := true, apart := false, narrowed := true }
def LassoWordsUptoSaid : Prop := lassoWordsUptoRow.holds Try.pinned (OpenSpec.upto lassoWordsSpec)

/-- 'sextantlaw09.LtlReads', WHERE WHAT IT READS IS OF BULK AT MOST 1048576: true; the input reads as it did. -/
def ltlReadsUptoRow : OpenClaim := { program := "ytkgfdgfhpdhhaaa", sum := "b9cdb93dad40841794c7f5480649e0f5e57155787daad30feaadbacdb18acfb2", func := "sextant/sextantlaw09.LtlReads", spec := "ltlReads", inPlace := ["internal/bytealg.IndexByteString", "internal/abi.NoEscape"], unfollowed := true, recurses := true, apart := false, narrowed := true }
def LtlReadsUptoSaid : Prop := ltlReadsUptoRow.holds Try.pinned (OpenSpec.upto ltlReadsSpec)

/-- 'sextantlaw09.LtlPrints', WHERE WHAT IT READS IS OF BULK AT MOST 1048576: true; the input reads as it did. -/
def ltlPrintsUptoRow : OpenClaim := { program := "ytkgfdgfhpdhhaaa", sum := "b9cdb93dad40841794c7f5480649e0f5e57155787daad30feaadbacdb18acfb2", func := "sextant/sextantlaw09.LtlPrints", spec := "ltlPrints", inPlace := ["internal/bytealg.IndexByteString", "internal/abi.NoEscape"], unfollowed := true, recurses := true, loops := true, apart := false, narrowed := true }
def LtlPrintsUptoSaid : Prop := ltlPrintsUptoRow.holds Try.pinned (OpenSpec.upto ltlPrintsSpec)

/-- 'sextantlaw09.LtlNormal', WHERE WHAT IT READS IS OF BULK AT MOST 1048576: true; the input reads as it did. -/
def ltlNormalUptoRow : OpenClaim := { program := "ytkgfdgfhpdhhaaa", sum := "b9cdb93dad40841794c7f5480649e0f5e57155787daad30feaadbacdb18acfb2", func := "sextant/sextantlaw09.LtlNormal", spec := "ltlNormal", inPlace := ["internal/bytealg.IndexByteString", "internal/abi.NoEscape"], unfollowed := true, recurses := true, loops := true, apart := false, narrowed := true }
def LtlNormalUptoSaid : Prop := ltlNormalUptoRow.holds Try.pinned (OpenSpec.upto ltlNormalSpec)

/-- 'sextantlaw09.LtlDepths', WHERE WHAT IT READS IS OF BULK AT MOST 1048576: true; the input reads as it did. -/
def ltlDepthsUptoRow : OpenClaim := { program := "ytkgfdgfhpdhhaaa", sum := "b9cdb93dad40841794c7f5480649e0f5e57155787daad30feaadbacdb18acfb2", func := "sextant/sextantlaw09.LtlDepths", spec := "ltlDepths", inPlace := ["internal/bytealg.IndexByteString", "internal/abi.NoEscape"], unfollowed := true, recurses := true, apart := false, narrowed := true }
def LtlDepthsUptoSaid : Prop := ltlDepthsUptoRow.holds Try.pinned (OpenSpec.upto ltlDepthsSpec)

/-- 'sextantlaw09.LtlBack', WHERE WHAT IT READS IS OF BULK AT MOST 1048576: true; the input reads as it did. -/
def ltlBackUptoRow : OpenClaim := { program := "ytkgfdgfhpdhhaaa", sum := "b9cdb93dad40841794c7f5480649e0f5e57155787daad30feaadbacdb18acfb2", func := "sextant/sextantlaw09.LtlBack", spec := "ltlBack", inPlace := ["internal/bytealg.IndexByteString", "internal/abi.NoEscape"], unfollowed := true, recurses := true, loops := true, apart := false, narrowed := true }
def LtlBackUptoSaid : Prop := ltlBackUptoRow.holds Try.pinned (OpenSpec.upto ltlBackSpec)

/-- 'sextantlaw09.LtlTurns', WHERE WHAT IT READS IS OF BULK AT MOST 1048576: true; the input reads as it did. -/
def ltlTurnsUptoRow : OpenClaim := { program := "ytkgfdgfhpdhhaaa", sum := "b9cdb93dad40841794c7f5480649e0f5e57155787daad30feaadbacdb18acfb2", func := "sextant/sextantlaw09.LtlTurns", spec := "ltlTurns", inPlace := ["internal/bytealg.IndexByteString", "internal/abi.NoEscape"], unfollowed := true, recurses := true, loops := true, apart := false, narrowed := true }
def LtlTurnsUptoSaid : Prop := ltlTurnsUptoRow.holds Try.pinned (OpenSpec.upto ltlTurnsSpec)

/-- 'sextantlaw09.LtlAround', WHERE WHAT IT READS IS OF BULK AT MOST 1048576: true; the input reads as it did. -/
def ltlAroundUptoRow : OpenClaim := { program := "ytkgfdgfhpdhhaaa", sum := "b9cdb93dad40841794c7f5480649e0f5e57155787daad30feaadbacdb18acfb2", func := "sextant/sextantlaw09.LtlAround", spec := "ltlAround", inPlace := ["internal/bytealg.IndexByteString", "internal/abi.NoEscape"], unfollowed := true, recurses := true, apart := false, narrowed := true }
def LtlAroundUptoSaid : Prop := ltlAroundUptoRow.holds Try.pinned (OpenSpec.upto ltlAroundSpec)

/-- 'sextantlaw09.LtlSpells', WHERE WHAT IT READS IS OF BULK AT MOST 1048576: true; the input reads as it did. -/
def ltlSpellsUptoRow : OpenClaim := { program := "ytkgfdgfhpdhhaaa", sum := "b9cdb93dad40841794c7f5480649e0f5e57155787daad30feaadbacdb18acfb2", func := "sextant/sextantlaw09.LtlSpells", spec := "ltlSpells", inPlace := ["internal/bytealg.IndexByteString", "internal/abi.NoEscape"], unfollowed := true, recurses := true, loops := true, apart := false, narrowed := true }
def LtlSpellsUptoSaid : Prop := ltlSpellsUptoRow.holds Try.pinned (OpenSpec.upto ltlSpellsSpec)

end Rows
end Go.Proofs.Ytkgfdgfhpdhhaaa
