/-
  NARROWER THAN 'FOR EVERY INPUT', by the rows' own cells (each row's printed sentence says how): AlternateTurns: loops · LtlRewrites: loops.
  DERIVED. THE GIVEN ROWS OF THIS SEAT. 4 by the template 'for every input the law returns true; each argument reads behind the call as it read before'; 0 by the template 'total and deterministic' (their statements: YtkgfdgfhpdhhaaaGreatTotals.lean).
  GIVEN WITH THE SEED: the statements are not yours to turn. If you find one false, say at which input.
  Laid BY PROGRAM, IN A SANDBOX (cutbox-rows.mjs): the forced cells as the released guide's own fill.sh prints them over the translation dfda30aed993dd64… (all of the seat's roots in one cut). By AI agents, Wed Nov 11 2026. No macro, syntax, notation, axiom, sorry.
-/
import Derived.Test.YtkgfdgfhpdhhaaaGreatChecked
import GoSem.Claim
import GoSem.ClaimJoined
import GoSem.ClaimMapViews
import Derived.JoinedTies
import Derived.KernelRfl
namespace Go.Proofs.YtkgfdgfhpdhhaaaGreat
/- THE CELL 'sum', in the pinned program and in every row, IS THE sha256 OF THE DUMP (.gsa) THAT YtkgfdgfhpdhhaaaGreatProg.lean LOADS. Nothing in Lean hashes anything: it is a label: what it is worth is what the hold of that sum in a sandbox is worth. -/
noncomputable def Tryz.pinned : Pinned := { name := "ytkgfdgfhpdhhaaagreat", sum := "dfda30aed993dd64957e9d6172ccf0bc6718e403f01b014f60bb545bd98971ce", checked := Tryz.checked }
namespace Rows
def none {H : Type} : Left H := { results := [], args := [] }

/-- 'sextantlaw11.AlternateTurns': WHATEVER THE INPUT: true; the input reads as it did. -/
def alternateTurnsSpec : ChangeSpec := { name := "alternateTurns", fn := fun _ => fun
  | [d1, d2, d3, d4] => { results := [.lit (.bool true)], args := [d1, d2, d3, d4] }
  | _ => none }
def alternateTurnsRow : OpenClaim := { program := "ytkgfdgfhpdhhaaagreat", sum := "dfda30aed993dd64957e9d6172ccf0bc6718e403f01b014f60bb545bd98971ce", func := "sextant/sextantlaw11.AlternateTurns", spec := "alternateTurns", unfollowed := true, recurses := true, loops := true, apart := false }
def AlternateTurnsSaid : Prop := alternateTurnsRow.holds Tryz.pinned (OpenSpec.ofChange alternateTurnsSpec)

/-- ITS FALSE NEIGHBOUR: 'it returns false'. Refute it at one input. -/
def alternateTurnsWrong : ChangeSpec := { name := "alternateTurns", fn := fun _ => fun
  | [d1, d2, d3, d4] => { results := [.lit (.bool false)], args := [d1, d2, d3, d4] }
  | _ => none }
def AlternateTurnsWrongFalsely : Prop := alternateTurnsRow.holds Tryz.pinned (OpenSpec.ofChange alternateTurnsWrong)

/-- 'sextantlaw11.AlternateSuffix': WHATEVER THE INPUT: true; the input reads as it did. -/
def alternateSuffixSpec : ChangeSpec := { name := "alternateSuffix", fn := fun _ => fun
  | [d1, d2] => { results := [.lit (.bool true)], args := [d1, d2] }
  | _ => none }
def alternateSuffixRow : OpenClaim := { program := "ytkgfdgfhpdhhaaagreat", sum := "dfda30aed993dd64957e9d6172ccf0bc6718e403f01b014f60bb545bd98971ce", func := "sextant/sextantlaw11.AlternateSuffix", spec := "alternateSuffix", unfollowed := true, recurses := true, apart := false }
def AlternateSuffixSaid : Prop := alternateSuffixRow.holds Tryz.pinned (OpenSpec.ofChange alternateSuffixSpec)

/-- ITS FALSE NEIGHBOUR: 'it returns false'. Refute it at one input. -/
def alternateSuffixWrong : ChangeSpec := { name := "alternateSuffix", fn := fun _ => fun
  | [d1, d2] => { results := [.lit (.bool false)], args := [d1, d2] }
  | _ => none }
def AlternateSuffixWrongFalsely : Prop := alternateSuffixRow.holds Tryz.pinned (OpenSpec.ofChange alternateSuffixWrong)

/-- 'sextantlaw09.LtlRewrites': WHATEVER THE INPUT: true; the input reads as it did. -/
def ltlRewritesSpec : ChangeSpec := { name := "ltlRewrites", fn := fun _ => fun
  | [d] => { results := [.lit (.bool true)], args := [d] }
  | _ => none }
def ltlRewritesRow : OpenClaim := { program := "ytkgfdgfhpdhhaaagreat", sum := "dfda30aed993dd64957e9d6172ccf0bc6718e403f01b014f60bb545bd98971ce", func := "sextant/sextantlaw09.LtlRewrites", spec := "ltlRewrites", inPlace := ["internal/bytealg.IndexByteString", "internal/abi.NoEscape"], unfollowed := true, recurses := true, loops := true, apart := false }
def LtlRewritesSaid : Prop := ltlRewritesRow.holds Tryz.pinned (OpenSpec.ofChange ltlRewritesSpec)

/-- ITS FALSE NEIGHBOUR: 'it returns false'. Refute it at one input. -/
def ltlRewritesWrong : ChangeSpec := { name := "ltlRewrites", fn := fun _ => fun
  | [d] => { results := [.lit (.bool false)], args := [d] }
  | _ => none }
def LtlRewritesWrongFalsely : Prop := ltlRewritesRow.holds Tryz.pinned (OpenSpec.ofChange ltlRewritesWrong)

/-- 'sextantlaw11.AlternateAccepts': WHATEVER THE INPUT: true; the input reads as it did. -/
def alternateAcceptsSpec : ChangeSpec := { name := "alternateAccepts", fn := fun _ => fun
  | [d1, d2] => { results := [.lit (.bool true)], args := [d1, d2] }
  | _ => none }
def alternateAcceptsRow : OpenClaim := { program := "ytkgfdgfhpdhhaaagreat", sum := "dfda30aed993dd64957e9d6172ccf0bc6718e403f01b014f60bb545bd98971ce", func := "sextant/sextantlaw11.AlternateAccepts", spec := "alternateAccepts", unfollowed := true, recurses := true, apart := false }
def AlternateAcceptsSaid : Prop := alternateAcceptsRow.holds Tryz.pinned (OpenSpec.ofChange alternateAcceptsSpec)

/-- ITS FALSE NEIGHBOUR: 'it returns false'. Refute it at one input. -/
def alternateAcceptsWrong : ChangeSpec := { name := "alternateAccepts", fn := fun _ => fun
  | [d1, d2] => { results := [.lit (.bool false)], args := [d1, d2] }
  | _ => none }
def AlternateAcceptsWrongFalsely : Prop := alternateAcceptsRow.holds Tryz.pinned (OpenSpec.ofChange alternateAcceptsWrong)

/- THE SECOND FORM. 'bulk': how many values and letters a reading holds, each counted each time it is reached (what is shared counts as often as it is met; a slice's spare places count too). A statement '..UptoSaid' is the law's where the arguments, and the package variables that the reading takes, are together of bulk at most 1048576: NARROWER than '..Said'. Prove '..Said' where nothing that the law and all that it calls make is longer than what came in: it says more and counts as full. Else prove '..UptoSaid'. A law counts once. -/
mutual
def uptoBulk {H : Type} : DataW H → Nat
  | .lit (.string bytes) => bytes.length + 1
  | .lit _ => 1
  | .nil => 1
  | .ptr d => uptoBulk d + 1
  | .slice elems spare => uptoBulkAll elems + uptoBulkAll spare + 1
  | .agg parts => uptoBulkAll parts + 1
  | .iface _ d => uptoBulk d + 1
  | .map entries => uptoBulkEntries entries + 1
  | .held _ => 1
def uptoBulkAll {H : Type} : List (DataW H) → Nat
  | [] => 0
  | d :: r => uptoBulk d + uptoBulkAll r
def uptoBulkEntries {H : Type} : List (Lit × DataW H) → Nat
  | [] => 0
  | x :: r => uptoBulkEntry x + uptoBulkEntries r
def uptoBulkEntry {H : Type} : Lit × DataW H → Nat
  | (.string bytes, d) => bytes.length + uptoBulk d + 1
  | (_, d) => uptoBulk d + 1
 end
def uptoSmall : (H : Type) → List (DataW H) → Bool := fun _ ds => decide (uptoBulkAll ds ≤ 1048576)
def OpenSpec.upto (s : _root_.Go.ChangeSpec) : _root_.Go.OpenSpec := { _root_.Go.OpenSpec.ofChange s with cond := some uptoSmall }

/-- 'sextantlaw11.AlternateTurns', WHERE WHAT IT READS IS OF BULK AT MOST 1048576: true; the input reads as it did. -/
def alternateTurnsUptoRow : OpenClaim := { program := "ytkgfdgfhpdhhaaagreat", sum := "dfda30aed993dd64957e9d6172ccf0bc6718e403f01b014f60bb545bd98971ce", func := "sextant/sextantlaw11.AlternateTurns", spec := "alternateTurns", unfollowed := true, recurses := true, loops := true, apart := false, narrowed := true }
def AlternateTurnsUptoSaid : Prop := alternateTurnsUptoRow.holds Tryz.pinned (OpenSpec.upto alternateTurnsSpec)

/-- 'sextantlaw11.AlternateSuffix', WHERE WHAT IT READS IS OF BULK AT MOST 1048576: true; the input reads as it did. -/
def alternateSuffixUptoRow : OpenClaim := { program := "ytkgfdgfhpdhhaaagreat", sum := "dfda30aed993dd64957e9d6172ccf0bc6718e403f01b014f60bb545bd98971ce", func := "sextant/sextantlaw11.AlternateSuffix", spec := "alternateSuffix", unfollowed := true, recurses := true, apart := false, narrowed := true }
def AlternateSuffixUptoSaid : Prop := alternateSuffixUptoRow.holds Tryz.pinned (OpenSpec.upto alternateSuffixSpec)

/-- 'sextantlaw09.LtlRewrites', WHERE WHAT IT READS IS OF BULK AT MOST 1048576: true; the input reads as it did. -/
def ltlRewritesUptoRow : OpenClaim := { program := "ytkgfdgfhpdhhaaagreat", sum := "dfda30aed993dd64957e9d6172ccf0bc6718e403f01b014f60bb545bd98971ce", func := "sextant/sextantlaw09.LtlRewrites", spec := "ltlRewrites", inPlace := ["internal/bytealg.IndexByteString", "internal/abi.NoEscape"], unfollowed := true, recurses := true, loops := true, apart := false, narrowed := true }
def LtlRewritesUptoSaid : Prop := ltlRewritesUptoRow.holds Tryz.pinned (OpenSpec.upto ltlRewritesSpec)

/-- 'sextantlaw11.AlternateAccepts', WHERE WHAT IT READS IS OF BULK AT MOST 1048576: true; the input reads as it did. -/
def alternateAcceptsUptoRow : OpenClaim := { program := "ytkgfdgfhpdhhaaagreat", sum := "dfda30aed993dd64957e9d6172ccf0bc6718e403f01b014f60bb545bd98971ce", func := "sextant/sextantlaw11.AlternateAccepts", spec := "alternateAccepts", unfollowed := true, recurses := true, apart := false, narrowed := true }
def AlternateAcceptsUptoSaid : Prop := alternateAcceptsUptoRow.holds Tryz.pinned (OpenSpec.upto alternateAcceptsSpec)

end Rows
end Go.Proofs.YtkgfdgfhpdhhaaaGreat
