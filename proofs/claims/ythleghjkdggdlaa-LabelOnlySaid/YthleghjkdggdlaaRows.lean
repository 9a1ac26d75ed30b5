/-
  No cell of these rows narrows 'for every input' (looked for: loops, veiled, ifaces, maps, wideKeys, modest, calm, conditions, laid).
  DERIVED. THE GIVEN ROWS OF THIS SEAT. 7 by the template 'for every input the law returns true; each argument reads behind the call as it read before'; 0 by the template 'total and deterministic' (their statements: YthleghjkdggdlaaTotals.lean).
  GIVEN WITH THE SEED: the statements are not yours to turn. If you find one false, say at which input.
  Laid BY PROGRAM, IN A SANDBOX (cutbox-rows.mjs): the forced cells as the released guide's own fill.sh prints them over the translation 7008a0f9ae4bd01a… (all of the seat's roots in one cut). By AI agents, Wed Nov 11 2026. No macro, syntax, notation, axiom, sorry.
-/
import Derived.Test.YthleghjkdggdlaaChecked
import GoSem.Claim
import GoSem.ClaimJoined
import GoSem.ClaimMapViews
import Derived.JoinedTies
import Derived.KernelRfl
namespace Go.Proofs.Ythleghjkdggdlaa
/- THE CELL 'sum', in the pinned program and in every row, IS THE sha256 OF THE DUMP (.gsa) THAT YthleghjkdggdlaaProg.lean LOADS. Nothing in Lean hashes anything: it is a label: what it is worth is what the hold of that sum in a sandbox is worth. -/
noncomputable def Try.pinned : Pinned := { name := "ythleghjkdggdlaa", sum := "7008a0f9ae4bd01a71cd2a9d60f934504cfc71c1b3b93fa228ad341737cec45b", checked := Try.checked }
namespace Rows
def none {H : Type} : Left H := { results := [], args := [] }

/-- 'marigraphlaw05.LabelRight': WHATEVER THE INPUT: true; the input reads as it did. -/
def labelRightSpec : ChangeSpec := { name := "labelRight", fn := fun _ => fun
  | [d1, d2] => { results := [.lit (.bool true)], args := [d1, d2] }
  | _ => none }
def labelRightRow : OpenClaim := { program := "ythleghjkdggdlaa", sum := "7008a0f9ae4bd01a71cd2a9d60f934504cfc71c1b3b93fa228ad341737cec45b", func := "marigraph/marigraphlaw05.LabelRight", spec := "labelRight", unfollowed := true, recurses := true, apart := false }
def LabelRightSaid : Prop := labelRightRow.holds Try.pinned (OpenSpec.ofChange labelRightSpec)

/-- ITS FALSE NEIGHBOUR: 'it returns false'. Refute it at one input. -/
def labelRightWrong : ChangeSpec := { name := "labelRight", fn := fun _ => fun
  | [d1, d2] => { results := [.lit (.bool false)], args := [d1, d2] }
  | _ => none }
def LabelRightWrongFalsely : Prop := labelRightRow.holds Try.pinned (OpenSpec.ofChange labelRightWrong)

/-- 'marigraphlaw05.LabelSorted': WHATEVER THE INPUT: true; the input reads as it did. -/
def labelSortedSpec : ChangeSpec := { name := "labelSorted", fn := fun _ => fun
  | [d1, d2] => { results := [.lit (.bool true)], args := [d1, d2] }
  | _ => none }
def labelSortedRow : OpenClaim := { program := "ythleghjkdggdlaa", sum := "7008a0f9ae4bd01a71cd2a9d60f934504cfc71c1b3b93fa228ad341737cec45b", func := "marigraph/marigraphlaw05.LabelSorted", spec := "labelSorted", unfollowed := true, recurses := true, apart := false }
def LabelSortedSaid : Prop := labelSortedRow.holds Try.pinned (OpenSpec.ofChange labelSortedSpec)

/-- ITS FALSE NEIGHBOUR: 'it returns false'. Refute it at one input. -/
def labelSortedWrong : ChangeSpec := { name := "labelSorted", fn := fun _ => fun
  | [d1, d2] => { results := [.lit (.bool false)], args := [d1, d2] }
  | _ => none }
def LabelSortedWrongFalsely : Prop := labelSortedRow.holds Try.pinned (OpenSpec.ofChange labelSortedWrong)

/-- 'marigraphlaw05.LabelKey': WHATEVER THE INPUT: true; the input reads as it did. -/
def labelKeySpec : ChangeSpec := { name := "labelKey", fn := fun _ => fun
  | [d1, d2] => { results := [.lit (.bool true)], args := [d1, d2] }
  | _ => none }
def labelKeyRow : OpenClaim := { program := "ythleghjkdggdlaa", sum := "7008a0f9ae4bd01a71cd2a9d60f934504cfc71c1b3b93fa228ad341737cec45b", func := "marigraph/marigraphlaw05.LabelKey", spec := "labelKey", unfollowed := true, recurses := true, apart := false }
def LabelKeySaid : Prop := labelKeyRow.holds Try.pinned (OpenSpec.ofChange labelKeySpec)

/-- ITS FALSE NEIGHBOUR: 'it returns false'. Refute it at one input. -/
def labelKeyWrong : ChangeSpec := { name := "labelKey", fn := fun _ => fun
  | [d1, d2] => { results := [.lit (.bool false)], args := [d1, d2] }
  | _ => none }
def LabelKeyWrongFalsely : Prop := labelKeyRow.holds Try.pinned (OpenSpec.ofChange labelKeyWrong)

/-- 'marigraphlaw05.LabelOnly': WHATEVER THE INPUT: true; the input reads as it did. -/
def labelOnlySpec : ChangeSpec := { name := "labelOnly", fn := fun _ => fun
  | [d] => { results := [.lit (.bool true)], args := [d] }
  | _ => none }
def labelOnlyRow : OpenClaim := { program := "ythleghjkdggdlaa", sum := "7008a0f9ae4bd01a71cd2a9d60f934504cfc71c1b3b93fa228ad341737cec45b", func := "marigraph/marigraphlaw05.LabelOnly", spec := "labelOnly", unfollowed := true, recurses := true, apart := false }
def LabelOnlySaid : Prop := labelOnlyRow.holds Try.pinned (OpenSpec.ofChange labelOnlySpec)

/-- ITS FALSE NEIGHBOUR: 'it returns false'. Refute it at one input. -/
def labelOnlyWrong : ChangeSpec := { name := "labelOnly", fn := fun _ => fun
  | [d] => { results := [.lit (.bool false)], args := [d] }
  | _ => none }
def LabelOnlyWrongFalsely : Prop := labelOnlyRow.holds Try.pinned (OpenSpec.ofChange labelOnlyWrong)

/-- 'marigraphlaw05.LabelStands': WHATEVER THE INPUT: true; the input reads as it did. -/
def labelStandsSpec : ChangeSpec := { name := "labelStands", fn := fun _ => fun
  | [d1, d2, d3, d4] => { results := [.lit (.bool true)], args := [d1, d2, d3, d4] }
  | _ => none }
def labelStandsRow : OpenClaim := { program := "ythleghjkdggdlaa", sum := "7008a0f9ae4bd01a71cd2a9d60f934504cfc71c1b3b93fa228ad341737cec45b", func := "marigraph/marigraphlaw05.LabelStands", spec := "labelStands", unfollowed := true, recurses := true, apart := false }
def LabelStandsSaid : Prop := labelStandsRow.holds Try.pinned (OpenSpec.ofChange labelStandsSpec)

/-- ITS FALSE NEIGHBOUR: 'it returns false'. Refute it at one input. -/
def labelStandsWrong : ChangeSpec := { name := "labelStands", fn := fun _ => fun
  | [d1, d2, d3, d4] => { results := [.lit (.bool false)], args := [d1, d2, d3, d4] }
  | _ => none }
def LabelStandsWrongFalsely : Prop := labelStandsRow.holds Try.pinned (OpenSpec.ofChange labelStandsWrong)

/-- 'marigraphlaw05.LabelPuts': WHATEVER THE INPUT: true; the input reads as it did. -/
def labelPutsSpec : ChangeSpec := { name := "labelPuts", fn := fun _ => fun
  | [d1, d2] => { results := [.lit (.bool true)], args := [d1, d2] }
  | _ => none }
def labelPutsRow : OpenClaim := { program := "ythleghjkdggdlaa", sum := "7008a0f9ae4bd01a71cd2a9d60f934504cfc71c1b3b93fa228ad341737cec45b", func := "marigraph/marigraphlaw05.LabelPuts", spec := "labelPuts", unfollowed := true, recurses := true, apart := false }
def LabelPutsSaid : Prop := labelPutsRow.holds Try.pinned (OpenSpec.ofChange labelPutsSpec)

/-- ITS FALSE NEIGHBOUR: 'it returns false'. Refute it at one input. -/
def labelPutsWrong : ChangeSpec := { name := "labelPuts", fn := fun _ => fun
  | [d1, d2] => { results := [.lit (.bool false)], args := [d1, d2] }
  | _ => none }
def LabelPutsWrongFalsely : Prop := labelPutsRow.holds Try.pinned (OpenSpec.ofChange labelPutsWrong)

/-- 'marigraphlaw05.LabelBack': WHATEVER THE INPUT: true; the input reads as it did. -/
def labelBackSpec : ChangeSpec := { name := "labelBack", fn := fun _ => fun
  | [d1, d2] => { results := [.lit (.bool true)], args := [d1, d2] }
  | _ => none }
def labelBackRow : OpenClaim := { program := "ythleghjkdggdlaa", sum := "7008a0f9ae4bd01a71cd2a9d60f934504cfc71c1b3b93fa228ad341737cec45b", func := "marigraph/marigraphlaw05.LabelBack", spec := "labelBack", unfollowed := true, recurses := true, apart := false }
def LabelBackSaid : Prop := labelBackRow.holds Try.pinned (OpenSpec.ofChange labelBackSpec)

/-- ITS FALSE NEIGHBOUR: 'it returns false'. Refute it at one input. -/
def labelBackWrong : ChangeSpec := { name := "labelBack", fn := fun _ => fun
  | [d1, d2] => { results := [.lit (.bool false)], args := [d1, d2] }
  | _ => none }
def LabelBackWrongFalsely : Prop := labelBackRow.holds Try.pinned (OpenSpec.ofChange labelBackWrong)

/- THE SECOND FORM. 'bulk': how many values and letters a reading holds, each counted each time it is reached (what is shared counts as often as it is met; a slice's spare places count too). A statement '..UptoSaid' is the law's where the arguments, and the package variables that the reading takes, are together of bulk at most 1048576: NARROWER than '..Said'. Prove '..Said' where nothing that the law and all that it calls make is longer than what came in: it says more and counts as full. Else prove '..UptoSaid'. A law counts once. -/
mutual
def uptoBulk {H : Type} : DataW H → Nat
  | .lit (.string bytes) => bytes.length + 1
  | .lit _ => 1
  | .nil => 1
  | .ptr d => uptoBulk d + 1
  | .slice elems spare => uptoBulkAll elems + uptoBulkAll spare + 1
  | .agg parts => uptoBulkAll parts + 1
  | .iface _ d => uptoBulk d + 1
  | .map entries => uptoBulkEntries entries + 1
  | .held _ => 1
def uptoBulkAll {H : Type} : List (DataW H) → Nat
  | [] => 0
  | d :: r => uptoBulk d + uptoBulkAll r
def uptoBulkEntries {H : Type} : List (Lit × DataW H) → Nat
  | [] => 0
  | x :: r => uptoBulkEntry x + uptoBulkEntries r
def uptoBulkEntry {H : Type} : Lit × DataW H → Nat
  | (.string bytes, d) => bytes.length + uptoBulk d + 1
  | (_, d) => uptoBulk d + 1
 end
def uptoSmall : (H : Type) → List (DataW H) → Bool := fun _ ds => decide (uptoBulkAll ds ≤ 1048576)
def OpenSpec.upto (s : _root_.Go.ChangeSpec) : _root_.Go.OpenSpec := { _root_.Go.OpenSpec.ofChange s with cond := some uptoSmall }

/-- 'marigraphlaw05.LabelRight', WHERE WHAT IT READS IS OF BULK AT MOST 1048576: true; the input reads as it did. -/
def labelRightUptoRow : OpenClaim := { program := "ythleghjkdggdlaa", sum := "7008a0f9ae4bd01a71cd2a9d60f934504cfc71c1b3b93fa228ad341737cec45b", func := "marigraph/marigraphlaw05.LabelRight", spec := "labelRight", unfollowed := true, recurses := true, apart := false, narrowed := true }
def LabelRightUptoSaid : Prop := labelRightUptoRow.holds Try.pinned (OpenSpec.upto labelRightSpec)

/-- 'marigraphlaw05.LabelSorted', WHERE WHAT IT READS IS OF BULK AT MOST 1048576: true; the input reads as it did. -/
def labelSortedUptoRow : OpenClaim := { program := "ythleghjkdggdlaa", sum := "7008a0f9ae4bd01a71cd2a9d60f934504cfc71c1b3b93fa228ad341737cec45b", func := "marigraph/marigraphlaw05.LabelSorted", spec := "labelSorted", unfollowed := true, recurses := true, apart := false, narrowed := true }
def LabelSortedUptoSaid : Prop := labelSortedUptoRow.holds Try.pinned (OpenSpec.upto labelSortedSpec)

/-- 'marigraphlaw05.LabelKey', WHERE WHAT IT READS IS OF BULK AT MOST 1048576: true; the input reads as it did. -/
def labelKeyUptoRow : OpenClaim := { program := "ythleghjkdggdlaa", sum := "7008a0f9ae4bd01a71cd2a9d60f934504cfc71c1b3b93fa228ad341737cec45b", func := "marigraph/marigraphlaw05.LabelKey", spec := "labelKey", unfollowed := true, recurses := true, apart := false, narrowed := true }
def LabelKeyUptoSaid : Prop := labelKeyUptoRow.holds Try.pinned (OpenSpec.upto labelKeySpec)

/-- 'marigraphlaw05.LabelOnly', WHERE WHAT IT READS IS OF BULK AT MOST 1048576: true; the input reads as it did. -/
def labelOnlyUptoRow : OpenClaim := { program := "ythleghjkdggdlaa", sum := "7008a0f9ae4bd01a71cd2a9d60f934504cfc71c1b3b93fa228ad341737cec45b", func := "marigraph/marigraphlaw05.LabelOnly", spec := "labelOnly", unfollowed := true, recurses := true, apart := false, narrowed := true }
def LabelOnlyUptoSaid : Prop := labelOnlyUptoRow.holds Try.pinned (OpenSpec.upto labelOnlySpec)

/-- 'marigraphlaw05.LabelStands', WHERE WHAT IT READS IS OF BULK AT MOST 1048576: true; the input reads as it did. -/
def labelStandsUptoRow : OpenClaim := { program := "ythleghjkdggdlaa", sum := "7008a0f9ae4bd01a71cd2a9d60f934504cfc71c1b3b93fa228ad341737cec45b", func := "marigraph/marigraphlaw05.LabelStands", spec := "labelStands", unfollowed := true, recurses := true, apart := false, narrowed := true }
def LabelStandsUptoSaid : Prop := labelStandsUptoRow.holds Try.pinned (OpenSpec.upto labelStandsSpec)

/-- 'marigraphlaw05.LabelPuts', WHERE WHAT IT READS IS OF BULK AT MOST 1048576: true; the input reads as it did. -/
def labelPutsUptoRow : OpenClaim := { program := "ythleghjkdggdlaa", sum := "7008a0f9ae4bd01a71cd2a9d60f934504cfc71c1b3b93fa228ad341737cec45b", func := "marigraph/marigraphlaw05.LabelPuts", spec := "labelPuts", unfollowed := true, recurses := true, apart := false, narrowed := true }
def LabelPutsUptoSaid : Prop := labelPutsUptoRow.holds Try.pinned (OpenSpec.upto labelPutsSpec)

/-- 'marigraphlaw05.LabelBack', WHERE WHAT IT READS IS OF BULK AT MOST 1048576: true; the input reads as it did. -/
def labelBackUptoRow : OpenClaim := { program := "ythleghjkdggdlaa", sum := "7008a0f9ae4bd01a71cd2a9d60f934504cfc71c1b3b93fa228ad341737cec45b", func := "marigraph/marigraphlaw05.LabelBack", spec := "labelBack", unfollowed := true, recurses := true, apart := false, narrowed := true }
def LabelBackUptoSaid : Prop := labelBackUptoRow.holds Try.pinned (OpenSpec.upto labelBackSpec)

end Rows
end Go.Proofs.Ythleghjkdggdlaa
