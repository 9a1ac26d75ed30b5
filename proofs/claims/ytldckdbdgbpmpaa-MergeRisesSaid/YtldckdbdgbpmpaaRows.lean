/-
  No cell of these rows narrows 'for every input' (looked for: loops, veiled, ifaces, maps, wideKeys, modest, calm, conditions, laid).
  DERIVED. THE GIVEN ROWS OF THIS SEAT. 7 by the template 'for every input the law returns true; each argument reads behind the call as it read before'; 0 by the template 'total and deterministic' (their statements: YtldckdbdgbpmpaaTotals.lean).
  GIVEN WITH THE SEED: the statements are not yours to turn. If you find one false, say at which input.
  Laid BY PROGRAM, IN A SANDBOX (cutbox-rows.mjs): the forced cells as the released guide's own fill.sh prints them over the translation 1634095eb5ef032c… (all of the seat's roots in one cut). By AI agents, Wed Nov 11 2026. No macro, syntax, notation, axiom, sorry.
-/
import Derived.Test.YtldckdbdgbpmpaaChecked
import GoSem.Claim
import GoSem.ClaimJoined
import GoSem.ClaimMapViews
import Derived.JoinedTies
import Derived.KernelRfl
namespace Go.Proofs.Ytldckdbdgbpmpaa
/- THE CELL 'sum', in the pinned program and in every row, IS THE sha256 OF THE DUMP (.gsa) THAT YtldckdbdgbpmpaaProg.lean LOADS. Nothing in Lean hashes anything: it is a label: what it is worth is what the hold of that sum in a sandbox is worth. -/
noncomputable def Try.pinned : Pinned := { name := "ytldckdbdgbpmpaa", sum := "1634095eb5ef032c498bfe24f44bd08e74c3f1282aefe6aa5d43801794cc9958", checked := Try.checked }
namespace Rows
def none {H : Type} : Left H := { results := [], args := [] }

/-- 'marigraphlaw10.MergeAll': WHATEVER THE INPUT: true; the input reads as it did. -/
def mergeAllSpec : ChangeSpec := { name := "mergeAll", fn := fun _ => fun
  | [d] => { results := [.lit (.bool true)], args := [d] }
  | _ => none }
def mergeAllRow : OpenClaim := { program := "ytldckdbdgbpmpaa", sum := "1634095eb5ef032c498bfe24f44bd08e74c3f1282aefe6aa5d43801794cc9958", func := "marigraph/marigraphlaw10.MergeAll", spec := "mergeAll", unfollowed := true, recurses := true, apart := false }
def MergeAllSaid : Prop := mergeAllRow.holds Try.pinned (OpenSpec.ofChange mergeAllSpec)

/-- ITS FALSE NEIGHBOUR: 'it returns false'. Refute it at one input. -/
def mergeAllWrong : ChangeSpec := { name := "mergeAll", fn := fun _ => fun
  | [d] => { results := [.lit (.bool false)], args := [d] }
  | _ => none }
def MergeAllWrongFalsely : Prop := mergeAllRow.holds Try.pinned (OpenSpec.ofChange mergeAllWrong)

/-- 'marigraphlaw10.MergeParts': WHATEVER THE INPUT: true; the input reads as it did. -/
def mergePartsSpec : ChangeSpec := { name := "mergeParts", fn := fun _ => fun
  | [d1, d2, d3] => { results := [.lit (.bool true)], args := [d1, d2, d3] }
  | _ => none }
def mergePartsRow : OpenClaim := { program := "ytldckdbdgbpmpaa", sum := "1634095eb5ef032c498bfe24f44bd08e74c3f1282aefe6aa5d43801794cc9958", func := "marigraph/marigraphlaw10.MergeParts", spec := "mergeParts", unfollowed := true, recurses := true, apart := false }
def MergePartsSaid : Prop := mergePartsRow.holds Try.pinned (OpenSpec.ofChange mergePartsSpec)

/-- ITS FALSE NEIGHBOUR: 'it returns false'. Refute it at one input. -/
def mergePartsWrong : ChangeSpec := { name := "mergeParts", fn := fun _ => fun
  | [d1, d2, d3] => { results := [.lit (.bool false)], args := [d1, d2, d3] }
  | _ => none }
def MergePartsWrongFalsely : Prop := mergePartsRow.holds Try.pinned (OpenSpec.ofChange mergePartsWrong)

/-- 'marigraphlaw10.MergeRises': WHATEVER THE INPUT: true; the input reads as it did. -/
def mergeRisesSpec : ChangeSpec := { name := "mergeRises", fn := fun _ => fun
  | [d] => { results := [.lit (.bool true)], args := [d] }
  | _ => none }
def mergeRisesRow : OpenClaim := { program := "ytldckdbdgbpmpaa", sum := "1634095eb5ef032c498bfe24f44bd08e74c3f1282aefe6aa5d43801794cc9958", func := "marigraph/marigraphlaw10.MergeRises", spec := "mergeRises", unfollowed := true, recurses := true, apart := false }
def MergeRisesSaid : Prop := mergeRisesRow.holds Try.pinned (OpenSpec.ofChange mergeRisesSpec)

/-- ITS FALSE NEIGHBOUR: 'it returns false'. Refute it at one input. -/
def mergeRisesWrong : ChangeSpec := { name := "mergeRises", fn := fun _ => fun
  | [d] => { results := [.lit (.bool false)], args := [d] }
  | _ => none }
def MergeRisesWrongFalsely : Prop := mergeRisesRow.holds Try.pinned (OpenSpec.ofChange mergeRisesWrong)

/-- 'marigraphlaw10.MergeOrder': WHATEVER THE INPUT: true; the input reads as it did. -/
def mergeOrderSpec : ChangeSpec := { name := "mergeOrder", fn := fun _ => fun
  | [d1, d2] => { results := [.lit (.bool true)], args := [d1, d2] }
  | _ => none }
def mergeOrderRow : OpenClaim := { program := "ytldckdbdgbpmpaa", sum := "1634095eb5ef032c498bfe24f44bd08e74c3f1282aefe6aa5d43801794cc9958", func := "marigraph/marigraphlaw10.MergeOrder", spec := "mergeOrder", unfollowed := true, recurses := true, apart := false }
def MergeOrderSaid : Prop := mergeOrderRow.holds Try.pinned (OpenSpec.ofChange mergeOrderSpec)

/-- ITS FALSE NEIGHBOUR: 'it returns false'. Refute it at one input. -/
def mergeOrderWrong : ChangeSpec := { name := "mergeOrder", fn := fun _ => fun
  | [d1, d2] => { results := [.lit (.bool false)], args := [d1, d2] }
  | _ => none }
def MergeOrderWrongFalsely : Prop := mergeOrderRow.holds Try.pinned (OpenSpec.ofChange mergeOrderWrong)

/-- 'marigraphlaw10.MergeNone': WHATEVER THE INPUT: true; the input reads as it did. -/
def mergeNoneSpec : ChangeSpec := { name := "mergeNone", fn := fun _ => fun
  | [d] => { results := [.lit (.bool true)], args := [d] }
  | _ => none }
def mergeNoneRow : OpenClaim := { program := "ytldckdbdgbpmpaa", sum := "1634095eb5ef032c498bfe24f44bd08e74c3f1282aefe6aa5d43801794cc9958", func := "marigraph/marigraphlaw10.MergeNone", spec := "mergeNone", unfollowed := true, recurses := true, apart := false }
def MergeNoneSaid : Prop := mergeNoneRow.holds Try.pinned (OpenSpec.ofChange mergeNoneSpec)

/-- ITS FALSE NEIGHBOUR: 'it returns false'. Refute it at one input. -/
def mergeNoneWrong : ChangeSpec := { name := "mergeNone", fn := fun _ => fun
  | [d] => { results := [.lit (.bool false)], args := [d] }
  | _ => none }
def MergeNoneWrongFalsely : Prop := mergeNoneRow.holds Try.pinned (OpenSpec.ofChange mergeNoneWrong)

/-- 'marigraphlaw10.MergeOf': WHATEVER THE INPUT: true; the input reads as it did. -/
def mergeOfSpec : ChangeSpec := { name := "mergeOf", fn := fun _ => fun
  | [d1, d2, d3] => { results := [.lit (.bool true)], args := [d1, d2, d3] }
  | _ => none }
def mergeOfRow : OpenClaim := { program := "ytldckdbdgbpmpaa", sum := "1634095eb5ef032c498bfe24f44bd08e74c3f1282aefe6aa5d43801794cc9958", func := "marigraph/marigraphlaw10.MergeOf", spec := "mergeOf", unfollowed := true, recurses := true, apart := false }
def MergeOfSaid : Prop := mergeOfRow.holds Try.pinned (OpenSpec.ofChange mergeOfSpec)

/-- ITS FALSE NEIGHBOUR: 'it returns false'. Refute it at one input. -/
def mergeOfWrong : ChangeSpec := { name := "mergeOf", fn := fun _ => fun
  | [d1, d2, d3] => { results := [.lit (.bool false)], args := [d1, d2, d3] }
  | _ => none }
def MergeOfWrongFalsely : Prop := mergeOfRow.holds Try.pinned (OpenSpec.ofChange mergeOfWrong)

/-- 'marigraphlaw10.MergeSplits': WHATEVER THE INPUT: true; the input reads as it did. -/
def mergeSplitsSpec : ChangeSpec := { name := "mergeSplits", fn := fun _ => fun
  | [d1, d2] => { results := [.lit (.bool true)], args := [d1, d2] }
  | _ => none }
def mergeSplitsRow : OpenClaim := { program := "ytldckdbdgbpmpaa", sum := "1634095eb5ef032c498bfe24f44bd08e74c3f1282aefe6aa5d43801794cc9958", func := "marigraph/marigraphlaw10.MergeSplits", spec := "mergeSplits", unfollowed := true, recurses := true, apart := false }
def MergeSplitsSaid : Prop := mergeSplitsRow.holds Try.pinned (OpenSpec.ofChange mergeSplitsSpec)

/-- ITS FALSE NEIGHBOUR: 'it returns false'. Refute it at one input. -/
def mergeSplitsWrong : ChangeSpec := { name := "mergeSplits", fn := fun _ => fun
  | [d1, d2] => { results := [.lit (.bool false)], args := [d1, d2] }
  | _ => none }
def MergeSplitsWrongFalsely : Prop := mergeSplitsRow.holds Try.pinned (OpenSpec.ofChange mergeSplitsWrong)

/- THE SECOND FORM. 'bulk': how many values and letters a reading holds, each counted each time it is reached (what is shared counts as often as it is met; a slice's spare places count too). A statement '..UptoSaid' is the law's where the arguments, and the package variables that the reading takes, are together of bulk at most 1048576: NARROWER than '..Said'. Prove '..Said' where nothing that the law and all that it calls make is longer than what came in: it says more and counts as full. Else prove '..UptoSaid'. A law counts once. -/
mutual
def uptoBulk {H : Type} : DataW H → Nat
  | .lit (.string bytes) => bytes.length + 1
  | .lit _ => 1
  | .nil => 1
  | .ptr d => uptoBulk d + 1
  | .slice elems spare => uptoBulkAll elems + uptoBulkAll spare + 1
  | .agg parts => uptoBulkAll parts + 1
  | .iface _ d => uptoBulk d + 1
  | .map entries => uptoBulkEntries entries + 1
  | .held _ => 1
def uptoBulkAll {H : Type} : List (DataW H) → Nat
  | [] => 0
  | d :: r => uptoBulk d + uptoBulkAll r
def uptoBulkEntries {H : Type} : List (Lit × DataW H) → Nat
  | [] => 0
  | x :: r => uptoBulkEntry x + uptoBulkEntries r
def uptoBulkEntry {H : Type} : Lit × DataW H → Nat
  | (.string bytes, d) => bytes.length + uptoBulk d + 1
  | (_, d) => uptoBulk d + 1
 end
def uptoSmall : (H : Type) → List (DataW H) → Bool := fun _ ds => decide (uptoBulkAll ds ≤ 1048576)
def OpenSpec.upto (s : _root_.Go.ChangeSpec) : _root_.Go.OpenSpec := { _root_.Go.OpenSpec.ofChange s with cond := some uptoSmall }

/-- 'marigraphlaw10.MergeAll', WHERE WHAT IT READS IS OF BULK AT MOST 1048576: true; the input reads as it did. -/
def mergeAllUptoRow : OpenClaim := { program := "ytldckdbdgbpmpaa", sum := "1634095eb5ef032c498bfe24f44bd08e74c3f1282aefe6aa5d43801794cc9958", func := "marigraph/marigraphlaw10.MergeAll", spec := "mergeAll", unfollowed := true, recurses := true, apart := false, narrowed := true }
def MergeAllUptoSaid : Prop := mergeAllUptoRow.holds Try.pinned (OpenSpec.upto mergeAllSpec)

/-- 'marigraphlaw10.MergeParts', WHERE WHAT IT READS IS OF BULK AT MOST 1048576: true; the input reads as it did. -/
def mergePartsUptoRow : OpenClaim := { program := "ytldckdbdgbpmpaa", sum := "1634095eb5ef032c498bfe24f44bd08e74c3f1282aefe6aa5d43801794cc9958", func := "marigraph/marigraphlaw10.MergeParts", spec := "mergeParts", unfollowed := true, recurses := true, apart := false, narrowed := true }
def MergePartsUptoSaid : Prop := mergePartsUptoRow.holds Try.pinned (OpenSpec.upto mergePartsSpec)

/-- 'marigraphlaw10.MergeRises', WHERE WHAT IT READS IS OF BULK AT MOST 1048576: true; the input reads as it did. -/
def mergeRisesUptoRow : OpenClaim := { program := "ytldckdbdgbpmpaa", sum := "1634095eb5ef032c498bfe24f44bd08e74c3f1282aefe6aa5d43801794cc9958", func := "marigraph/marigraphlaw10.MergeRises", spec := "mergeRises", unfollowed := true, recurses := true, apart := false, narrowed := true }
def MergeRisesUptoSaid : Prop := mergeRisesUptoRow.holds Try.pinned (OpenSpec.upto mergeRisesSpec)

/-- 'marigraphlaw10.MergeOrder', WHERE WHAT IT READS IS OF BULK AT MOST 1048576: true; the input reads as it did. -/
def mergeOrderUptoRow : OpenClaim := { program := "ytldckdbdgbpmpaa", sum := "1634095eb5ef032c498bfe24f44bd08e74c3f1282aefe6aa5d43801794cc9958", func := "marigraph/marigraphlaw10.MergeOrder", spec := "mergeOrder", unfollowed := true, recurses := true, apart := false, narrowed := true }
def MergeOrderUptoSaid : Prop := mergeOrderUptoRow.holds Try.pinned (OpenSpec.upto mergeOrderSpec)

/-- 'marigraphlaw10.MergeNone', WHERE WHAT IT READS IS OF BULK AT MOST 1048576: true; the input reads as it did. -/
def mergeNoneUptoRow : OpenClaim := { program := "ytldckdbdgbpmpaa", sum := "1634095eb5ef032c498bfe24f44bd08e74c3f1282aefe6aa5d43801794cc9958", func := "marigraph/marigraphlaw10.MergeNone", spec := "mergeNone", unfollowed := true, recurses := true, apart := false, narrowed := true }
def MergeNoneUptoSaid : Prop := mergeNoneUptoRow.holds Try.pinned (OpenSpec.upto mergeNoneSpec)

/-- 'marigraphlaw10.MergeOf', WHERE WHAT IT READS IS OF BULK AT MOST 1048576: true; the input reads as it did. -/
def mergeOfUptoRow : OpenClaim := { program := "ytldckdbdgbpmpaa", sum := "1634095eb5ef032c498bfe24f44bd08e74c3f1282aefe6aa5d43801794cc9958", func := "marigraph/marigraphlaw10.MergeOf", spec := "mergeOf", unfollowed := true, recurses := true, apart := false, narrowed := true }
def MergeOfUptoSaid : Prop := mergeOfUptoRow.holds Try.pinned (OpenSpec.upto mergeOfSpec)

/-- 'marigraphlaw10.MergeSplits', WHERE WHAT IT READS IS OF BULK AT MOST 1048576: true; the input reads as it did. -/
def mergeSplitsUptoRow : OpenClaim := { program := "ytldckdbdgbpmpaa", sum := "1634095eb5ef032c498bfe24f44bd08e74c3f1282aefe6aa5d43801794cc9958", func := "marigraph/marigraphlaw10.MergeSplits", spec := "mergeSplits", unfollowed := true, recurses := true, apart := false, narrowed := true }
def MergeSplitsUptoSaid : Prop := mergeSplitsUptoRow.holds Try.pinned (OpenSpec.upto mergeSplitsSpec)

end Rows
end Go.Proofs.Ytldckdbdgbpmpaa
