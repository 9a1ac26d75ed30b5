/-
  No cell of these rows narrows 'for every input' (looked for: loops, veiled, ifaces, maps, wideKeys, modest, calm, conditions, laid).
  DERIVED. THE GIVEN ROWS OF THIS SEAT. 6 by the template 'for every input the law returns true; each argument reads behind the call as it read before'; 0 by the template 'total and deterministic' (their statements: YtkadildabhkocaaTotals.lean).
  GIVEN WITH THE SEED: the statements are not yours to turn. If you find one false, say at which input.
  Laid BY PROGRAM, IN A SANDBOX (cutbox-rows.mjs): the forced cells as the released guide's own fill.sh prints them over the translation f55e337bfd1218e1… (all of the seat's roots in one cut). By AI agents, Wed Nov 11 2026. No macro, syntax, notation, axiom, sorry.
-/
import Derived.Test.YtkadildabhkocaaChecked
import GoSem.Claim
import GoSem.ClaimJoined
import GoSem.ClaimMapViews
import Derived.JoinedTies
import Derived.KernelRfl
namespace Go.Proofs.Ytkadildabhkocaa
/- THE CELL 'sum', in the pinned program and in every row, IS THE sha256 OF THE DUMP (.gsa) THAT YtkadildabhkocaaProg.lean LOADS. Nothing in Lean hashes anything: it is a label: what it is worth is what the hold of that sum in a sandbox is worth. -/
noncomputable def Try.pinned : Pinned := { name := "ytkadildabhkocaa", sum := "f55e337bfd1218e1862aceaf924fd66ed4c904460310234aeeeb007047352ecc", checked := Try.checked }
namespace Rows
def none {H : Type} : Left H := { results := [], args := [] }

/-- 'marigraphlaw14.OpPuts': WHATEVER THE INPUT: true; the input reads as it did. -/
def opPutsSpec : ChangeSpec := { name := "opPuts", fn := fun _ => fun
  | [d1, d2] => { results := [.lit (.bool true)], args := [d1, d2] }
  | _ => none }
def opPutsRow : OpenClaim := { program := "ytkadildabhkocaa", sum := "f55e337bfd1218e1862aceaf924fd66ed4c904460310234aeeeb007047352ecc", func := "marigraph/marigraphlaw14.OpPuts", spec := "opPuts", unfollowed := true, recurses := true, apart := false }
def OpPutsSaid : Prop := opPutsRow.holds Try.pinned (OpenSpec.ofChange opPutsSpec)

/-- ITS FALSE NEIGHBOUR: 'it returns false'. Refute it at one input. -/
def opPutsWrong : ChangeSpec := { name := "opPuts", fn := fun _ => fun
  | [d1, d2] => { results := [.lit (.bool false)], args := [d1, d2] }
  | _ => none }
def OpPutsWrongFalsely : Prop := opPutsRow.holds Try.pinned (OpenSpec.ofChange opPutsWrong)

/-- 'marigraphlaw14.OpKinds': WHATEVER THE INPUT: true; the input reads as it did. -/
def opKindsSpec : ChangeSpec := { name := "opKinds", fn := fun _ => fun
  | [d1, d2] => { results := [.lit (.bool true)], args := [d1, d2] }
  | _ => none }
def opKindsRow : OpenClaim := { program := "ytkadildabhkocaa", sum := "f55e337bfd1218e1862aceaf924fd66ed4c904460310234aeeeb007047352ecc", func := "marigraph/marigraphlaw14.OpKinds", spec := "opKinds", unfollowed := true, recurses := true, apart := false }
def OpKindsSaid : Prop := opKindsRow.holds Try.pinned (OpenSpec.ofChange opKindsSpec)

/-- ITS FALSE NEIGHBOUR: 'it returns false'. Refute it at one input. -/
def opKindsWrong : ChangeSpec := { name := "opKinds", fn := fun _ => fun
  | [d1, d2] => { results := [.lit (.bool false)], args := [d1, d2] }
  | _ => none }
def OpKindsWrongFalsely : Prop := opKindsRow.holds Try.pinned (OpenSpec.ofChange opKindsWrong)

/-- 'marigraphlaw14.OpTakes': WHATEVER THE INPUT: true; the input reads as it did. -/
def opTakesSpec : ChangeSpec := { name := "opTakes", fn := fun _ => fun
  | [d] => { results := [.lit (.bool true)], args := [d] }
  | _ => none }
def opTakesRow : OpenClaim := { program := "ytkadildabhkocaa", sum := "f55e337bfd1218e1862aceaf924fd66ed4c904460310234aeeeb007047352ecc", func := "marigraph/marigraphlaw14.OpTakes", spec := "opTakes", unfollowed := true, recurses := true, apart := false }
def OpTakesSaid : Prop := opTakesRow.holds Try.pinned (OpenSpec.ofChange opTakesSpec)

/-- ITS FALSE NEIGHBOUR: 'it returns false'. Refute it at one input. -/
def opTakesWrong : ChangeSpec := { name := "opTakes", fn := fun _ => fun
  | [d] => { results := [.lit (.bool false)], args := [d] }
  | _ => none }
def OpTakesWrongFalsely : Prop := opTakesRow.holds Try.pinned (OpenSpec.ofChange opTakesWrong)

/-- 'marigraphlaw14.OpBack': WHATEVER THE INPUT: true; the input reads as it did. -/
def opBackSpec : ChangeSpec := { name := "opBack", fn := fun _ => fun
  | [d1, d2] => { results := [.lit (.bool true)], args := [d1, d2] }
  | _ => none }
def opBackRow : OpenClaim := { program := "ytkadildabhkocaa", sum := "f55e337bfd1218e1862aceaf924fd66ed4c904460310234aeeeb007047352ecc", func := "marigraph/marigraphlaw14.OpBack", spec := "opBack", unfollowed := true, recurses := true, apart := false }
def OpBackSaid : Prop := opBackRow.holds Try.pinned (OpenSpec.ofChange opBackSpec)

/-- ITS FALSE NEIGHBOUR: 'it returns false'. Refute it at one input. -/
def opBackWrong : ChangeSpec := { name := "opBack", fn := fun _ => fun
  | [d1, d2] => { results := [.lit (.bool false)], args := [d1, d2] }
  | _ => none }
def OpBackWrongFalsely : Prop := opBackRow.holds Try.pinned (OpenSpec.ofChange opBackWrong)

/-- 'marigraphlaw14.OpMany': WHATEVER THE INPUT: true; the input reads as it did. -/
def opManySpec : ChangeSpec := { name := "opMany", fn := fun _ => fun
  | [d] => { results := [.lit (.bool true)], args := [d] }
  | _ => none }
def opManyRow : OpenClaim := { program := "ytkadildabhkocaa", sum := "f55e337bfd1218e1862aceaf924fd66ed4c904460310234aeeeb007047352ecc", func := "marigraph/marigraphlaw14.OpMany", spec := "opMany", unfollowed := true, recurses := true, apart := false }
def OpManySaid : Prop := opManyRow.holds Try.pinned (OpenSpec.ofChange opManySpec)

/-- ITS FALSE NEIGHBOUR: 'it returns false'. Refute it at one input. -/
def opManyWrong : ChangeSpec := { name := "opMany", fn := fun _ => fun
  | [d] => { results := [.lit (.bool false)], args := [d] }
  | _ => none }
def OpManyWrongFalsely : Prop := opManyRow.holds Try.pinned (OpenSpec.ofChange opManyWrong)

/-- 'marigraphlaw14.OpCut': WHATEVER THE INPUT: true; the input reads as it did. -/
def opCutSpec : ChangeSpec := { name := "opCut", fn := fun _ => fun
  | [d1, d2] => { results := [.lit (.bool true)], args := [d1, d2] }
  | _ => none }
def opCutRow : OpenClaim := { program := "ytkadildabhkocaa", sum := "f55e337bfd1218e1862aceaf924fd66ed4c904460310234aeeeb007047352ecc", func := "marigraph/marigraphlaw14.OpCut", spec := "opCut", unfollowed := true, recurses := true, apart := false }
def OpCutSaid : Prop := opCutRow.holds Try.pinned (OpenSpec.ofChange opCutSpec)

/-- ITS FALSE NEIGHBOUR: 'it returns false'. Refute it at one input. -/
def opCutWrong : ChangeSpec := { name := "opCut", fn := fun _ => fun
  | [d1, d2] => { results := [.lit (.bool false)], args := [d1, d2] }
  | _ => none }
def OpCutWrongFalsely : Prop := opCutRow.holds Try.pinned (OpenSpec.ofChange opCutWrong)

/- THE SECOND FORM. 'bulk': how many values and letters a reading holds, each counted each time it is reached (what is shared counts as often as it is met; a slice's spare places count too). A statement '..UptoSaid' is the law's where the arguments, and the package variables that the reading takes, are together of bulk at most 1048576: NARROWER than '..Said'. Prove '..Said' where nothing that the law and all that it calls make is longer than what came in: it says more and counts as full. Else prove '..UptoSaid'. A law counts once. -/
mutual
def uptoBulk {H : Type} : DataW H → Nat
  | .lit (.string bytes) => bytes.length + 1
  | .lit _ => 1
  | .nil => 1
  | .ptr d => uptoBulk d + 1
  | .slice elems spare => uptoBulkAll elems + uptoBulkAll spare + 1
  | .agg parts => uptoBulkAll parts + 1
  | .iface _ d => uptoBulk d + 1
  | .map entries => uptoBulkEntries entries + 1
  | .held _ => 1
def uptoBulkAll {H : Type} : List (DataW H) → Nat
  | [] => 0
  | d :: r => uptoBulk d + uptoBulkAll r
def uptoBulkEntries {H : Type} : List (Lit × DataW H) → Nat
  | [] => 0
  | x :: r => uptoBulkEntry x + uptoBulkEntries r
def uptoBulkEntry {H : Type} : Lit × DataW H → Nat
  | (.string bytes, d) => bytes.length + uptoBulk d + 1
  | (_, d) => uptoBulk d + 1
 end
def uptoSmall : (H : Type) → List (DataW H) → Bool := fun _ ds => decide (uptoBulkAll ds ≤ 1048576)
def OpenSpec.upto (s : _root_.Go.ChangeSpec) : _root_.Go.OpenSpec := { _root_.Go.OpenSpec.ofChange s with cond := some uptoSmall }

/-- 'marigraphlaw14.OpPuts', WHERE WHAT IT READS IS OF BULK AT MOST 1048576: true; the input reads as it did. -/
def opPutsUptoRow : OpenClaim := { program := "ytkadildabhkocaa", sum := "f55e337bfd1218e1862aceaf924fd66ed4c904460310234aeeeb007047352ecc", func := "marigraph/marigraphlaw14.OpPuts", spec := "opPuts", unfollowed := true, recurses := true, apart := false, narrowed := true }
def OpPutsUptoSaid : Prop := opPutsUptoRow.holds Try.pinned (OpenSpec.upto opPutsSpec)

/-- 'marigraphlaw14.OpKinds', WHERE WHAT IT READS IS OF BULK AT MOST 1048576: true; the input reads as it did. -/
def opKindsUptoRow : OpenClaim := { program := "ytkadildabhkocaa", sum := "f55e337bfd1218e1862aceaf924fd66ed4c904460310234aeeeb007047352ecc", func := "marigraph/marigraphlaw14.OpKinds", spec := "opKinds", unfollowed := true, recurses := true, apart := false, narrowed := true }
def OpKindsUptoSaid : Prop := opKindsUptoRow.holds Try.pinned (OpenSpec.upto opKindsSpec)

/-- 'marigraphlaw14.OpTakes', WHERE WHAT IT READS IS OF BULK AT MOST 1048576: true; the input reads as it did. -/
def opTakesUptoRow : OpenClaim := { program := "ytkadildabhkocaa", sum := "f55e337bfd1218e1862aceaf924fd66ed4c904460310234aeeeb007047352ecc", func := "marigraph/marigraphlaw14.OpTakes", spec := "opTakes", unfollowed := true, recurses := true, apart := false, narrowed := true }
def OpTakesUptoSaid : Prop := opTakesUptoRow.holds Try.pinned (OpenSpec.upto opTakesSpec)

/-- 'marigraphlaw14.OpBack', WHERE WHAT IT READS IS OF BULK AT MOST 1048576: true; the input reads as it did. -/
def opBackUptoRow : OpenClaim := { program := "ytkadildabhkocaa", sum := "f55e337bfd1218e1862aceaf924fd66ed4c904460310234aeeeb007047352ecc", func := "marigraph/marigraphlaw14.OpBack", spec := "opBack", unfollowed := true, recurses := true, apart := false, narrowed := true }
def OpBackUptoSaid : Prop := opBackUptoRow.holds Try.pinned (OpenSpec.upto opBackSpec)

/-- 'marigraphlaw14.OpMany', WHERE WHAT IT READS IS OF BULK AT MOST 1048576: true; the input reads as it did. -/
def opManyUptoRow : OpenClaim := { program := "ytkadildabhkocaa", sum := "f55e337bfd1218e1862aceaf924fd66ed4c904460310234aeeeb007047352ecc", func := "marigraph/marigraphlaw14.OpMany", spec := "opMany", unfollowed := true, recurses := true, apart := false, narrowed := true }
def OpManyUptoSaid : Prop := opManyUptoRow.holds Try.pinned (OpenSpec.upto opManySpec)

/-- 'marigraphlaw14.OpCut', WHERE WHAT IT READS IS OF BULK AT MOST 1048576: true; the input reads as it did. -/
def opCutUptoRow : OpenClaim := { program := "ytkadildabhkocaa", sum := "f55e337bfd1218e1862aceaf924fd66ed4c904460310234aeeeb007047352ecc", func := "marigraph/marigraphlaw14.OpCut", spec := "opCut", unfollowed := true, recurses := true, apart := false, narrowed := true }
def OpCutUptoSaid : Prop := opCutUptoRow.holds Try.pinned (OpenSpec.upto opCutSpec)

end Rows
end Go.Proofs.Ytkadildabhkocaa
