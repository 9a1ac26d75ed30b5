/-
  No cell of these rows narrows 'for every input' (looked for: loops, veiled, ifaces, maps, wideKeys, modest, calm, conditions, laid).
  DERIVED. THE GIVEN ROWS OF THIS SEAT. 6 by the template 'for every input the law returns true; each argument reads behind the call as it read before'; 0 by the template 'total and deterministic' (their statements: YtjpfcpipnflgcaaTotals.lean).
  GIVEN WITH THE SEED: the statements are not yours to turn. If you find one false, say at which input.
  Laid BY PROGRAM, IN A SANDBOX (cutbox-rows.mjs): the forced cells as the released guide's own fill.sh prints them over the translation 82d4bb3ec2cc1ed7… (all of the seat's roots in one cut). By AI agents, Wed Nov 11 2026. No macro, syntax, notation, axiom, sorry.
-/
import Derived.Test.YtjpfcpipnflgcaaChecked
import GoSem.Claim
import GoSem.ClaimJoined
import GoSem.ClaimMapViews
import Derived.JoinedTies
import Derived.KernelRfl
namespace Go.Proofs.Ytjpfcpipnflgcaa
/- THE CELL 'sum', in the pinned program and in every row, IS THE sha256 OF THE DUMP (.gsa) THAT YtjpfcpipnflgcaaProg.lean LOADS. Nothing in Lean hashes anything: it is a label: what it is worth is what the hold of that sum in a sandbox is worth. -/
noncomputable def Try.pinned : Pinned := { name := "ytjpfcpipnflgcaa", sum := "82d4bb3ec2cc1ed70ee043bcfe6d5310f36de36ddd9046d840b0d3bb7e471bda", checked := Try.checked }
namespace Rows
def none {H : Type} : Left H := { results := [], args := [] }

/-- 'marigraphlaw01.OctsLay': WHATEVER THE INPUT: true; the input reads as it did. -/
def octsLaySpec : ChangeSpec := { name := "octsLay", fn := fun _ => fun
  | [d1, d2, d3, d4] => { results := [.lit (.bool true)], args := [d1, d2, d3, d4] }
  | _ => none }
def octsLayRow : OpenClaim := { program := "ytjpfcpipnflgcaa", sum := "82d4bb3ec2cc1ed70ee043bcfe6d5310f36de36ddd9046d840b0d3bb7e471bda", func := "marigraph/marigraphlaw01.OctsLay", spec := "octsLay", apart := false }
def OctsLaySaid : Prop := octsLayRow.holds Try.pinned (OpenSpec.ofChange octsLaySpec)

/-- ITS FALSE NEIGHBOUR: 'it returns false'. Refute it at one input. -/
def octsLayWrong : ChangeSpec := { name := "octsLay", fn := fun _ => fun
  | [d1, d2, d3, d4] => { results := [.lit (.bool false)], args := [d1, d2, d3, d4] }
  | _ => none }
def OctsLayWrongFalsely : Prop := octsLayRow.holds Try.pinned (OpenSpec.ofChange octsLayWrong)

/-- 'marigraphlaw01.OctsFold': WHATEVER THE INPUT: true; the input reads as it did. -/
def octsFoldSpec : ChangeSpec := { name := "octsFold", fn := fun _ => fun
  | [d1, d2, d3] => { results := [.lit (.bool true)], args := [d1, d2, d3] }
  | _ => none }
def octsFoldRow : OpenClaim := { program := "ytjpfcpipnflgcaa", sum := "82d4bb3ec2cc1ed70ee043bcfe6d5310f36de36ddd9046d840b0d3bb7e471bda", func := "marigraph/marigraphlaw01.OctsFold", spec := "octsFold", apart := false }
def OctsFoldSaid : Prop := octsFoldRow.holds Try.pinned (OpenSpec.ofChange octsFoldSpec)

/-- ITS FALSE NEIGHBOUR: 'it returns false'. Refute it at one input. -/
def octsFoldWrong : ChangeSpec := { name := "octsFold", fn := fun _ => fun
  | [d1, d2, d3] => { results := [.lit (.bool false)], args := [d1, d2, d3] }
  | _ => none }
def OctsFoldWrongFalsely : Prop := octsFoldRow.holds Try.pinned (OpenSpec.ofChange octsFoldWrong)

/-- 'marigraphlaw01.OctsOnce': WHATEVER THE INPUT: true; the input reads as it did. -/
def octsOnceSpec : ChangeSpec := { name := "octsOnce", fn := fun _ => fun
  | [d] => { results := [.lit (.bool true)], args := [d] }
  | _ => none }
def octsOnceRow : OpenClaim := { program := "ytjpfcpipnflgcaa", sum := "82d4bb3ec2cc1ed70ee043bcfe6d5310f36de36ddd9046d840b0d3bb7e471bda", func := "marigraph/marigraphlaw01.OctsOnce", spec := "octsOnce", apart := false }
def OctsOnceSaid : Prop := octsOnceRow.holds Try.pinned (OpenSpec.ofChange octsOnceSpec)

/-- ITS FALSE NEIGHBOUR: 'it returns false'. Refute it at one input. -/
def octsOnceWrong : ChangeSpec := { name := "octsOnce", fn := fun _ => fun
  | [d] => { results := [.lit (.bool false)], args := [d] }
  | _ => none }
def OctsOnceWrongFalsely : Prop := octsOnceRow.holds Try.pinned (OpenSpec.ofChange octsOnceWrong)

/-- 'marigraphlaw01.OctsTakes': WHATEVER THE INPUT: true; the input reads as it did. -/
def octsTakesSpec : ChangeSpec := { name := "octsTakes", fn := fun _ => fun
  | [d1, d2] => { results := [.lit (.bool true)], args := [d1, d2] }
  | _ => none }
def octsTakesRow : OpenClaim := { program := "ytjpfcpipnflgcaa", sum := "82d4bb3ec2cc1ed70ee043bcfe6d5310f36de36ddd9046d840b0d3bb7e471bda", func := "marigraph/marigraphlaw01.OctsTakes", spec := "octsTakes", apart := false }
def OctsTakesSaid : Prop := octsTakesRow.holds Try.pinned (OpenSpec.ofChange octsTakesSpec)

/-- ITS FALSE NEIGHBOUR: 'it returns false'. Refute it at one input. -/
def octsTakesWrong : ChangeSpec := { name := "octsTakes", fn := fun _ => fun
  | [d1, d2] => { results := [.lit (.bool false)], args := [d1, d2] }
  | _ => none }
def OctsTakesWrongFalsely : Prop := octsTakesRow.holds Try.pinned (OpenSpec.ofChange octsTakesWrong)

/-- 'marigraphlaw01.OctsBack': WHATEVER THE INPUT: true; the input reads as it did. -/
def octsBackSpec : ChangeSpec := { name := "octsBack", fn := fun _ => fun
  | [d1, d2, d3] => { results := [.lit (.bool true)], args := [d1, d2, d3] }
  | _ => none }
def octsBackRow : OpenClaim := { program := "ytjpfcpipnflgcaa", sum := "82d4bb3ec2cc1ed70ee043bcfe6d5310f36de36ddd9046d840b0d3bb7e471bda", func := "marigraph/marigraphlaw01.OctsBack", spec := "octsBack", apart := false }
def OctsBackSaid : Prop := octsBackRow.holds Try.pinned (OpenSpec.ofChange octsBackSpec)

/-- ITS FALSE NEIGHBOUR: 'it returns false'. Refute it at one input. -/
def octsBackWrong : ChangeSpec := { name := "octsBack", fn := fun _ => fun
  | [d1, d2, d3] => { results := [.lit (.bool false)], args := [d1, d2, d3] }
  | _ => none }
def OctsBackWrongFalsely : Prop := octsBackRow.holds Try.pinned (OpenSpec.ofChange octsBackWrong)

/-- 'marigraphlaw01.OctsNil': WHATEVER THE INPUT: true; the input reads as it did. -/
def octsNilSpec : ChangeSpec := { name := "octsNil", fn := fun _ => fun
  | [d] => { results := [.lit (.bool true)], args := [d] }
  | _ => none }
def octsNilRow : OpenClaim := { program := "ytjpfcpipnflgcaa", sum := "82d4bb3ec2cc1ed70ee043bcfe6d5310f36de36ddd9046d840b0d3bb7e471bda", func := "marigraph/marigraphlaw01.OctsNil", spec := "octsNil", apart := false }
def OctsNilSaid : Prop := octsNilRow.holds Try.pinned (OpenSpec.ofChange octsNilSpec)

/-- ITS FALSE NEIGHBOUR: 'it returns false'. Refute it at one input. -/
def octsNilWrong : ChangeSpec := { name := "octsNil", fn := fun _ => fun
  | [d] => { results := [.lit (.bool false)], args := [d] }
  | _ => none }
def OctsNilWrongFalsely : Prop := octsNilRow.holds Try.pinned (OpenSpec.ofChange octsNilWrong)

/- THE SECOND FORM. 'bulk': how many values and letters a reading holds, each counted each time it is reached (what is shared counts as often as it is met; a slice's spare places count too). A statement '..UptoSaid' is the law's where the arguments, and the package variables that the reading takes, are together of bulk at most 1048576: NARROWER than '..Said'. Prove '..Said' where nothing that the law and all that it calls make is longer than what came in: it says more and counts as full. Else prove '..UptoSaid'. A law counts once. -/
mutual
def uptoBulk {H : Type} : DataW H → Nat
  | .lit (.string bytes) => bytes.length + 1
  | .lit _ => 1
  | .nil => 1
  | .ptr d => uptoBulk d + 1
  | .slice elems spare => uptoBulkAll elems + uptoBulkAll spare + 1
  | .agg parts => uptoBulkAll parts + 1
  | .iface _ d => uptoBulk d + 1
  | .map entries => uptoBulkEntries entries + 1
  | .held _ => 1
def uptoBulkAll {H : Type} : List (DataW H) → Nat
  | [] => 0
  | d :: r => uptoBulk d + uptoBulkAll r
def uptoBulkEntries {H : Type} : List (Lit × DataW H) → Nat
  | [] => 0
  | x :: r => uptoBulkEntry x + uptoBulkEntries r
def uptoBulkEntry {H : Type} : Lit × DataW H → Nat
  | (.string bytes, d) => bytes.length + uptoBulk d + 1
  | (_, d) => uptoBulk d + 1
 end
def uptoSmall : (H : Type) → List (DataW H) → Bool := fun _ ds => decide (uptoBulkAll ds ≤ 1048576)
def OpenSpec.upto (s : _root_.Go.ChangeSpec) : _root_.Go.OpenSpec := { _root_.Go.OpenSpec.ofChange s with cond := some uptoSmall }

/-- 'marigraphlaw01.OctsLay', WHERE WHAT IT READS IS OF BULK AT MOST 1048576: true; the input reads as it did. -/
def octsLayUptoRow : OpenClaim := { program := "ytjpfcpipnflgcaa", sum := "82d4bb3ec2cc1ed70ee043bcfe6d5310f36de36ddd9046d840b0d3bb7e471bda", func := "marigraph/marigraphlaw01.OctsLay", spec := "octsLay", apart := false, narrowed := true }
def OctsLayUptoSaid : Prop := octsLayUptoRow.holds Try.pinned (OpenSpec.upto octsLaySpec)

/-- 'marigraphlaw01.OctsFold', WHERE WHAT IT READS IS OF BULK AT MOST 1048576: true; the input reads as it did. -/
def octsFoldUptoRow : OpenClaim := { program := "ytjpfcpipnflgcaa", sum := "82d4bb3ec2cc1ed70ee043bcfe6d5310f36de36ddd9046d840b0d3bb7e471bda", func := "marigraph/marigraphlaw01.OctsFold", spec := "octsFold", apart := false, narrowed := true }
def OctsFoldUptoSaid : Prop := octsFoldUptoRow.holds Try.pinned (OpenSpec.upto octsFoldSpec)

/-- 'marigraphlaw01.OctsOnce', WHERE WHAT IT READS IS OF BULK AT MOST 1048576: true; the input reads as it did. -/
def octsOnceUptoRow : OpenClaim := { program := "ytjpfcpipnflgcaa", sum := "82d4bb3ec2cc1ed70ee043bcfe6d5310f36de36ddd9046d840b0d3bb7e471bda", func := "marigraph/marigraphlaw01.OctsOnce", spec := "octsOnce", apart := false, narrowed := true }
def OctsOnceUptoSaid : Prop := octsOnceUptoRow.holds Try.pinned (OpenSpec.upto octsOnceSpec)

/-- 'marigraphlaw01.OctsTakes', WHERE WHAT IT READS IS OF BULK AT MOST 1048576: true; the input reads as it did. -/
def octsTakesUptoRow : OpenClaim := { program := "ytjpfcpipnflgcaa", sum := "82d4bb3ec2cc1ed70ee043bcfe6d5310f36de36ddd9046d840b0d3bb7e471bda", func := "marigraph/marigraphlaw01.OctsTakes", spec := "octsTakes", apart := false, narrowed := true }
def OctsTakesUptoSaid : Prop := octsTakesUptoRow.holds Try.pinned (OpenSpec.upto octsTakesSpec)

/-- 'marigraphlaw01.OctsBack', WHERE WHAT IT READS IS OF BULK AT MOST 1048576: true; the input reads as it did. -/
def octsBackUptoRow : OpenClaim := { program := "ytjpfcpipnflgcaa", sum := "82d4bb3ec2cc1ed70ee043bcfe6d5310f36de36ddd9046d840b0d3bb7e471bda", func := "marigraph/marigraphlaw01.OctsBack", spec := "octsBack", apart := false, narrowed := true }
def OctsBackUptoSaid : Prop := octsBackUptoRow.holds Try.pinned (OpenSpec.upto octsBackSpec)

/-- 'marigraphlaw01.OctsNil', WHERE WHAT IT READS IS OF BULK AT MOST 1048576: true; the input reads as it did. -/
def octsNilUptoRow : OpenClaim := { program := "ytjpfcpipnflgcaa", sum := "82d4bb3ec2cc1ed70ee043bcfe6d5310f36de36ddd9046d840b0d3bb7e471bda", func := "marigraph/marigraphlaw01.OctsNil", spec := "octsNil", apart := false, narrowed := true }
def OctsNilUptoSaid : Prop := octsNilUptoRow.holds Try.pinned (OpenSpec.upto octsNilSpec)

end Rows
end Go.Proofs.Ytjpfcpipnflgcaa
