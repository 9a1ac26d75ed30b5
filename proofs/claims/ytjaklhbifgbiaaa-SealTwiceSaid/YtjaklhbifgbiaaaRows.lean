/-
  No cell of these rows narrows 'for every input' (looked for: loops, veiled, ifaces, maps, wideKeys, modest, calm, conditions, laid).
  DERIVED. THE GIVEN ROWS OF THIS SEAT. 7 by the template 'for every input the law returns true; each argument reads behind the call as it read before'; 0 by the template 'total and deterministic' (their statements: YtjaklhbifgbiaaaTotals.lean).
  GIVEN WITH THE SEED: the statements are not yours to turn. If you find one false, say at which input.
  Laid BY PROGRAM, IN A SANDBOX (cutbox-rows.mjs): the forced cells as the released guide's own fill.sh prints them over the translation d0d308843e2c5960… (all of the seat's roots in one cut). By AI agents, Wed Nov 11 2026. No macro, syntax, notation, axiom, sorry.
-/
import Derived.Test.YtjaklhbifgbiaaaChecked
import GoSem.Claim
import GoSem.ClaimJoined
import GoSem.ClaimMapViews
import Derived.JoinedTies
import Derived.KernelRfl
namespace Go.Proofs.Ytjaklhbifgbiaaa
/- THE CELL 'sum', in the pinned program and in every row, IS THE sha256 OF THE DUMP (.gsa) THAT YtjaklhbifgbiaaaProg.lean LOADS. Nothing in Lean hashes anything: it is a label: what it is worth is what the hold of that sum in a sandbox is worth. -/
noncomputable def Try.pinned : Pinned := { name := "ytjaklhbifgbiaaa", sum := "d0d308843e2c596011cbc8b427bfc2dd94c7f631dd46ddc8541ee1d38e5a23cd", checked := Try.checked }
namespace Rows
def none {H : Type} : Left H := { results := [], args := [] }

/-- 'marigraphlaw03.SealLinear': WHATEVER THE INPUT: true; the input reads as it did. -/
def sealLinearSpec : ChangeSpec := { name := "sealLinear", fn := fun _ => fun
  | [d] => { results := [.lit (.bool true)], args := [d] }
  | _ => none }
def sealLinearRow : OpenClaim := { program := "ytjaklhbifgbiaaa", sum := "d0d308843e2c596011cbc8b427bfc2dd94c7f631dd46ddc8541ee1d38e5a23cd", func := "marigraph/marigraphlaw03.SealLinear", spec := "sealLinear", apart := false }
def SealLinearSaid : Prop := sealLinearRow.holds Try.pinned (OpenSpec.ofChange sealLinearSpec)

/-- ITS FALSE NEIGHBOUR: 'it returns false'. Refute it at one input. -/
def sealLinearWrong : ChangeSpec := { name := "sealLinear", fn := fun _ => fun
  | [d] => { results := [.lit (.bool false)], args := [d] }
  | _ => none }
def SealLinearWrongFalsely : Prop := sealLinearRow.holds Try.pinned (OpenSpec.ofChange sealLinearWrong)

/-- 'marigraphlaw03.SealSums': WHATEVER THE INPUT: true; the input reads as it did. -/
def sealSumsSpec : ChangeSpec := { name := "sealSums", fn := fun _ => fun
  | [d] => { results := [.lit (.bool true)], args := [d] }
  | _ => none }
def sealSumsRow : OpenClaim := { program := "ytjaklhbifgbiaaa", sum := "d0d308843e2c596011cbc8b427bfc2dd94c7f631dd46ddc8541ee1d38e5a23cd", func := "marigraph/marigraphlaw03.SealSums", spec := "sealSums", apart := false }
def SealSumsSaid : Prop := sealSumsRow.holds Try.pinned (OpenSpec.ofChange sealSumsSpec)

/-- ITS FALSE NEIGHBOUR: 'it returns false'. Refute it at one input. -/
def sealSumsWrong : ChangeSpec := { name := "sealSums", fn := fun _ => fun
  | [d] => { results := [.lit (.bool false)], args := [d] }
  | _ => none }
def SealSumsWrongFalsely : Prop := sealSumsRow.holds Try.pinned (OpenSpec.ofChange sealSumsWrong)

/-- 'marigraphlaw03.SealTakes': WHATEVER THE INPUT: true; the input reads as it did. -/
def sealTakesSpec : ChangeSpec := { name := "sealTakes", fn := fun _ => fun
  | [d] => { results := [.lit (.bool true)], args := [d] }
  | _ => none }
def sealTakesRow : OpenClaim := { program := "ytjaklhbifgbiaaa", sum := "d0d308843e2c596011cbc8b427bfc2dd94c7f631dd46ddc8541ee1d38e5a23cd", func := "marigraph/marigraphlaw03.SealTakes", spec := "sealTakes", apart := false }
def SealTakesSaid : Prop := sealTakesRow.holds Try.pinned (OpenSpec.ofChange sealTakesSpec)

/-- ITS FALSE NEIGHBOUR: 'it returns false'. Refute it at one input. -/
def sealTakesWrong : ChangeSpec := { name := "sealTakes", fn := fun _ => fun
  | [d] => { results := [.lit (.bool false)], args := [d] }
  | _ => none }
def SealTakesWrongFalsely : Prop := sealTakesRow.holds Try.pinned (OpenSpec.ofChange sealTakesWrong)

/-- 'marigraphlaw03.SealBack': WHATEVER THE INPUT: true; the input reads as it did. -/
def sealBackSpec : ChangeSpec := { name := "sealBack", fn := fun _ => fun
  | [d1, d2] => { results := [.lit (.bool true)], args := [d1, d2] }
  | _ => none }
def sealBackRow : OpenClaim := { program := "ytjaklhbifgbiaaa", sum := "d0d308843e2c596011cbc8b427bfc2dd94c7f631dd46ddc8541ee1d38e5a23cd", func := "marigraph/marigraphlaw03.SealBack", spec := "sealBack", apart := false }
def SealBackSaid : Prop := sealBackRow.holds Try.pinned (OpenSpec.ofChange sealBackSpec)

/-- ITS FALSE NEIGHBOUR: 'it returns false'. Refute it at one input. -/
def sealBackWrong : ChangeSpec := { name := "sealBack", fn := fun _ => fun
  | [d1, d2] => { results := [.lit (.bool false)], args := [d1, d2] }
  | _ => none }
def SealBackWrongFalsely : Prop := sealBackRow.holds Try.pinned (OpenSpec.ofChange sealBackWrong)

/-- 'marigraphlaw03.SealBursts': WHATEVER THE INPUT: true; the input reads as it did. -/
def sealBurstsSpec : ChangeSpec := { name := "sealBursts", fn := fun _ => fun
  | [d1, d2, d3] => { results := [.lit (.bool true)], args := [d1, d2, d3] }
  | _ => none }
def sealBurstsRow : OpenClaim := { program := "ytjaklhbifgbiaaa", sum := "d0d308843e2c596011cbc8b427bfc2dd94c7f631dd46ddc8541ee1d38e5a23cd", func := "marigraph/marigraphlaw03.SealBursts", spec := "sealBursts", apart := false }
def SealBurstsSaid : Prop := sealBurstsRow.holds Try.pinned (OpenSpec.ofChange sealBurstsSpec)

/-- ITS FALSE NEIGHBOUR: 'it returns false'. Refute it at one input. -/
def sealBurstsWrong : ChangeSpec := { name := "sealBursts", fn := fun _ => fun
  | [d1, d2, d3] => { results := [.lit (.bool false)], args := [d1, d2, d3] }
  | _ => none }
def SealBurstsWrongFalsely : Prop := sealBurstsRow.holds Try.pinned (OpenSpec.ofChange sealBurstsWrong)

/-- 'marigraphlaw03.SealCut': WHATEVER THE INPUT: true; the input reads as it did. -/
def sealCutSpec : ChangeSpec := { name := "sealCut", fn := fun _ => fun
  | [d1, d2] => { results := [.lit (.bool true)], args := [d1, d2] }
  | _ => none }
def sealCutRow : OpenClaim := { program := "ytjaklhbifgbiaaa", sum := "d0d308843e2c596011cbc8b427bfc2dd94c7f631dd46ddc8541ee1d38e5a23cd", func := "marigraph/marigraphlaw03.SealCut", spec := "sealCut", apart := false }
def SealCutSaid : Prop := sealCutRow.holds Try.pinned (OpenSpec.ofChange sealCutSpec)

/-- ITS FALSE NEIGHBOUR: 'it returns false'. Refute it at one input. -/
def sealCutWrong : ChangeSpec := { name := "sealCut", fn := fun _ => fun
  | [d1, d2] => { results := [.lit (.bool false)], args := [d1, d2] }
  | _ => none }
def SealCutWrongFalsely : Prop := sealCutRow.holds Try.pinned (OpenSpec.ofChange sealCutWrong)

/-- 'marigraphlaw03.SealTwice': WHATEVER THE INPUT: true; the input reads as it did. -/
def sealTwiceSpec : ChangeSpec := { name := "sealTwice", fn := fun _ => fun
  | [d1, d2] => { results := [.lit (.bool true)], args := [d1, d2] }
  | _ => none }
def sealTwiceRow : OpenClaim := { program := "ytjaklhbifgbiaaa", sum := "d0d308843e2c596011cbc8b427bfc2dd94c7f631dd46ddc8541ee1d38e5a23cd", func := "marigraph/marigraphlaw03.SealTwice", spec := "sealTwice", apart := false }
def SealTwiceSaid : Prop := sealTwiceRow.holds Try.pinned (OpenSpec.ofChange sealTwiceSpec)

/-- ITS FALSE NEIGHBOUR: 'it returns false'. Refute it at one input. -/
def sealTwiceWrong : ChangeSpec := { name := "sealTwice", fn := fun _ => fun
  | [d1, d2] => { results := [.lit (.bool false)], args := [d1, d2] }
  | _ => none }
def SealTwiceWrongFalsely : Prop := sealTwiceRow.holds Try.pinned (OpenSpec.ofChange sealTwiceWrong)

/- THE SECOND FORM. 'bulk': how many values and letters a reading holds, each counted each time it is reached (what is shared counts as often as it is met; a slice's spare places count too). A statement '..UptoSaid' is the law's where the arguments, and the package variables that the reading takes, are together of bulk at most 1048576: NARROWER than '..Said'. Prove '..Said' where nothing that the law and all that it calls make is longer than what came in: it says more and counts as full. Else prove '..UptoSaid'. A law counts once. -/
mutual
def uptoBulk {H : Type} : DataW H → Nat
  | .lit (.string bytes) => bytes.length + 1
  | .lit _ => 1
  | .nil => 1
  | .ptr d => uptoBulk d + 1
  | .slice elems spare => uptoBulkAll elems + uptoBulkAll spare + 1
  | .agg parts => uptoBulkAll parts + 1
  | .iface _ d => uptoBulk d + 1
  | .map entries => uptoBulkEntries entries + 1
  | .held _ => 1
def uptoBulkAll {H : Type} : List (DataW H) → Nat
  | [] => 0
  | d :: r => uptoBulk d + uptoBulkAll r
def uptoBulkEntries {H : Type} : List (Lit × DataW H) → Nat
  | [] => 0
  | x :: r => uptoBulkEntry x + uptoBulkEntries r
def uptoBulkEntry {H : Type} : Lit × DataW H → Nat
  | (.string bytes, d) => bytes.length + uptoBulk d + 1
  | (_, d) => uptoBulk d + 1
 end
def uptoSmall : (H : Type) → List (DataW H) → Bool := fun _ ds => decide (uptoBulkAll ds ≤ 1048576)
def OpenSpec.upto (s : _root_.Go.ChangeSpec) : _root_.Go.OpenSpec := { _root_.Go.OpenSpec.ofChange s with cond := some uptoSmall }

/-- 'marigraphlaw03.SealLinear', WHERE WHAT IT READS IS OF BULK AT MOST 1048576: true; the input reads as it did. -/
def sealLinearUptoRow : OpenClaim := { program := "ytjaklhbifgbiaaa", sum := "d0d308843e2c596011cbc8b427bfc2dd94c7f631dd46ddc8541ee1d38e5a23cd", func := "marigraph/marigraphlaw03.SealLinear", spec := "sealLinear", apart := false, narrowed := true }
def SealLinearUptoSaid : Prop := sealLinearUptoRow.holds Try.pinned (OpenSpec.upto sealLinearSpec)

/-- 'marigraphlaw03.SealSums', WHERE WHAT IT READS IS OF BULK AT MOST 1048576: true; the input reads as it did. -/
def sealSumsUptoRow : OpenClaim := { program := "ytjaklhbifgbiaaa", sum := "d0d308843e2c596011cbc8b427bfc2dd94c7f631dd46ddc8541ee1d38e5a23cd", func := "marigraph/marigraphlaw03.SealSums", spec := "sealSums", apart := false, narrowed := true }
def SealSumsUptoSaid : Prop := sealSumsUptoRow.holds Try.pinned (OpenSpec.upto sealSumsSpec)

/-- 'marigraphlaw03.SealTakes', WHERE WHAT IT READS IS OF BULK AT MOST 1048576: true; the input reads as it did. -/
def sealTakesUptoRow : OpenClaim := { program := "ytjaklhbifgbiaaa", sum := "d0d308843e2c596011cbc8b427bfc2dd94c7f631dd46ddc8541ee1d38e5a23cd", func := "marigraph/marigraphlaw03.SealTakes", spec := "sealTakes", apart := false, narrowed := true }
def SealTakesUptoSaid : Prop := sealTakesUptoRow.holds Try.pinned (OpenSpec.upto sealTakesSpec)

/-- 'marigraphlaw03.SealBack', WHERE WHAT IT READS IS OF BULK AT MOST 1048576: true; the input reads as it did. -/
def sealBackUptoRow : OpenClaim := { program := "ytjaklhbifgbiaaa", sum := "d0d308843e2c596011cbc8b427bfc2dd94c7f631dd46ddc8541ee1d38e5a23cd", func := "marigraph/marigraphlaw03.SealBack", spec := "sealBack", apart := false, narrowed := true }
def SealBackUptoSaid : Prop := sealBackUptoRow.holds Try.pinned (OpenSpec.upto sealBackSpec)

/-- 'marigraphlaw03.SealBursts', WHERE WHAT IT READS IS OF BULK AT MOST 1048576: true; the input reads as it did. -/
def sealBurstsUptoRow : OpenClaim := { program := "ytjaklhbifgbiaaa", sum := "d0d308843e2c596011cbc8b427bfc2dd94c7f631dd46ddc8541ee1d38e5a23cd", func := "marigraph/marigraphlaw03.SealBursts", spec := "sealBursts", apart := false, narrowed := true }
def SealBurstsUptoSaid : Prop := sealBurstsUptoRow.holds Try.pinned (OpenSpec.upto sealBurstsSpec)

/-- 'marigraphlaw03.SealCut', WHERE WHAT IT READS IS OF BULK AT MOST 1048576: true; the input reads as it did. -/
def sealCutUptoRow : OpenClaim := { program := "ytjaklhbifgbiaaa", sum := "d0d308843e2c596011cbc8b427bfc2dd94c7f631dd46ddc8541ee1d38e5a23cd", func := "marigraph/marigraphlaw03.SealCut", spec := "sealCut", apart := false, narrowed := true }
def SealCutUptoSaid : Prop := sealCutUptoRow.holds Try.pinned (OpenSpec.upto sealCutSpec)

/-- 'marigraphlaw03.SealTwice', WHERE WHAT IT READS IS OF BULK AT MOST 1048576: true; the input reads as it did. -/
def sealTwiceUptoRow : OpenClaim := { program := "ytjaklhbifgbiaaa", sum := "d0d308843e2c596011cbc8b427bfc2dd94c7f631dd46ddc8541ee1d38e5a23cd", func := "marigraph/marigraphlaw03.SealTwice", spec := "sealTwice", apart := false, narrowed := true }
def SealTwiceUptoSaid : Prop := sealTwiceUptoRow.holds Try.pinned (OpenSpec.upto sealTwiceSpec)

end Rows
end Go.Proofs.Ytjaklhbifgbiaaa
