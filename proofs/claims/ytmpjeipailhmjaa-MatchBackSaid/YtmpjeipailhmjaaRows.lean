/-
  No cell of these rows narrows 'for every input' (looked for: loops, veiled, ifaces, maps, wideKeys, modest, calm, conditions, laid).
  DERIVED. THE GIVEN ROWS OF THIS SEAT. 6 by the template 'for every input the law returns true; each argument reads behind the call as it read before'; 0 by the template 'total and deterministic' (their statements: YtmpjeipailhmjaaTotals.lean).
  GIVEN WITH THE SEED: the statements are not yours to turn. If you find one false, say at which input.
  Laid BY PROGRAM, IN A SANDBOX (cutbox-rows.mjs): the forced cells as the released guide's own fill.sh prints them over the translation 742d20dc1b01db11… (all of the seat's roots in one cut). By AI agents, Wed Nov 11 2026. No macro, syntax, notation, axiom, sorry.
-/
import Derived.Test.YtmpjeipailhmjaaChecked
import GoSem.Claim
import GoSem.ClaimJoined
import GoSem.ClaimMapViews
import Derived.JoinedTies
import Derived.KernelRfl
namespace Go.Proofs.Ytmpjeipailhmjaa
/- THE CELL 'sum', in the pinned program and in every row, IS THE sha256 OF THE DUMP (.gsa) THAT YtmpjeipailhmjaaProg.lean LOADS. Nothing in Lean hashes anything: it is a label: what it is worth is what the hold of that sum in a sandbox is worth. -/
noncomputable def Try.pinned : Pinned := { name := "ytmpjeipailhmjaa", sum := "742d20dc1b01db11523f952b6707afce619beff3e3c7b86166740bef339f6449", checked := Try.checked }
namespace Rows
def none {H : Type} : Left H := { results := [], args := [] }

/-- 'marigraphlaw07.MatchOther': WHATEVER THE INPUT: true; the input reads as it did. -/
def matchOtherSpec : ChangeSpec := { name := "matchOther", fn := fun _ => fun
  | [d1, d2, d3, d4] => { results := [.lit (.bool true)], args := [d1, d2, d3, d4] }
  | _ => none }
def matchOtherRow : OpenClaim := { program := "ytmpjeipailhmjaa", sum := "742d20dc1b01db11523f952b6707afce619beff3e3c7b86166740bef339f6449", func := "marigraph/marigraphlaw07.MatchOther", spec := "matchOther", unfollowed := true, recurses := true, apart := false }
def MatchOtherSaid : Prop := matchOtherRow.holds Try.pinned (OpenSpec.ofChange matchOtherSpec)

/-- ITS FALSE NEIGHBOUR: 'it returns false'. Refute it at one input. -/
def matchOtherWrong : ChangeSpec := { name := "matchOther", fn := fun _ => fun
  | [d1, d2, d3, d4] => { results := [.lit (.bool false)], args := [d1, d2, d3, d4] }
  | _ => none }
def MatchOtherWrongFalsely : Prop := matchOtherRow.holds Try.pinned (OpenSpec.ofChange matchOtherWrong)

/-- 'marigraphlaw07.MatchMore': WHATEVER THE INPUT: true; the input reads as it did. -/
def matchMoreSpec : ChangeSpec := { name := "matchMore", fn := fun _ => fun
  | [d1, d2, d3] => { results := [.lit (.bool true)], args := [d1, d2, d3] }
  | _ => none }
def matchMoreRow : OpenClaim := { program := "ytmpjeipailhmjaa", sum := "742d20dc1b01db11523f952b6707afce619beff3e3c7b86166740bef339f6449", func := "marigraph/marigraphlaw07.MatchMore", spec := "matchMore", unfollowed := true, recurses := true, apart := false }
def MatchMoreSaid : Prop := matchMoreRow.holds Try.pinned (OpenSpec.ofChange matchMoreSpec)

/-- ITS FALSE NEIGHBOUR: 'it returns false'. Refute it at one input. -/
def matchMoreWrong : ChangeSpec := { name := "matchMore", fn := fun _ => fun
  | [d1, d2, d3] => { results := [.lit (.bool false)], args := [d1, d2, d3] }
  | _ => none }
def MatchMoreWrongFalsely : Prop := matchMoreRow.holds Try.pinned (OpenSpec.ofChange matchMoreWrong)

/-- 'marigraphlaw07.MatchOne': WHATEVER THE INPUT: true; the input reads as it did. -/
def matchOneSpec : ChangeSpec := { name := "matchOne", fn := fun _ => fun
  | [d1, d2] => { results := [.lit (.bool true)], args := [d1, d2] }
  | _ => none }
def matchOneRow : OpenClaim := { program := "ytmpjeipailhmjaa", sum := "742d20dc1b01db11523f952b6707afce619beff3e3c7b86166740bef339f6449", func := "marigraph/marigraphlaw07.MatchOne", spec := "matchOne", unfollowed := true, recurses := true, apart := false }
def MatchOneSaid : Prop := matchOneRow.holds Try.pinned (OpenSpec.ofChange matchOneSpec)

/-- ITS FALSE NEIGHBOUR: 'it returns false'. Refute it at one input. -/
def matchOneWrong : ChangeSpec := { name := "matchOne", fn := fun _ => fun
  | [d1, d2] => { results := [.lit (.bool false)], args := [d1, d2] }
  | _ => none }
def MatchOneWrongFalsely : Prop := matchOneRow.holds Try.pinned (OpenSpec.ofChange matchOneWrong)

/-- 'marigraphlaw07.MatchTells': WHATEVER THE INPUT: true; the input reads as it did. -/
def matchTellsSpec : ChangeSpec := { name := "matchTells", fn := fun _ => fun
  | [d1, d2] => { results := [.lit (.bool true)], args := [d1, d2] }
  | _ => none }
def matchTellsRow : OpenClaim := { program := "ytmpjeipailhmjaa", sum := "742d20dc1b01db11523f952b6707afce619beff3e3c7b86166740bef339f6449", func := "marigraph/marigraphlaw07.MatchTells", spec := "matchTells", unfollowed := true, recurses := true, apart := false }
def MatchTellsSaid : Prop := matchTellsRow.holds Try.pinned (OpenSpec.ofChange matchTellsSpec)

/-- ITS FALSE NEIGHBOUR: 'it returns false'. Refute it at one input. -/
def matchTellsWrong : ChangeSpec := { name := "matchTells", fn := fun _ => fun
  | [d1, d2] => { results := [.lit (.bool false)], args := [d1, d2] }
  | _ => none }
def MatchTellsWrongFalsely : Prop := matchTellsRow.holds Try.pinned (OpenSpec.ofChange matchTellsWrong)

/-- 'marigraphlaw07.MatchPuts': WHATEVER THE INPUT: true; the input reads as it did. -/
def matchPutsSpec : ChangeSpec := { name := "matchPuts", fn := fun _ => fun
  | [d1, d2] => { results := [.lit (.bool true)], args := [d1, d2] }
  | _ => none }
def matchPutsRow : OpenClaim := { program := "ytmpjeipailhmjaa", sum := "742d20dc1b01db11523f952b6707afce619beff3e3c7b86166740bef339f6449", func := "marigraph/marigraphlaw07.MatchPuts", spec := "matchPuts", unfollowed := true, recurses := true, apart := false }
def MatchPutsSaid : Prop := matchPutsRow.holds Try.pinned (OpenSpec.ofChange matchPutsSpec)

/-- ITS FALSE NEIGHBOUR: 'it returns false'. Refute it at one input. -/
def matchPutsWrong : ChangeSpec := { name := "matchPuts", fn := fun _ => fun
  | [d1, d2] => { results := [.lit (.bool false)], args := [d1, d2] }
  | _ => none }
def MatchPutsWrongFalsely : Prop := matchPutsRow.holds Try.pinned (OpenSpec.ofChange matchPutsWrong)

/-- 'marigraphlaw07.MatchBack': WHATEVER THE INPUT: true; the input reads as it did. -/
def matchBackSpec : ChangeSpec := { name := "matchBack", fn := fun _ => fun
  | [d1, d2] => { results := [.lit (.bool true)], args := [d1, d2] }
  | _ => none }
def matchBackRow : OpenClaim := { program := "ytmpjeipailhmjaa", sum := "742d20dc1b01db11523f952b6707afce619beff3e3c7b86166740bef339f6449", func := "marigraph/marigraphlaw07.MatchBack", spec := "matchBack", unfollowed := true, recurses := true, apart := false }
def MatchBackSaid : Prop := matchBackRow.holds Try.pinned (OpenSpec.ofChange matchBackSpec)

/-- ITS FALSE NEIGHBOUR: 'it returns false'. Refute it at one input. -/
def matchBackWrong : ChangeSpec := { name := "matchBack", fn := fun _ => fun
  | [d1, d2] => { results := [.lit (.bool false)], args := [d1, d2] }
  | _ => none }
def MatchBackWrongFalsely : Prop := matchBackRow.holds Try.pinned (OpenSpec.ofChange matchBackWrong)

/- THE SECOND FORM. 'bulk': how many values and letters a reading holds, each counted each time it is reached (what is shared counts as often as it is met; a slice's spare places count too). A statement '..UptoSaid' is the law's where the arguments, and the package variables that the reading takes, are together of bulk at most 1048576: NARROWER than '..Said'. Prove '..Said' where nothing that the law and all that it calls make is longer than what came in: it says more and counts as full. Else prove '..UptoSaid'. A law counts once. -/
mutual
def uptoBulk {H : Type} : DataW H → Nat
  | .lit (.string bytes) => bytes.length + 1
  | .lit _ => 1
  | .nil => 1
  | .ptr d => uptoBulk d + 1
  | .slice elems spare => uptoBulkAll elems + uptoBulkAll spare + 1
  | .agg parts => uptoBulkAll parts + 1
  | .iface _ d => uptoBulk d + 1
  | .map entries => uptoBulkEntries entries + 1
  | .held _ => 1
def uptoBulkAll {H : Type} : List (DataW H) → Nat
  | [] => 0
  | d :: r => uptoBulk d + uptoBulkAll r
def uptoBulkEntries {H : Type} : List (Lit × DataW H) → Nat
  | [] => 0
  | x :: r => uptoBulkEntry x + uptoBulkEntries r
def uptoBulkEntry {H : Type} : Lit × DataW H → Nat
  | (.string bytes, d) => bytes.length + uptoBulk d + 1
  | (_, d) => uptoBulk d + 1
 end
def uptoSmall : (H : Type) → List (DataW H) → Bool := fun _ ds => decide (uptoBulkAll ds ≤ 1048576)
def OpenSpec.upto (s : _root_.Go.ChangeSpec) : _root_.Go.OpenSpec := { _root_.Go.OpenSpec.ofChange s with cond := some uptoSmall }

/-- 'marigraphlaw07.MatchOther', WHERE WHAT IT READS IS OF BULK AT MOST 1048576: true; the input reads as it did. -/
def matchOtherUptoRow : OpenClaim := { program := "ytmpjeipailhmjaa", sum := "742d20dc1b01db11523f952b6707afce619beff3e3c7b86166740bef339f6449", func := "marigraph/marigraphlaw07.MatchOther", spec := "matchOther", unfollowed := true, recurses := true, apart := false, narrowed := true }
def MatchOtherUptoSaid : Prop := matchOtherUptoRow.holds Try.pinned (OpenSpec.upto matchOtherSpec)

/-- 'marigraphlaw07.MatchMore', WHERE WHAT IT READS IS OF BULK AT MOST 1048576: true; the input reads as it did. -/
def matchMoreUptoRow : OpenClaim := { program := "ytmpjeipailhmjaa", sum := "742d20dc1b01db11523f952b6707afce619beff3e3c7b86166740bef339f6449", func := "marigraph/marigraphlaw07.MatchMore", spec := "matchMore", unfollowed := true, recurses := true, apart := false, narrowed := true }
def MatchMoreUptoSaid : Prop := matchMoreUptoRow.holds Try.pinned (OpenSpec.upto matchMoreSpec)

/-- 'marigraphlaw07.MatchOne', WHERE WHAT IT READS IS OF BULK AT MOST 1048576: true; the input reads as it did. -/
def matchOneUptoRow : OpenClaim := { program := "ytmpjeipailhmjaa", sum := "742d20dc1b01db11523f952b6707afce619beff3e3c7b86166740bef339f6449", func := "marigraph/marigraphlaw07.MatchOne", spec := "matchOne", unfollowed := true, recurses := true, apart := false, narrowed := true }
def MatchOneUptoSaid : Prop := matchOneUptoRow.holds Try.pinned (OpenSpec.upto matchOneSpec)

/-- 'marigraphlaw07.MatchTells', WHERE WHAT IT READS IS OF BULK AT MOST 1048576: true; the input reads as it did. -/
def matchTellsUptoRow : OpenClaim := { program := "ytmpjeipailhmjaa", sum := "742d20dc1b01db11523f952b6707afce619beff3e3c7b86166740bef339f6449", func := "marigraph/marigraphlaw07.MatchTells", spec := "matchTells", unfollowed := true, recurses := true, apart := false, narrowed := true }
def MatchTellsUptoSaid : Prop := matchTellsUptoRow.holds Try.pinned (OpenSpec.upto matchTellsSpec)

/-- 'marigraphlaw07.MatchPuts', WHERE WHAT IT READS IS OF BULK AT MOST 1048576: true; the input reads as it did. -/
def matchPutsUptoRow : OpenClaim := { program := "ytmpjeipailhmjaa", sum := "742d20dc1b01db11523f952b6707afce619beff3e3c7b86166740bef339f6449", func := "marigraph/marigraphlaw07.MatchPuts", spec := "matchPuts", unfollowed := true, recurses := true, apart := false, narrowed := true }
def MatchPutsUptoSaid : Prop := matchPutsUptoRow.holds Try.pinned (OpenSpec.upto matchPutsSpec)

/-- 'marigraphlaw07.MatchBack', WHERE WHAT IT READS IS OF BULK AT MOST 1048576: true; the input reads as it did. -/
def matchBackUptoRow : OpenClaim := { program := "ytmpjeipailhmjaa", sum := "742d20dc1b01db11523f952b6707afce619beff3e3c7b86166740bef339f6449", func := "marigraph/marigraphlaw07.MatchBack", spec := "matchBack", unfollowed := true, recurses := true, apart := false, narrowed := true }
def MatchBackUptoSaid : Prop := matchBackUptoRow.holds Try.pinned (OpenSpec.upto matchBackSpec)

end Rows
end Go.Proofs.Ytmpjeipailhmjaa
