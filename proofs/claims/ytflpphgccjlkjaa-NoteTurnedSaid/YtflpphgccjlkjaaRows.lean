/-
  No cell of these rows narrows 'for every input' (looked for: loops, veiled, ifaces, maps, wideKeys, modest, calm, conditions, laid).
  DERIVED. THE GIVEN ROWS OF THIS SEAT. 6 by the template 'for every input the law returns true; each argument reads behind the call as it read before'; 0 by the template 'total and deterministic' (their statements: YtflpphgccjlkjaaTotals.lean).
  GIVEN WITH THE SEED: the statements are not yours to turn. If you find one false, say at which input.
  Laid BY PROGRAM, IN A SANDBOX (cutbox-rows.mjs): the forced cells as the released guide's own fill.sh prints them over the translation bf8e95cab7a5aeed… (all of the seat's roots in one cut). By AI agents, Wed Nov 11 2026. No macro, syntax, notation, axiom, sorry.
-/
import Derived.Test.YtflpphgccjlkjaaChecked
import GoSem.Claim
import GoSem.ClaimJoined
import GoSem.ClaimMapViews
import Derived.JoinedTies
import Derived.KernelRfl
namespace Go.Proofs.Ytflpphgccjlkjaa
/- THE CELL 'sum', in the pinned program and in every row, IS THE sha256 OF THE DUMP (.gsa) THAT YtflpphgccjlkjaaProg.lean LOADS. Nothing in Lean hashes anything: it is a label: what it is worth is what the hold of that sum in a sandbox is worth. -/
noncomputable def Try.pinned : Pinned := { name := "ytflpphgccjlkjaa", sum := "bf8e95cab7a5aeed474df9add6adf3a37c4534a4e5b16a2afb06d2cc0ba9863c", checked := Try.checked }
namespace Rows
def none {H : Type} : Left H := { results := [], args := [] }

/-- 'marigraphlaw17.NotePrefixes': WHATEVER THE INPUT: true; the input reads as it did. -/
def notePrefixesSpec : ChangeSpec := { name := "notePrefixes", fn := fun _ => fun
  | [d1, d2, d3] => { results := [.lit (.bool true)], args := [d1, d2, d3] }
  | _ => none }
def notePrefixesRow : OpenClaim := { program := "ytflpphgccjlkjaa", sum := "bf8e95cab7a5aeed474df9add6adf3a37c4534a4e5b16a2afb06d2cc0ba9863c", func := "marigraph/marigraphlaw17.NotePrefixes", spec := "notePrefixes", inPlace := ["slices.overlaps[*int]"], unfollowed := true, recurses := true, apart := false }
def NotePrefixesSaid : Prop := notePrefixesRow.holds Try.pinned (OpenSpec.ofChange notePrefixesSpec)

/-- ITS FALSE NEIGHBOUR: 'it returns false'. Refute it at one input. -/
def notePrefixesWrong : ChangeSpec := { name := "notePrefixes", fn := fun _ => fun
  | [d1, d2, d3] => { results := [.lit (.bool false)], args := [d1, d2, d3] }
  | _ => none }
def NotePrefixesWrongFalsely : Prop := notePrefixesRow.holds Try.pinned (OpenSpec.ofChange notePrefixesWrong)

/-- 'marigraphlaw17.NoteEqual': WHATEVER THE INPUT: true; the input reads as it did. -/
def noteEqualSpec : ChangeSpec := { name := "noteEqual", fn := fun _ => fun
  | [d1, d2] => { results := [.lit (.bool true)], args := [d1, d2] }
  | _ => none }
def noteEqualRow : OpenClaim := { program := "ytflpphgccjlkjaa", sum := "bf8e95cab7a5aeed474df9add6adf3a37c4534a4e5b16a2afb06d2cc0ba9863c", func := "marigraph/marigraphlaw17.NoteEqual", spec := "noteEqual", inPlace := ["slices.overlaps[*int]"], unfollowed := true, recurses := true, apart := false }
def NoteEqualSaid : Prop := noteEqualRow.holds Try.pinned (OpenSpec.ofChange noteEqualSpec)

/-- ITS FALSE NEIGHBOUR: 'it returns false'. Refute it at one input. -/
def noteEqualWrong : ChangeSpec := { name := "noteEqual", fn := fun _ => fun
  | [d1, d2] => { results := [.lit (.bool false)], args := [d1, d2] }
  | _ => none }
def NoteEqualWrongFalsely : Prop := noteEqualRow.holds Try.pinned (OpenSpec.ofChange noteEqualWrong)

/-- 'marigraphlaw17.NotePuts': WHATEVER THE INPUT: true; the input reads as it did. -/
def notePutsSpec : ChangeSpec := { name := "notePuts", fn := fun _ => fun
  | [d1, d2] => { results := [.lit (.bool true)], args := [d1, d2] }
  | _ => none }
def notePutsRow : OpenClaim := { program := "ytflpphgccjlkjaa", sum := "bf8e95cab7a5aeed474df9add6adf3a37c4534a4e5b16a2afb06d2cc0ba9863c", func := "marigraph/marigraphlaw17.NotePuts", spec := "notePuts", inPlace := ["slices.overlaps[*int]"], unfollowed := true, recurses := true, apart := false }
def NotePutsSaid : Prop := notePutsRow.holds Try.pinned (OpenSpec.ofChange notePutsSpec)

/-- ITS FALSE NEIGHBOUR: 'it returns false'. Refute it at one input. -/
def notePutsWrong : ChangeSpec := { name := "notePuts", fn := fun _ => fun
  | [d1, d2] => { results := [.lit (.bool false)], args := [d1, d2] }
  | _ => none }
def NotePutsWrongFalsely : Prop := notePutsRow.holds Try.pinned (OpenSpec.ofChange notePutsWrong)

/-- 'marigraphlaw17.NoteTakes': WHATEVER THE INPUT: true; the input reads as it did. -/
def noteTakesSpec : ChangeSpec := { name := "noteTakes", fn := fun _ => fun
  | [d] => { results := [.lit (.bool true)], args := [d] }
  | _ => none }
def noteTakesRow : OpenClaim := { program := "ytflpphgccjlkjaa", sum := "bf8e95cab7a5aeed474df9add6adf3a37c4534a4e5b16a2afb06d2cc0ba9863c", func := "marigraph/marigraphlaw17.NoteTakes", spec := "noteTakes", inPlace := ["slices.overlaps[*int]"], unfollowed := true, recurses := true, apart := false }
def NoteTakesSaid : Prop := noteTakesRow.holds Try.pinned (OpenSpec.ofChange noteTakesSpec)

/-- ITS FALSE NEIGHBOUR: 'it returns false'. Refute it at one input. -/
def noteTakesWrong : ChangeSpec := { name := "noteTakes", fn := fun _ => fun
  | [d] => { results := [.lit (.bool false)], args := [d] }
  | _ => none }
def NoteTakesWrongFalsely : Prop := noteTakesRow.holds Try.pinned (OpenSpec.ofChange noteTakesWrong)

/-- 'marigraphlaw17.NoteTurned': WHATEVER THE INPUT: true; the input reads as it did. -/
def noteTurnedSpec : ChangeSpec := { name := "noteTurned", fn := fun _ => fun
  | [d1, d2, d3] => { results := [.lit (.bool true)], args := [d1, d2, d3] }
  | _ => none }
def noteTurnedRow : OpenClaim := { program := "ytflpphgccjlkjaa", sum := "bf8e95cab7a5aeed474df9add6adf3a37c4534a4e5b16a2afb06d2cc0ba9863c", func := "marigraph/marigraphlaw17.NoteTurned", spec := "noteTurned", inPlace := ["slices.overlaps[*int]"], unfollowed := true, recurses := true, apart := false }
def NoteTurnedSaid : Prop := noteTurnedRow.holds Try.pinned (OpenSpec.ofChange noteTurnedSpec)

/-- ITS FALSE NEIGHBOUR: 'it returns false'. Refute it at one input. -/
def noteTurnedWrong : ChangeSpec := { name := "noteTurned", fn := fun _ => fun
  | [d1, d2, d3] => { results := [.lit (.bool false)], args := [d1, d2, d3] }
  | _ => none }
def NoteTurnedWrongFalsely : Prop := noteTurnedRow.holds Try.pinned (OpenSpec.ofChange noteTurnedWrong)

/-- 'marigraphlaw17.NoteBack': WHATEVER THE INPUT: true; the input reads as it did. -/
def noteBackSpec : ChangeSpec := { name := "noteBack", fn := fun _ => fun
  | [d1, d2] => { results := [.lit (.bool true)], args := [d1, d2] }
  | _ => none }
def noteBackRow : OpenClaim := { program := "ytflpphgccjlkjaa", sum := "bf8e95cab7a5aeed474df9add6adf3a37c4534a4e5b16a2afb06d2cc0ba9863c", func := "marigraph/marigraphlaw17.NoteBack", spec := "noteBack", inPlace := ["slices.overlaps[*int]"], unfollowed := true, recurses := true, apart := false }
def NoteBackSaid : Prop := noteBackRow.holds Try.pinned (OpenSpec.ofChange noteBackSpec)

/-- ITS FALSE NEIGHBOUR: 'it returns false'. Refute it at one input. -/
def noteBackWrong : ChangeSpec := { name := "noteBack", fn := fun _ => fun
  | [d1, d2] => { results := [.lit (.bool false)], args := [d1, d2] }
  | _ => none }
def NoteBackWrongFalsely : Prop := noteBackRow.holds Try.pinned (OpenSpec.ofChange noteBackWrong)

/- THE SECOND FORM. 'bulk': how many values and letters a reading holds, each counted each time it is reached (what is shared counts as often as it is met; a slice's spare places count too). A statement '..UptoSaid' is the law's where the arguments, and the package variables that the reading takes, are together of bulk at most 1048576: NARROWER than '..Said'. Prove '..Said' where nothing that the law and all that it calls make is longer than what came in: it says more and counts as full. Else prove '..UptoSaid'. A law counts once. -/
mutual
def uptoBulk {H : Type} : DataW H → Nat
  | .lit (.string bytes) => bytes.length + 1
  | .lit _ => 1
  | .nil => 1
  | .ptr d => uptoBulk d + 1
  | .slice elems spare => uptoBulkAll elems + uptoBulkAll spare + 1
  | .agg parts => uptoBulkAll parts + 1
  | .iface _ d => uptoBulk d + 1
  | .map entries => uptoBulkEntries entries + 1
  | .held _ => 1
def uptoBulkAll {H : Type} : List (DataW H) → Nat
  | [] => 0
  | d :: r => uptoBulk d + uptoBulkAll r
def uptoBulkEntries {H : Type} : List (Lit × DataW H) → Nat
  | [] => 0
  | x :: r => uptoBulkEntry x + uptoBulkEntries r
def uptoBulkEntry {H : Type} : Lit × DataW H → Nat
  | (.string bytes, d) => bytes.length + uptoBulk d + 1
  | (_, d) => uptoBulk d + 1
 end
def uptoSmall : (H : Type) → List (DataW H) → Bool := fun _ ds => decide (uptoBulkAll ds ≤ 1048576)
def OpenSpec.upto (s : _root_.Go.ChangeSpec) : _root_.Go.OpenSpec := { _root_.Go.OpenSpec.ofChange s with cond := some uptoSmall }

/-- 'marigraphlaw17.NotePrefixes', WHERE WHAT IT READS IS OF BULK AT MOST 1048576: true; the input reads as it did. -/
def notePrefixesUptoRow : OpenClaim := { program := "ytflpphgccjlkjaa", sum := "bf8e95cab7a5aeed474df9add6adf3a37c4534a4e5b16a2afb06d2cc0ba9863c", func := "marigraph/marigraphlaw17.NotePrefixes", spec := "notePrefixes", inPlace := ["slices.overlaps[*int]"], unfollowed := true, recurses := true, apart := false, narrowed := true }
def NotePrefixesUptoSaid : Prop := notePrefixesUptoRow.holds Try.pinned (OpenSpec.upto notePrefixesSpec)

/-- 'marigraphlaw17.NoteEqual', WHERE WHAT IT READS IS OF BULK AT MOST 1048576: true; the input reads as it did. -/
def noteEqualUptoRow : OpenClaim := { program := "ytflpphgccjlkjaa", sum := "bf8e95cab7a5aeed474df9add6adf3a37c4534a4e5b16a2afb06d2cc0ba9863c", func := "marigraph/marigraphlaw17.NoteEqual", spec := "noteEqual", inPlace := ["slices.overlaps[*int]"], unfollowed := true, recurses := true, apart := false, narrowed := true }
def NoteEqualUptoSaid : Prop := noteEqualUptoRow.holds Try.pinned (OpenSpec.upto noteEqualSpec)

/-- 'marigraphlaw17.NotePuts', WHERE WHAT IT READS IS OF BULK AT MOST 1048576: true; the input reads as it did. -/
def notePutsUptoRow : OpenClaim := { program := "ytflpphgccjlkjaa", sum := "bf8e95cab7a5aeed474df9add6adf3a37c4534a4e5b16a2afb06d2cc0ba9863c", func := "marigraph/marigraphlaw17.NotePuts", spec := "notePuts", inPlace := ["slices.overlaps[*int]"], unfollowed := true, recurses := true, apart := false, narrowed := true }
def NotePutsUptoSaid : Prop := notePutsUptoRow.holds Try.pinned (OpenSpec.upto notePutsSpec)

/-- 'marigraphlaw17.NoteTakes', WHERE WHAT IT READS IS OF BULK AT MOST 1048576: true; the input reads as it did. -/
def noteTakesUptoRow : OpenClaim := { program := "ytflpphgccjlkjaa", sum := "bf8e95cab7a5aeed474df9add6adf3a37c4534a4e5b16a2afb06d2cc0ba9863c", func := "marigraph/marigraphlaw17.NoteTakes", spec := "noteTakes", inPlace := ["slices.overlaps[*int]"], unfollowed := true, recurses := true, apart := false, narrowed := true }
def NoteTakesUptoSaid : Prop := noteTakesUptoRow.holds Try.pinned (OpenSpec.upto noteTakesSpec)

/-- 'marigraphlaw17.NoteTurned', WHERE WHAT IT READS IS OF BULK AT MOST 1048576: true; the input reads as it did. -/
def noteTurnedUptoRow : OpenClaim := { program := "ytflpphgccjlkjaa", sum := "bf8e95cab7a5aeed474df9add6adf3a37c4534a4e5b16a2afb06d2cc0ba9863c", func := "marigraph/marigraphlaw17.NoteTurned", spec := "noteTurned", inPlace := ["slices.overlaps[*int]"], unfollowed := true, recurses := true, apart := false, narrowed := true }
def NoteTurnedUptoSaid : Prop := noteTurnedUptoRow.holds Try.pinned (OpenSpec.upto noteTurnedSpec)

/-- 'marigraphlaw17.NoteBack', WHERE WHAT IT READS IS OF BULK AT MOST 1048576: true; the input reads as it did. -/
def noteBackUptoRow : OpenClaim := { program := "ytflpphgccjlkjaa", sum := "bf8e95cab7a5aeed474df9add6adf3a37c4534a4e5b16a2afb06d2cc0ba9863c", func := "marigraph/marigraphlaw17.NoteBack", spec := "noteBack", inPlace := ["slices.overlaps[*int]"], unfollowed := true, recurses := true, apart := false, narrowed := true }
def NoteBackUptoSaid : Prop := noteBackUptoRow.holds Try.pinned (OpenSpec.upto noteBackSpec)

end Rows
end Go.Proofs.Ytflpphgccjlkjaa
