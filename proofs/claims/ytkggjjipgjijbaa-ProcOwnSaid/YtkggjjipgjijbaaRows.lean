/-
  No cell of these rows narrows 'for every input' (looked for: loops, veiled, ifaces, maps, wideKeys, modest, calm, conditions, laid).
  DERIVED. THE GIVEN ROWS OF THIS SEAT. 7 by the template 'for every input the law returns true; each argument reads behind the call as it read before'; 0 by the template 'total and deterministic' (their statements: YtkggjjipgjijbaaTotals.lean).
  GIVEN WITH THE SEED: the statements are not yours to turn. If you find one false, say at which input.
  Laid BY PROGRAM, IN A SANDBOX (cutbox-rows.mjs): the forced cells as the released guide's own fill.sh prints them over the translation 4be944ceb1daffdd… (all of the seat's roots in one cut). By AI agents, Wed Nov 11 2026. No macro, syntax, notation, axiom, sorry.
-/
import Derived.Test.YtkggjjipgjijbaaChecked
import GoSem.Claim
import GoSem.ClaimJoined
import GoSem.ClaimMapViews
import Derived.JoinedTies
import Derived.KernelRfl
namespace Go.Proofs.Ytkggjjipgjijbaa
/- THE CELL 'sum', in the pinned program and in every row, IS THE sha256 OF THE DUMP (.gsa) THAT YtkggjjipgjijbaaProg.lean LOADS. Nothing in Lean hashes anything: it is a label: what it is worth is what the hold of that sum in a sandbox is worth. -/
noncomputable def Try.pinned : Pinned := { name := "ytkggjjipgjijbaa", sum := "4be944ceb1daffdd8f92153a0ed59c9ce3d005ea123071395993348ddae715e5", checked := Try.checked }
namespace Rows
def none {H : Type} : Left H := { results := [], args := [] }

/-- 'treadlelaw6.ProcChecks': WHATEVER THE INPUT: true; the input reads as it did. -/
def procChecksSpec : ChangeSpec := { name := "procChecks", fn := fun _ => fun
  | [d1, d2, d3] => { results := [.lit (.bool true)], args := [d1, d2, d3] }
  | _ => none }
def procChecksRow : OpenClaim := { program := "ytkggjjipgjijbaa", sum := "4be944ceb1daffdd8f92153a0ed59c9ce3d005ea123071395993348ddae715e5", func := "treadle/treadlelaw6.ProcChecks", spec := "procChecks", unfollowed := true, recurses := true, apart := false }
def ProcChecksSaid : Prop := procChecksRow.holds Try.pinned (OpenSpec.ofChange procChecksSpec)

/-- ITS FALSE NEIGHBOUR: 'it returns false'. Refute it at one input. -/
def procChecksWrong : ChangeSpec := { name := "procChecks", fn := fun _ => fun
  | [d1, d2, d3] => { results := [.lit (.bool false)], args := [d1, d2, d3] }
  | _ => none }
def ProcChecksWrongFalsely : Prop := procChecksRow.holds Try.pinned (OpenSpec.ofChange procChecksWrong)

/-- 'treadlelaw6.ProcEncodes': WHATEVER THE INPUT: true; the input reads as it did. -/
def procEncodesSpec : ChangeSpec := { name := "procEncodes", fn := fun _ => fun
  | [d1, d2, d3] => { results := [.lit (.bool true)], args := [d1, d2, d3] }
  | _ => none }
def procEncodesRow : OpenClaim := { program := "ytkggjjipgjijbaa", sum := "4be944ceb1daffdd8f92153a0ed59c9ce3d005ea123071395993348ddae715e5", func := "treadle/treadlelaw6.ProcEncodes", spec := "procEncodes", unfollowed := true, recurses := true, apart := false }
def ProcEncodesSaid : Prop := procEncodesRow.holds Try.pinned (OpenSpec.ofChange procEncodesSpec)

/-- ITS FALSE NEIGHBOUR: 'it returns false'. Refute it at one input. -/
def procEncodesWrong : ChangeSpec := { name := "procEncodes", fn := fun _ => fun
  | [d1, d2, d3] => { results := [.lit (.bool false)], args := [d1, d2, d3] }
  | _ => none }
def ProcEncodesWrongFalsely : Prop := procEncodesRow.holds Try.pinned (OpenSpec.ofChange procEncodesWrong)

/-- 'treadlelaw6.ProcDecodes': WHATEVER THE INPUT: true; the input reads as it did. -/
def procDecodesSpec : ChangeSpec := { name := "procDecodes", fn := fun _ => fun
  | [d1, d2, d3] => { results := [.lit (.bool true)], args := [d1, d2, d3] }
  | _ => none }
def procDecodesRow : OpenClaim := { program := "ytkggjjipgjijbaa", sum := "4be944ceb1daffdd8f92153a0ed59c9ce3d005ea123071395993348ddae715e5", func := "treadle/treadlelaw6.ProcDecodes", spec := "procDecodes", unfollowed := true, recurses := true, apart := false }
def ProcDecodesSaid : Prop := procDecodesRow.holds Try.pinned (OpenSpec.ofChange procDecodesSpec)

/-- ITS FALSE NEIGHBOUR: 'it returns false'. Refute it at one input. -/
def procDecodesWrong : ChangeSpec := { name := "procDecodes", fn := fun _ => fun
  | [d1, d2, d3] => { results := [.lit (.bool false)], args := [d1, d2, d3] }
  | _ => none }
def ProcDecodesWrongFalsely : Prop := procDecodesRow.holds Try.pinned (OpenSpec.ofChange procDecodesWrong)

/-- 'treadlelaw6.ProcBack': WHATEVER THE INPUT: true; the input reads as it did. -/
def procBackSpec : ChangeSpec := { name := "procBack", fn := fun _ => fun
  | [d1, d2, d3] => { results := [.lit (.bool true)], args := [d1, d2, d3] }
  | _ => none }
def procBackRow : OpenClaim := { program := "ytkggjjipgjijbaa", sum := "4be944ceb1daffdd8f92153a0ed59c9ce3d005ea123071395993348ddae715e5", func := "treadle/treadlelaw6.ProcBack", spec := "procBack", unfollowed := true, recurses := true, apart := false }
def ProcBackSaid : Prop := procBackRow.holds Try.pinned (OpenSpec.ofChange procBackSpec)

/-- ITS FALSE NEIGHBOUR: 'it returns false'. Refute it at one input. -/
def procBackWrong : ChangeSpec := { name := "procBack", fn := fun _ => fun
  | [d1, d2, d3] => { results := [.lit (.bool false)], args := [d1, d2, d3] }
  | _ => none }
def ProcBackWrongFalsely : Prop := procBackRow.holds Try.pinned (OpenSpec.ofChange procBackWrong)

/-- 'treadlelaw6.ProcForm': WHATEVER THE INPUT: true; the input reads as it did. -/
def procFormSpec : ChangeSpec := { name := "procForm", fn := fun _ => fun
  | [d1, d2, d3] => { results := [.lit (.bool true)], args := [d1, d2, d3] }
  | _ => none }
def procFormRow : OpenClaim := { program := "ytkggjjipgjijbaa", sum := "4be944ceb1daffdd8f92153a0ed59c9ce3d005ea123071395993348ddae715e5", func := "treadle/treadlelaw6.ProcForm", spec := "procForm", unfollowed := true, recurses := true, apart := false }
def ProcFormSaid : Prop := procFormRow.holds Try.pinned (OpenSpec.ofChange procFormSpec)

/-- ITS FALSE NEIGHBOUR: 'it returns false'. Refute it at one input. -/
def procFormWrong : ChangeSpec := { name := "procForm", fn := fun _ => fun
  | [d1, d2, d3] => { results := [.lit (.bool false)], args := [d1, d2, d3] }
  | _ => none }
def ProcFormWrongFalsely : Prop := procFormRow.holds Try.pinned (OpenSpec.ofChange procFormWrong)

/-- 'treadlelaw6.ProcEdges': WHATEVER THE INPUT: true; the input reads as it did. -/
def procEdgesSpec : ChangeSpec := { name := "procEdges", fn := fun _ => fun
  | [d1, d2, d3, d4, d5] => { results := [.lit (.bool true)], args := [d1, d2, d3, d4, d5] }
  | _ => none }
def procEdgesRow : OpenClaim := { program := "ytkggjjipgjijbaa", sum := "4be944ceb1daffdd8f92153a0ed59c9ce3d005ea123071395993348ddae715e5", func := "treadle/treadlelaw6.ProcEdges", spec := "procEdges", unfollowed := true, recurses := true, apart := false }
def ProcEdgesSaid : Prop := procEdgesRow.holds Try.pinned (OpenSpec.ofChange procEdgesSpec)

/-- ITS FALSE NEIGHBOUR: 'it returns false'. Refute it at one input. -/
def procEdgesWrong : ChangeSpec := { name := "procEdges", fn := fun _ => fun
  | [d1, d2, d3, d4, d5] => { results := [.lit (.bool false)], args := [d1, d2, d3, d4, d5] }
  | _ => none }
def ProcEdgesWrongFalsely : Prop := procEdgesRow.holds Try.pinned (OpenSpec.ofChange procEdgesWrong)

/-- 'treadlelaw6.ProcOwn': WHATEVER THE INPUT: true; the input reads as it did. -/
def procOwnSpec : ChangeSpec := { name := "procOwn", fn := fun _ => fun
  | [d] => { results := [.lit (.bool true)], args := [d] }
  | _ => none }
def procOwnRow : OpenClaim := { program := "ytkggjjipgjijbaa", sum := "4be944ceb1daffdd8f92153a0ed59c9ce3d005ea123071395993348ddae715e5", func := "treadle/treadlelaw6.ProcOwn", spec := "procOwn", unfollowed := true, recurses := true, apart := false }
def ProcOwnSaid : Prop := procOwnRow.holds Try.pinned (OpenSpec.ofChange procOwnSpec)

/-- ITS FALSE NEIGHBOUR: 'it returns false'. Refute it at one input. -/
def procOwnWrong : ChangeSpec := { name := "procOwn", fn := fun _ => fun
  | [d] => { results := [.lit (.bool false)], args := [d] }
  | _ => none }
def ProcOwnWrongFalsely : Prop := procOwnRow.holds Try.pinned (OpenSpec.ofChange procOwnWrong)

/- THE SECOND FORM. 'bulk': how many values and letters a reading holds, each counted each time it is reached (what is shared counts as often as it is met; a slice's spare places count too). A statement '..UptoSaid' is the law's where the arguments, and the package variables that the reading takes, are together of bulk at most 1048576: NARROWER than '..Said'. Prove '..Said' where nothing that the law and all that it calls make is longer than what came in: it says more and counts as full. Else prove '..UptoSaid'. A law counts once. -/
mutual
def uptoBulk {H : Type} : DataW H → Nat
  | .lit (.string bytes) => bytes.length + 1
  | .lit _ => 1
  | .nil => 1
  | .ptr d => uptoBulk d + 1
  | .slice elems spare => uptoBulkAll elems + uptoBulkAll spare + 1
  | .agg parts => uptoBulkAll parts + 1
  | .iface _ d => uptoBulk d + 1
  | .map entries => uptoBulkEntries entries + 1
  | .held _ => 1
def uptoBulkAll {H : Type} : List (DataW H) → Nat
  | [] => 0
  | d :: r => uptoBulk d + uptoBulkAll r
def uptoBulkEntries {H : Type} : List (Lit × DataW H) → Nat
  | [] => 0
  | x :: r => uptoBulkEntry x + uptoBulkEntries r
def uptoBulkEntry {H : Type} : Lit × DataW H → Nat
  | (.string bytes, d) => bytes.length + uptoBulk d + 1
  | (_, d) => uptoBulk d + 1
 end
def uptoSmall : (H : Type) → List (DataW H) → Bool := fun _ ds => decide (uptoBulkAll ds ≤ 1048576)
def OpenSpec.upto (s : _root_.Go.ChangeSpec) : _root_.Go.OpenSpec := { _root_.Go.OpenSpec.ofChange s with cond := some uptoSmall }

/-- 'treadlelaw6.ProcChecks', WHERE WHAT IT READS IS OF BULK AT MOST 1048576: true; the input reads as it did. -/
def procChecksUptoRow : OpenClaim := { program := "ytkggjjipgjijbaa", sum := "4be944ceb1daffdd8f92153a0ed59c9ce3d005ea123071395993348ddae715e5", func := "treadle/treadlelaw6.ProcChecks", spec := "procChecks", unfollowed := true, recurses := true, apart := false, narrowed := true }
def ProcChecksUptoSaid : Prop := procChecksUptoRow.holds Try.pinned (OpenSpec.upto procChecksSpec)

/-- 'treadlelaw6.ProcEncodes', WHERE WHAT IT READS IS OF BULK AT MOST 1048576: true; the input reads as it did. -/
def procEncodesUptoRow : OpenClaim := { program := "ytkggjjipgjijbaa", sum := "4be944ceb1daffdd8f92153a0ed59c9ce3d005ea123071395993348ddae715e5", func := "treadle/treadlelaw6.ProcEncodes", spec := "procEncodes", unfollowed := true, recurses := true, apart := false, narrowed := true }
def ProcEncodesUptoSaid : Prop := procEncodesUptoRow.holds Try.pinned (OpenSpec.upto procEncodesSpec)

/-- 'treadlelaw6.ProcDecodes', WHERE WHAT IT READS IS OF BULK AT MOST 1048576: true; the input reads as it did. -/
def procDecodesUptoRow : OpenClaim := { program := "ytkggjjipgjijbaa", sum := "4be944ceb1daffdd8f92153a0ed59c9ce3d005ea123071395993348ddae715e5", func := "treadle/treadlelaw6.ProcDecodes", spec := "procDecodes", unfollowed := true, recurses := true, apart := false, narrowed := true }
def ProcDecodesUptoSaid : Prop := procDecodesUptoRow.holds Try.pinned (OpenSpec.upto procDecodesSpec)

/-- 'treadlelaw6.ProcBack', WHERE WHAT IT READS IS OF BULK AT MOST 1048576: true; the input reads as it did. -/
def procBackUptoRow : OpenClaim := { program := "ytkggjjipgjijbaa", sum := "4be944ceb1daffdd8f92153a0ed59c9ce3d005ea123071395993348ddae715e5", func := "treadle/treadlelaw6.ProcBack", spec := "procBack", unfollowed := true, recurses := true, apart := false, narrowed := true }
def ProcBackUptoSaid : Prop := procBackUptoRow.holds Try.pinned (OpenSpec.upto procBackSpec)

/-- 'treadlelaw6.ProcForm', WHERE WHAT IT READS IS OF BULK AT MOST 1048576: true; the input reads as it did. -/
def procFormUptoRow : OpenClaim := { program := "ytkggjjipgjijbaa", sum := "4be944ceb1daffdd8f92153a0ed59c9ce3d005ea123071395993348ddae715e5", func := "treadle/treadlelaw6.ProcForm", spec := "procForm", unfollowed := true, recurses := true, apart := false, narrowed := true }
def ProcFormUptoSaid : Prop := procFormUptoRow.holds Try.pinned (OpenSpec.upto procFormSpec)

/-- 'treadlelaw6.ProcEdges', WHERE WHAT IT READS IS OF BULK AT MOST 1048576: true; the input reads as it did. -/
def procEdgesUptoRow : OpenClaim := { program := "ytkggjjipgjijbaa", sum := "4be944ceb1daffdd8f92153a0ed59c9ce3d005ea123071395993348ddae715e5", func := "treadle/treadlelaw6.ProcEdges", spec := "procEdges", unfollowed := true, recurses := true, apart := false, narrowed := true }
def ProcEdgesUptoSaid : Prop := procEdgesUptoRow.holds Try.pinned (OpenSpec.upto procEdgesSpec)

/-- 'treadlelaw6.ProcOwn', WHERE WHAT IT READS IS OF BULK AT MOST 1048576: true; the input reads as it did. -/
def procOwnUptoRow : OpenClaim := { program := "ytkggjjipgjijbaa", sum := "4be944ceb1daffdd8f92153a0ed59c9ce3d005ea123071395993348ddae715e5", func := "treadle/treadlelaw6.ProcOwn", spec := "procOwn", unfollowed := true, recurses := true, apart := false, narrowed := true }
def ProcOwnUptoSaid : Prop := procOwnUptoRow.holds Try.pinned (OpenSpec.upto procOwnSpec)

end Rows
end Go.Proofs.Ytkggjjipgjijbaa
