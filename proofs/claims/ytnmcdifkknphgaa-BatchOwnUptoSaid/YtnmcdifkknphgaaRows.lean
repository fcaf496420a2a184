/-
  No cell of these rows narrows 'for every input' (looked for: loops, veiled, ifaces, maps, wideKeys, modest, calm, conditions, laid).
  DERIVED. THE GIVEN ROWS OF THIS SEAT. 6 by the template 'for every input the law returns true; each argument reads behind the call as it read before'; 0 by the template 'total and deterministic' (their statements: YtnmcdifkknphgaaTotals.lean).
  GIVEN WITH THE SEED: the statements are not yours to turn. If you find one false, say at which input.
  Laid BY PROGRAM, IN A SANDBOX (cutbox-rows.mjs): the forced cells as the released guide's own fill.sh prints them over the translation ccee3c0634f38a9d… (all of the seat's roots in one cut). By AI agents, Wed Nov 11 2026. No macro, syntax, notation, axiom, sorry.
-/
import Derived.Test.YtnmcdifkknphgaaChecked
import GoSem.Claim
import GoSem.ClaimJoined
import GoSem.ClaimMapViews
import Derived.JoinedTies
import Derived.KernelRfl
namespace Go.Proofs.Ytnmcdifkknphgaa
/- THE CELL 'sum', in the pinned program and in every row, IS THE sha256 OF THE DUMP (.gsa) THAT YtnmcdifkknphgaaProg.lean LOADS. Nothing in Lean hashes anything: it is a label: what it is worth is what the hold of that sum in a sandbox is worth. -/
noncomputable def Try.pinned : Pinned := { name := "ytnmcdifkknphgaa", sum := "ccee3c0634f38a9d0c19e07bcb1494777c4de4246d1ce595b3f4a0fb8c879bd6", checked := Try.checked }
namespace Rows
def none {H : Type} : Left H := { results := [], args := [] }

/-- 'treadlelaw12.BatchChecks': WHATEVER THE INPUT: true; the input reads as it did. -/
def batchChecksSpec : ChangeSpec := { name := "batchChecks", fn := fun _ => fun
  | [d1, d2, d3] => { results := [.lit (.bool true)], args := [d1, d2, d3] }
  | _ => none }
def batchChecksRow : OpenClaim := { program := "ytnmcdifkknphgaa", sum := "ccee3c0634f38a9d0c19e07bcb1494777c4de4246d1ce595b3f4a0fb8c879bd6", func := "treadle/treadlelaw12.BatchChecks", spec := "batchChecks", unfollowed := true, recurses := true, apart := false }
def BatchChecksSaid : Prop := batchChecksRow.holds Try.pinned (OpenSpec.ofChange batchChecksSpec)

/-- ITS FALSE NEIGHBOUR: 'it returns false'. Refute it at one input. -/
def batchChecksWrong : ChangeSpec := { name := "batchChecks", fn := fun _ => fun
  | [d1, d2, d3] => { results := [.lit (.bool false)], args := [d1, d2, d3] }
  | _ => none }
def BatchChecksWrongFalsely : Prop := batchChecksRow.holds Try.pinned (OpenSpec.ofChange batchChecksWrong)

/-- 'treadlelaw12.BatchEncodes': WHATEVER THE INPUT: true; the input reads as it did. -/
def batchEncodesSpec : ChangeSpec := { name := "batchEncodes", fn := fun _ => fun
  | [d1, d2, d3] => { results := [.lit (.bool true)], args := [d1, d2, d3] }
  | _ => none }
def batchEncodesRow : OpenClaim := { program := "ytnmcdifkknphgaa", sum := "ccee3c0634f38a9d0c19e07bcb1494777c4de4246d1ce595b3f4a0fb8c879bd6", func := "treadle/treadlelaw12.BatchEncodes", spec := "batchEncodes", unfollowed := true, recurses := true, apart := false }
def BatchEncodesSaid : Prop := batchEncodesRow.holds Try.pinned (OpenSpec.ofChange batchEncodesSpec)

/-- ITS FALSE NEIGHBOUR: 'it returns false'. Refute it at one input. -/
def batchEncodesWrong : ChangeSpec := { name := "batchEncodes", fn := fun _ => fun
  | [d1, d2, d3] => { results := [.lit (.bool false)], args := [d1, d2, d3] }
  | _ => none }
def BatchEncodesWrongFalsely : Prop := batchEncodesRow.holds Try.pinned (OpenSpec.ofChange batchEncodesWrong)

/-- 'treadlelaw12.BatchDecodes': WHATEVER THE INPUT: true; the input reads as it did. -/
def batchDecodesSpec : ChangeSpec := { name := "batchDecodes", fn := fun _ => fun
  | [d1, d2, d3, d4] => { results := [.lit (.bool true)], args := [d1, d2, d3, d4] }
  | _ => none }
def batchDecodesRow : OpenClaim := { program := "ytnmcdifkknphgaa", sum := "ccee3c0634f38a9d0c19e07bcb1494777c4de4246d1ce595b3f4a0fb8c879bd6", func := "treadle/treadlelaw12.BatchDecodes", spec := "batchDecodes", unfollowed := true, recurses := true, apart := false }
def BatchDecodesSaid : Prop := batchDecodesRow.holds Try.pinned (OpenSpec.ofChange batchDecodesSpec)

/-- ITS FALSE NEIGHBOUR: 'it returns false'. Refute it at one input. -/
def batchDecodesWrong : ChangeSpec := { name := "batchDecodes", fn := fun _ => fun
  | [d1, d2, d3, d4] => { results := [.lit (.bool false)], args := [d1, d2, d3, d4] }
  | _ => none }
def BatchDecodesWrongFalsely : Prop := batchDecodesRow.holds Try.pinned (OpenSpec.ofChange batchDecodesWrong)

/-- 'treadlelaw12.BatchBack': WHATEVER THE INPUT: true; the input reads as it did. -/
def batchBackSpec : ChangeSpec := { name := "batchBack", fn := fun _ => fun
  | [d1, d2, d3, d4] => { results := [.lit (.bool true)], args := [d1, d2, d3, d4] }
  | _ => none }
def batchBackRow : OpenClaim := { program := "ytnmcdifkknphgaa", sum := "ccee3c0634f38a9d0c19e07bcb1494777c4de4246d1ce595b3f4a0fb8c879bd6", func := "treadle/treadlelaw12.BatchBack", spec := "batchBack", unfollowed := true, recurses := true, apart := false }
def BatchBackSaid : Prop := batchBackRow.holds Try.pinned (OpenSpec.ofChange batchBackSpec)

/-- ITS FALSE NEIGHBOUR: 'it returns false'. Refute it at one input. -/
def batchBackWrong : ChangeSpec := { name := "batchBack", fn := fun _ => fun
  | [d1, d2, d3, d4] => { results := [.lit (.bool false)], args := [d1, d2, d3, d4] }
  | _ => none }
def BatchBackWrongFalsely : Prop := batchBackRow.holds Try.pinned (OpenSpec.ofChange batchBackWrong)

/-- 'treadlelaw12.BatchForm': WHATEVER THE INPUT: true; the input reads as it did. -/
def batchFormSpec : ChangeSpec := { name := "batchForm", fn := fun _ => fun
  | [d1, d2, d3] => { results := [.lit (.bool true)], args := [d1, d2, d3] }
  | _ => none }
def batchFormRow : OpenClaim := { program := "ytnmcdifkknphgaa", sum := "ccee3c0634f38a9d0c19e07bcb1494777c4de4246d1ce595b3f4a0fb8c879bd6", func := "treadle/treadlelaw12.BatchForm", spec := "batchForm", unfollowed := true, recurses := true, apart := false }
def BatchFormSaid : Prop := batchFormRow.holds Try.pinned (OpenSpec.ofChange batchFormSpec)

/-- ITS FALSE NEIGHBOUR: 'it returns false'. Refute it at one input. -/
def batchFormWrong : ChangeSpec := { name := "batchForm", fn := fun _ => fun
  | [d1, d2, d3] => { results := [.lit (.bool false)], args := [d1, d2, d3] }
  | _ => none }
def BatchFormWrongFalsely : Prop := batchFormRow.holds Try.pinned (OpenSpec.ofChange batchFormWrong)

/-- 'treadlelaw12.BatchOwn': WHATEVER THE INPUT: true; the input reads as it did. -/
def batchOwnSpec : ChangeSpec := { name := "batchOwn", fn := fun _ => fun
  | [d] => { results := [.lit (.bool true)], args := [d] }
  | _ => none }
def batchOwnRow : OpenClaim := { program := "ytnmcdifkknphgaa", sum := "ccee3c0634f38a9d0c19e07bcb1494777c4de4246d1ce595b3f4a0fb8c879bd6", func := "treadle/treadlelaw12.BatchOwn", spec := "batchOwn", unfollowed := true, recurses := true, apart := false }
def BatchOwnSaid : Prop := batchOwnRow.holds Try.pinned (OpenSpec.ofChange batchOwnSpec)

/-- ITS FALSE NEIGHBOUR: 'it returns false'. Refute it at one input. -/
def batchOwnWrong : ChangeSpec := { name := "batchOwn", fn := fun _ => fun
  | [d] => { results := [.lit (.bool false)], args := [d] }
  | _ => none }
def BatchOwnWrongFalsely : Prop := batchOwnRow.holds Try.pinned (OpenSpec.ofChange batchOwnWrong)

/- THE SECOND FORM. 'bulk': how many values and letters a reading holds, each counted each time it is reached (what is shared counts as often as it is met; a slice's spare places count too). A statement '..UptoSaid' is the law's where the arguments, and the package variables that the reading takes, are together of bulk at most 1048576: NARROWER than '..Said'. Prove '..Said' where nothing that the law and all that it calls make is longer than what came in: it says more and counts as full. Else prove '..UptoSaid'. A law counts once. -/
mutual
def uptoBulk {H : Type} : DataW H → Nat
  | .lit (.string bytes) => bytes.length + 1
  | .lit _ => 1
  | .nil => 1
  | .ptr d => uptoBulk d + 1
  | .slice elems spare => uptoBulkAll elems + uptoBulkAll spare + 1
  | .agg parts => uptoBulkAll parts + 1
  | .iface _ d => uptoBulk d + 1
  | .map entries => uptoBulkEntries entries + 1
  | .held _ => 1
def uptoBulkAll {H : Type} : List (DataW H) → Nat
  | [] => 0
  | d :: r => uptoBulk d + uptoBulkAll r
def uptoBulkEntries {H : Type} : List (Lit × DataW H) → Nat
  | [] => 0
  | x :: r => uptoBulkEntry x + uptoBulkEntries r
def uptoBulkEntry {H : Type} : Lit × DataW H → Nat
  | (.string bytes, d) => bytes.length + uptoBulk d + 1
  | (_, d) => uptoBulk d + 1
 end
def uptoSmall : (H : Type) → List (DataW H) → Bool := fun _ ds => decide (uptoBulkAll ds ≤ 1048576)
def OpenSpec.upto (s : _root_.Go.ChangeSpec) : _root_.Go.OpenSpec := { _root_.Go.OpenSpec.ofChange s with cond := some uptoSmall }

/-- 'treadlelaw12.BatchChecks', WHERE WHAT IT READS IS OF BULK AT MOST 1048576: true; the input reads as it did. -/
def batchChecksUptoRow : OpenClaim := { program := "ytnmcdifkknphgaa", sum := "ccee3c0634f38a9d0c19e07bcb1494777c4de4246d1ce595b3f4a0fb8c879bd6", func := "treadle/treadlelaw12.BatchChecks", spec := "batchChecks", unfollowed := true, recurses := true, apart := false, narrowed := true }
def BatchChecksUptoSaid : Prop := batchChecksUptoRow.holds Try.pinned (OpenSpec.upto batchChecksSpec)

/-- 'treadlelaw12.BatchEncodes', WHERE WHAT IT READS IS OF BULK AT MOST 1048576: true; the input reads as it did. -/
def batchEncodesUptoRow : OpenClaim := { program := "ytnmcdifkknphgaa", sum := "ccee3c0634f38a9d0c19e07bcb1494777c4de4246d1ce595b3f4a0fb8c879bd6", func := "treadle/treadlelaw12.BatchEncodes", spec := "batchEncodes", unfollowed := true, recurses := true, apart := false, narrowed := true }
def BatchEncodesUptoSaid : Prop := batchEncodesUptoRow.holds Try.pinned (OpenSpec.upto batchEncodesSpec)

/-- 'treadlelaw12.BatchDecodes', WHERE WHAT IT READS IS OF BULK AT MOST 1048576: true; the input reads as it did. -/
def batchDecodesUptoRow : OpenClaim := { program := "ytnmcdifkknphgaa", sum := "ccee3c0634f38a9d0c19e07bcb1494777c4de4246d1ce595b3f4a0fb8c879bd6", func := "treadle/treadlelaw12.BatchDecodes", spec := "batchDecodes", unfollowed := true, recurses := true, apart := false, narrowed := true }
def BatchDecodesUptoSaid : Prop := batchDecodesUptoRow.holds Try.pinned (OpenSpec.upto batchDecodesSpec)

/-- 'treadlelaw12.BatchBack', WHERE WHAT IT READS IS OF BULK AT MOST 1048576: true; the input reads as it did. -/
def batchBackUptoRow : OpenClaim := { program := "ytnmcdifkknphgaa", sum := "ccee3c0634f38a9d0c19e07bcb1494777c4de4246d1ce595b3f4a0fb8c879bd6", func := "treadle/treadlelaw12.BatchBack", spec := "batchBack", unfollowed := true, recurses := true, apart := false, narrowed := true }
def BatchBackUptoSaid : Prop := batchBackUptoRow.holds Try.pinned (OpenSpec.upto batchBackSpec)

/-- 'treadlelaw12.BatchForm', WHERE WHAT IT READS IS OF BULK AT MOST 1048576: true; the input reads as it did. -/
def batchFormUptoRow : OpenClaim := { program := "ytnmcdifkknphgaa", sum := "ccee3c0634f38a9d0c19e07bcb1494777c4de4246d1ce595b3f4a0fb8c879bd6", func := "treadle/treadlelaw12.BatchForm", spec := "batchForm", unfollowed := true, recurses := true, apart := false, narrowed := true }
def BatchFormUptoSaid : Prop := batchFormUptoRow.holds Try.pinned (OpenSpec.upto batchFormSpec)

/-- 'treadlelaw12.BatchOwn', WHERE WHAT IT READS IS OF BULK AT MOST 1048576: true; the input reads as it did. -/
def batchOwnUptoRow : OpenClaim := { program := "ytnmcdifkknphgaa", sum := "ccee3c0634f38a9d0c19e07bcb1494777c4de4246d1ce595b3f4a0fb8c879bd6", func := "treadle/treadlelaw12.BatchOwn", spec := "batchOwn", unfollowed := true, recurses := true, apart := false, narrowed := true }
def BatchOwnUptoSaid : Prop := batchOwnUptoRow.holds Try.pinned (OpenSpec.upto batchOwnSpec)

end Rows
end Go.Proofs.Ytnmcdifkknphgaa
