/-
  No cell of these rows narrows 'for every input' (looked for: loops, veiled, ifaces, maps, wideKeys, modest, calm, conditions, laid).
  DERIVED. THE GIVEN ROWS OF THIS SEAT. 4 by the template 'for every input the law returns true; each argument reads behind the call as it read before'; 0 by the template 'total and deterministic' (their statements: YtnieminnnkbneaaTotals.lean).
  GIVEN WITH THE SEED: the statements are not yours to turn. If you find one false, say at which input.
  Laid BY PROGRAM, IN A SANDBOX (cutbox-rows.mjs): the forced cells as the released guide's own fill.sh prints them over the translation fc9ec417f9729e9e… (all of the seat's roots in one cut). By AI agents, Wed Nov 11 2026. No macro, syntax, notation, axiom, sorry.
-/
import Derived.Test.YtnieminnnkbneaaChecked
import GoSem.Claim
import GoSem.ClaimJoined
import GoSem.ClaimMapViews
import Derived.JoinedTies
import Derived.KernelRfl
namespace Go.Proofs.Ytnieminnnkbneaa
/- THE CELL 'sum', in the pinned program and in every row, IS THE sha256 OF THE DUMP (.gsa) THAT YtnieminnnkbneaaProg.lean LOADS. Nothing in Lean hashes anything: it is a label: what it is worth is what the hold of that sum in a sandbox is worth. -/
noncomputable def Try.pinned : Pinned := { name := "ytnieminnnkbneaa", sum := "fc9ec417f9729e9e06a72e37e2a9d86988304ed76af85727dc776cc9bc66f60d", checked := Try.checked }
namespace Rows
def none {H : Type} : Left H := { results := [], args := [] }

/-- 'treadlelaw14.PageNothing': WHATEVER THE INPUT: true; the input reads as it did. -/
def pageNothingSpec : ChangeSpec := { name := "pageNothing", fn := fun _ => fun
  | [d] => { results := [.lit (.bool true)], args := [d] }
  | _ => none }
def pageNothingRow : OpenClaim := { program := "ytnieminnnkbneaa", sum := "fc9ec417f9729e9e06a72e37e2a9d86988304ed76af85727dc776cc9bc66f60d", func := "treadle/treadlelaw14.PageNothing", spec := "pageNothing", unfollowed := true, recurses := true, apart := false }
def PageNothingSaid : Prop := pageNothingRow.holds Try.pinned (OpenSpec.ofChange pageNothingSpec)

/-- ITS FALSE NEIGHBOUR: 'it returns false'. Refute it at one input. -/
def pageNothingWrong : ChangeSpec := { name := "pageNothing", fn := fun _ => fun
  | [d] => { results := [.lit (.bool false)], args := [d] }
  | _ => none }
def PageNothingWrongFalsely : Prop := pageNothingRow.holds Try.pinned (OpenSpec.ofChange pageNothingWrong)

/-- 'treadlelaw14.PageBack': WHATEVER THE INPUT: true; the input reads as it did. -/
def pageBackSpec : ChangeSpec := { name := "pageBack", fn := fun _ => fun
  | [d1, d2, d3, d4, d5, d6, d7] => { results := [.lit (.bool true)], args := [d1, d2, d3, d4, d5, d6, d7] }
  | _ => none }
def pageBackRow : OpenClaim := { program := "ytnieminnnkbneaa", sum := "fc9ec417f9729e9e06a72e37e2a9d86988304ed76af85727dc776cc9bc66f60d", func := "treadle/treadlelaw14.PageBack", spec := "pageBack", unfollowed := true, recurses := true, apart := false }
def PageBackSaid : Prop := pageBackRow.holds Try.pinned (OpenSpec.ofChange pageBackSpec)

/-- ITS FALSE NEIGHBOUR: 'it returns false'. Refute it at one input. -/
def pageBackWrong : ChangeSpec := { name := "pageBack", fn := fun _ => fun
  | [d1, d2, d3, d4, d5, d6, d7] => { results := [.lit (.bool false)], args := [d1, d2, d3, d4, d5, d6, d7] }
  | _ => none }
def PageBackWrongFalsely : Prop := pageBackRow.holds Try.pinned (OpenSpec.ofChange pageBackWrong)

/-- 'treadlelaw14.PageRefuses': WHATEVER THE INPUT: true; the input reads as it did. -/
def pageRefusesSpec : ChangeSpec := { name := "pageRefuses", fn := fun _ => fun
  | [d1, d2, d3] => { results := [.lit (.bool true)], args := [d1, d2, d3] }
  | _ => none }
def pageRefusesRow : OpenClaim := { program := "ytnieminnnkbneaa", sum := "fc9ec417f9729e9e06a72e37e2a9d86988304ed76af85727dc776cc9bc66f60d", func := "treadle/treadlelaw14.PageRefuses", spec := "pageRefuses", unfollowed := true, recurses := true, apart := false }
def PageRefusesSaid : Prop := pageRefusesRow.holds Try.pinned (OpenSpec.ofChange pageRefusesSpec)

/-- ITS FALSE NEIGHBOUR: 'it returns false'. Refute it at one input. -/
def pageRefusesWrong : ChangeSpec := { name := "pageRefuses", fn := fun _ => fun
  | [d1, d2, d3] => { results := [.lit (.bool false)], args := [d1, d2, d3] }
  | _ => none }
def PageRefusesWrongFalsely : Prop := pageRefusesRow.holds Try.pinned (OpenSpec.ofChange pageRefusesWrong)

/-- 'treadlelaw14.PageOwn': WHATEVER THE INPUT: true; the input reads as it did. -/
def pageOwnSpec : ChangeSpec := { name := "pageOwn", fn := fun _ => fun
  | [d1, d2, d3] => { results := [.lit (.bool true)], args := [d1, d2, d3] }
  | _ => none }
def pageOwnRow : OpenClaim := { program := "ytnieminnnkbneaa", sum := "fc9ec417f9729e9e06a72e37e2a9d86988304ed76af85727dc776cc9bc66f60d", func := "treadle/treadlelaw14.PageOwn", spec := "pageOwn", unfollowed := true, recurses := true, apart := false }
def PageOwnSaid : Prop := pageOwnRow.holds Try.pinned (OpenSpec.ofChange pageOwnSpec)

/-- ITS FALSE NEIGHBOUR: 'it returns false'. Refute it at one input. -/
def pageOwnWrong : ChangeSpec := { name := "pageOwn", fn := fun _ => fun
  | [d1, d2, d3] => { results := [.lit (.bool false)], args := [d1, d2, d3] }
  | _ => none }
def PageOwnWrongFalsely : Prop := pageOwnRow.holds Try.pinned (OpenSpec.ofChange pageOwnWrong)

/- THE SECOND FORM. 'bulk': how many values and letters a reading holds, each counted each time it is reached (what is shared counts as often as it is met; a slice's spare places count too). A statement '..UptoSaid' is the law's where the arguments, and the package variables that the reading takes, are together of bulk at most 1048576: NARROWER than '..Said'. Prove '..Said' where nothing that the law and all that it calls make is longer than what came in: it says more and counts as full. Else prove '..UptoSaid'. A law counts once. -/
mutual
def uptoBulk {H : Type} : DataW H → Nat
  | .lit (.string bytes) => bytes.length + 1
  | .lit _ => 1
  | .nil => 1
  | .ptr d => uptoBulk d + 1
  | .slice elems spare => uptoBulkAll elems + uptoBulkAll spare + 1
  | .agg parts => uptoBulkAll parts + 1
  | .iface _ d => uptoBulk d + 1
  | .map entries => uptoBulkEntries entries + 1
  | .held _ => 1
def uptoBulkAll {H : Type} : List (DataW H) → Nat
  | [] => 0
  | d :: r => uptoBulk d + uptoBulkAll r
def uptoBulkEntries {H : Type} : List (Lit × DataW H) → Nat
  | [] => 0
  | x :: r => uptoBulkEntry x + uptoBulkEntries r
def uptoBulkEntry {H : Type} : Lit × DataW H → Nat
  | (.string bytes, d) => bytes.length + uptoBulk d + 1
  | (_, d) => uptoBulk d + 1
 end
def uptoSmall : (H : Type) → List (DataW H) → Bool := fun _ ds => decide (uptoBulkAll ds ≤ 1048576)
def OpenSpec.upto (s : _root_.Go.ChangeSpec) : _root_.Go.OpenSpec := { _root_.Go.OpenSpec.ofChange s with cond := some uptoSmall }

/-- 'treadlelaw14.PageNothing', WHERE WHAT IT READS IS OF BULK AT MOST 1048576: true; the input reads as it did. -/
def pageNothingUptoRow : OpenClaim := { program := "ytnieminnnkbneaa", sum := "fc9ec417f9729e9e06a72e37e2a9d86988304ed76af85727dc776cc9bc66f60d", func := "treadle/treadlelaw14.PageNothing", spec := "pageNothing", unfollowed := true, recurses := true, apart := false, narrowed := true }
def PageNothingUptoSaid : Prop := pageNothingUptoRow.holds Try.pinned (OpenSpec.upto pageNothingSpec)

/-- 'treadlelaw14.PageBack', WHERE WHAT IT READS IS OF BULK AT MOST 1048576: true; the input reads as it did. -/
def pageBackUptoRow : OpenClaim := { program := "ytnieminnnkbneaa", sum := "fc9ec417f9729e9e06a72e37e2a9d86988304ed76af85727dc776cc9bc66f60d", func := "treadle/treadlelaw14.PageBack", spec := "pageBack", unfollowed := true, recurses := true, apart := false, narrowed := true }
def PageBackUptoSaid : Prop := pageBackUptoRow.holds Try.pinned (OpenSpec.upto pageBackSpec)

/-- 'treadlelaw14.PageRefuses', WHERE WHAT IT READS IS OF BULK AT MOST 1048576: true; the input reads as it did. -/
def pageRefusesUptoRow : OpenClaim := { program := "ytnieminnnkbneaa", sum := "fc9ec417f9729e9e06a72e37e2a9d86988304ed76af85727dc776cc9bc66f60d", func := "treadle/treadlelaw14.PageRefuses", spec := "pageRefuses", unfollowed := true, recurses := true, apart := false, narrowed := true }
def PageRefusesUptoSaid : Prop := pageRefusesUptoRow.holds Try.pinned (OpenSpec.upto pageRefusesSpec)

/-- 'treadlelaw14.PageOwn', WHERE WHAT IT READS IS OF BULK AT MOST 1048576: true; the input reads as it did. -/
def pageOwnUptoRow : OpenClaim := { program := "ytnieminnnkbneaa", sum := "fc9ec417f9729e9e06a72e37e2a9d86988304ed76af85727dc776cc9bc66f60d", func := "treadle/treadlelaw14.PageOwn", spec := "pageOwn", unfollowed := true, recurses := true, apart := false, narrowed := true }
def PageOwnUptoSaid : Prop := pageOwnUptoRow.holds Try.pinned (OpenSpec.upto pageOwnSpec)

end Rows
end Go.Proofs.Ytnieminnnkbneaa
