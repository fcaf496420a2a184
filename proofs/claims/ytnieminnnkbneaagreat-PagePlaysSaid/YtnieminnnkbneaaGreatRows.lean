/-
  No cell of these rows narrows 'for every input' (looked for: loops, veiled, ifaces, maps, wideKeys, modest, calm, conditions, laid).
  DERIVED. THE GIVEN ROWS OF THIS SEAT. 3 by the template 'for every input the law returns true; each argument reads behind the call as it read before'; 0 by the template 'total and deterministic' (their statements: YtnieminnnkbneaaGreatTotals.lean).
  GIVEN WITH THE SEED: the statements are not yours to turn. If you find one false, say at which input.
  Laid BY PROGRAM, IN A SANDBOX (cutbox-rows.mjs): the forced cells as the released guide's own fill.sh prints them over the translation f977722cdc7d5044… (all of the seat's roots in one cut). By AI agents, Wed Nov 11 2026. No macro, syntax, notation, axiom, sorry.
-/
import Derived.Test.YtnieminnnkbneaaGreatChecked
import GoSem.Claim
import GoSem.ClaimJoined
import GoSem.ClaimMapViews
import Derived.JoinedTies
import Derived.KernelRfl
namespace Go.Proofs.YtnieminnnkbneaaGreat
/- THE CELL 'sum', in the pinned program and in every row, IS THE sha256 OF THE DUMP (.gsa) THAT YtnieminnnkbneaaGreatProg.lean LOADS. Nothing in Lean hashes anything: it is a label: what it is worth is what the hold of that sum in a sandbox is worth. -/
noncomputable def Tryz.pinned : Pinned := { name := "ytnieminnnkbneaagreat", sum := "f977722cdc7d504484b34bca01530b9842d65f0a41183ef5f0ee85e2777f49e2", checked := Tryz.checked }
namespace Rows
def none {H : Type} : Left H := { results := [], args := [] }

/-- 'treadlelaw14.PagePlays': WHATEVER THE INPUT: true; the input reads as it did. -/
def pagePlaysSpec : ChangeSpec := { name := "pagePlays", fn := fun _ => fun
  | [d1, d2, d3] => { results := [.lit (.bool true)], args := [d1, d2, d3] }
  | _ => none }
def pagePlaysRow : OpenClaim := { program := "ytnieminnnkbneaagreat", sum := "f977722cdc7d504484b34bca01530b9842d65f0a41183ef5f0ee85e2777f49e2", func := "treadle/treadlelaw14.PagePlays", spec := "pagePlays", unfollowed := true, recurses := true, apart := false }
def PagePlaysSaid : Prop := pagePlaysRow.holds Tryz.pinned (OpenSpec.ofChange pagePlaysSpec)

/-- ITS FALSE NEIGHBOUR: 'it returns false'. Refute it at one input. -/
def pagePlaysWrong : ChangeSpec := { name := "pagePlays", fn := fun _ => fun
  | [d1, d2, d3] => { results := [.lit (.bool false)], args := [d1, d2, d3] }
  | _ => none }
def PagePlaysWrongFalsely : Prop := pagePlaysRow.holds Tryz.pinned (OpenSpec.ofChange pagePlaysWrong)

/-- 'treadlelaw14.PageTwo': WHATEVER THE INPUT: true; the input reads as it did. -/
def pageTwoSpec : ChangeSpec := { name := "pageTwo", fn := fun _ => fun
  | [d1, d2, d3, d4] => { results := [.lit (.bool true)], args := [d1, d2, d3, d4] }
  | _ => none }
def pageTwoRow : OpenClaim := { program := "ytnieminnnkbneaagreat", sum := "f977722cdc7d504484b34bca01530b9842d65f0a41183ef5f0ee85e2777f49e2", func := "treadle/treadlelaw14.PageTwo", spec := "pageTwo", unfollowed := true, recurses := true, apart := false }
def PageTwoSaid : Prop := pageTwoRow.holds Tryz.pinned (OpenSpec.ofChange pageTwoSpec)

/-- ITS FALSE NEIGHBOUR: 'it returns false'. Refute it at one input. -/
def pageTwoWrong : ChangeSpec := { name := "pageTwo", fn := fun _ => fun
  | [d1, d2, d3, d4] => { results := [.lit (.bool false)], args := [d1, d2, d3, d4] }
  | _ => none }
def PageTwoWrongFalsely : Prop := pageTwoRow.holds Tryz.pinned (OpenSpec.ofChange pageTwoWrong)

/-- 'treadlelaw14.PageReads': WHATEVER THE INPUT: true; the input reads as it did. -/
def pageReadsSpec : ChangeSpec := { name := "pageReads", fn := fun _ => fun
  | [d1, d2, d3] => { results := [.lit (.bool true)], args := [d1, d2, d3] }
  | _ => none }
def pageReadsRow : OpenClaim := { program := "ytnieminnnkbneaagreat", sum := "f977722cdc7d504484b34bca01530b9842d65f0a41183ef5f0ee85e2777f49e2", func := "treadle/treadlelaw14.PageReads", spec := "pageReads", unfollowed := true, recurses := true, apart := false }
def PageReadsSaid : Prop := pageReadsRow.holds Tryz.pinned (OpenSpec.ofChange pageReadsSpec)

/-- ITS FALSE NEIGHBOUR: 'it returns false'. Refute it at one input. -/
def pageReadsWrong : ChangeSpec := { name := "pageReads", fn := fun _ => fun
  | [d1, d2, d3] => { results := [.lit (.bool false)], args := [d1, d2, d3] }
  | _ => none }
def PageReadsWrongFalsely : Prop := pageReadsRow.holds Tryz.pinned (OpenSpec.ofChange pageReadsWrong)

/- THE SECOND FORM. 'bulk': how many values and letters a reading holds, each counted each time it is reached (what is shared counts as often as it is met; a slice's spare places count too). A statement '..UptoSaid' is the law's where the arguments, and the package variables that the reading takes, are together of bulk at most 1048576: NARROWER than '..Said'. Prove '..Said' where nothing that the law and all that it calls make is longer than what came in: it says more and counts as full. Else prove '..UptoSaid'. A law counts once. -/
mutual
def uptoBulk {H : Type} : DataW H → Nat
  | .lit (.string bytes) => bytes.length + 1
  | .lit _ => 1
  | .nil => 1
  | .ptr d => uptoBulk d + 1
  | .slice elems spare => uptoBulkAll elems + uptoBulkAll spare + 1
  | .agg parts => uptoBulkAll parts + 1
  | .iface _ d => uptoBulk d + 1
  | .map entries => uptoBulkEntries entries + 1
  | .held _ => 1
def uptoBulkAll {H : Type} : List (DataW H) → Nat
  | [] => 0
  | d :: r => uptoBulk d + uptoBulkAll r
def uptoBulkEntries {H : Type} : List (Lit × DataW H) → Nat
  | [] => 0
  | x :: r => uptoBulkEntry x + uptoBulkEntries r
def uptoBulkEntry {H : Type} : Lit × DataW H → Nat
  | (.string bytes, d) => bytes.length + uptoBulk d + 1
  | (_, d) => uptoBulk d + 1
 end
def uptoSmall : (H : Type) → List (DataW H) → Bool := fun _ ds => decide (uptoBulkAll ds ≤ 1048576)
def OpenSpec.upto (s : _root_.Go.ChangeSpec) : _root_.Go.OpenSpec := { _root_.Go.OpenSpec.ofChange s with cond := some uptoSmall }

/-- 'treadlelaw14.PagePlays', WHERE WHAT IT READS IS OF BULK AT MOST 1048576: true; the input reads as it did. -/
def pagePlaysUptoRow : OpenClaim := { program := "ytnieminnnkbneaagreat", sum := "f977722cdc7d504484b34bca01530b9842d65f0a41183ef5f0ee85e2777f49e2", func := "treadle/treadlelaw14.PagePlays", spec := "pagePlays", unfollowed := true, recurses := true, apart := false, narrowed := true }
def PagePlaysUptoSaid : Prop := pagePlaysUptoRow.holds Tryz.pinned (OpenSpec.upto pagePlaysSpec)

/-- 'treadlelaw14.PageTwo', WHERE WHAT IT READS IS OF BULK AT MOST 1048576: true; the input reads as it did. -/
def pageTwoUptoRow : OpenClaim := { program := "ytnieminnnkbneaagreat", sum := "f977722cdc7d504484b34bca01530b9842d65f0a41183ef5f0ee85e2777f49e2", func := "treadle/treadlelaw14.PageTwo", spec := "pageTwo", unfollowed := true, recurses := true, apart := false, narrowed := true }
def PageTwoUptoSaid : Prop := pageTwoUptoRow.holds Tryz.pinned (OpenSpec.upto pageTwoSpec)

/-- 'treadlelaw14.PageReads', WHERE WHAT IT READS IS OF BULK AT MOST 1048576: true; the input reads as it did. -/
def pageReadsUptoRow : OpenClaim := { program := "ytnieminnnkbneaagreat", sum := "f977722cdc7d504484b34bca01530b9842d65f0a41183ef5f0ee85e2777f49e2", func := "treadle/treadlelaw14.PageReads", spec := "pageReads", unfollowed := true, recurses := true, apart := false, narrowed := true }
def PageReadsUptoSaid : Prop := pageReadsUptoRow.holds Tryz.pinned (OpenSpec.upto pageReadsSpec)

end Rows
end Go.Proofs.YtnieminnnkbneaaGreat
