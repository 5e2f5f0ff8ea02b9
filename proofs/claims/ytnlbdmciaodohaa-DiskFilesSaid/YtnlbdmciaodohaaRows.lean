/-
  No cell of these rows narrows 'for every input' (looked for: loops, veiled, ifaces, maps, wideKeys, modest, calm, conditions, laid).
  DERIVED. THE GIVEN ROWS OF THIS SEAT. 4 by the template 'for every input the law returns true; each argument reads behind the call as it read before'; 0 by the template 'total and deterministic' (their statements: YtnlbdmciaodohaaTotals.lean).
  GIVEN WITH THE SEED: the statements are not yours to turn. If you find one false, say at which input.
  Laid BY PROGRAM, IN A SANDBOX (cutbox-rows.mjs): the forced cells as the released guide's own fill.sh prints them over the translation de418e7917ae328f… (all of the seat's roots in one cut). By AI agents, Wed Nov 11 2026. No macro, syntax, notation, axiom, sorry.
-/
import Derived.Test.YtnlbdmciaodohaaChecked
import GoSem.Claim
import GoSem.ClaimJoined
import GoSem.ClaimMapViews
import Derived.JoinedTies
import Derived.KernelRfl
namespace Go.Proofs.Ytnlbdmciaodohaa
/- THE CELL 'sum', in the pinned program and in every row, IS THE sha256 OF THE DUMP (.gsa) THAT YtnlbdmciaodohaaProg.lean LOADS. Nothing in Lean hashes anything: it is a label: what it is worth is what the hold of that sum in a sandbox is worth. -/
noncomputable def Try.pinned : Pinned := { name := "ytnlbdmciaodohaa", sum := "de418e7917ae328fd3fe940e28be554b6e88a6de115922483d3080172fa886d0", checked := Try.checked }
namespace Rows
def none {H : Type} : Left H := { results := [], args := [] }

/-- 'outcroplaw08.DiskCuts': WHATEVER THE INPUT: true; the input reads as it did. -/
def diskCutsSpec : ChangeSpec := { name := "diskCuts", fn := fun _ => fun
  | [d1, d2] => { results := [.lit (.bool true)], args := [d1, d2] }
  | _ => none }
def diskCutsRow : OpenClaim := { program := "ytnlbdmciaodohaa", sum := "de418e7917ae328fd3fe940e28be554b6e88a6de115922483d3080172fa886d0", func := "outcrop/outcroplaw08.DiskCuts", spec := "diskCuts", plainKeys := false, apart := false }
def DiskCutsSaid : Prop := diskCutsRow.holds Try.pinned (OpenSpec.ofChange diskCutsSpec)

/-- ITS FALSE NEIGHBOUR: 'it returns false'. Refute it at one input. -/
def diskCutsWrong : ChangeSpec := { name := "diskCuts", fn := fun _ => fun
  | [d1, d2] => { results := [.lit (.bool false)], args := [d1, d2] }
  | _ => none }
def DiskCutsWrongFalsely : Prop := diskCutsRow.holds Try.pinned (OpenSpec.ofChange diskCutsWrong)

/-- 'outcroplaw08.DiskDoes': WHATEVER THE INPUT: true; the input reads as it did. -/
def diskDoesSpec : ChangeSpec := { name := "diskDoes", fn := fun _ => fun
  | [d] => { results := [.lit (.bool true)], args := [d] }
  | _ => none }
def diskDoesRow : OpenClaim := { program := "ytnlbdmciaodohaa", sum := "de418e7917ae328fd3fe940e28be554b6e88a6de115922483d3080172fa886d0", func := "outcrop/outcroplaw08.DiskDoes", spec := "diskDoes", unfollowed := true, recurses := true, plainKeys := false, apart := false }
def DiskDoesSaid : Prop := diskDoesRow.holds Try.pinned (OpenSpec.ofChange diskDoesSpec)

/-- ITS FALSE NEIGHBOUR: 'it returns false'. Refute it at one input. -/
def diskDoesWrong : ChangeSpec := { name := "diskDoes", fn := fun _ => fun
  | [d] => { results := [.lit (.bool false)], args := [d] }
  | _ => none }
def DiskDoesWrongFalsely : Prop := diskDoesRow.holds Try.pinned (OpenSpec.ofChange diskDoesWrong)

/-- 'outcroplaw08.DiskFiles': WHATEVER THE INPUT: true; the input reads as it did. -/
def diskFilesSpec : ChangeSpec := { name := "diskFiles", fn := fun _ => fun
  | [d1, d2] => { results := [.lit (.bool true)], args := [d1, d2] }
  | _ => none }
def diskFilesRow : OpenClaim := { program := "ytnlbdmciaodohaa", sum := "de418e7917ae328fd3fe940e28be554b6e88a6de115922483d3080172fa886d0", func := "outcrop/outcroplaw08.DiskFiles", spec := "diskFiles", unfollowed := true, recurses := true, plainKeys := false, apart := false }
def DiskFilesSaid : Prop := diskFilesRow.holds Try.pinned (OpenSpec.ofChange diskFilesSpec)

/-- ITS FALSE NEIGHBOUR: 'it returns false'. Refute it at one input. -/
def diskFilesWrong : ChangeSpec := { name := "diskFiles", fn := fun _ => fun
  | [d1, d2] => { results := [.lit (.bool false)], args := [d1, d2] }
  | _ => none }
def DiskFilesWrongFalsely : Prop := diskFilesRow.holds Try.pinned (OpenSpec.ofChange diskFilesWrong)

/-- 'outcroplaw08.DiskReads': WHATEVER THE INPUT: true; the input reads as it did. -/
def diskReadsSpec : ChangeSpec := { name := "diskReads", fn := fun _ => fun
  | [d1, d2, d3] => { results := [.lit (.bool true)], args := [d1, d2, d3] }
  | _ => none }
def diskReadsRow : OpenClaim := { program := "ytnlbdmciaodohaa", sum := "de418e7917ae328fd3fe940e28be554b6e88a6de115922483d3080172fa886d0", func := "outcrop/outcroplaw08.DiskReads", spec := "diskReads", unfollowed := true, recurses := true, plainKeys := false, apart := false }
def DiskReadsSaid : Prop := diskReadsRow.holds Try.pinned (OpenSpec.ofChange diskReadsSpec)

/-- ITS FALSE NEIGHBOUR: 'it returns false'. Refute it at one input. -/
def diskReadsWrong : ChangeSpec := { name := "diskReads", fn := fun _ => fun
  | [d1, d2, d3] => { results := [.lit (.bool false)], args := [d1, d2, d3] }
  | _ => none }
def DiskReadsWrongFalsely : Prop := diskReadsRow.holds Try.pinned (OpenSpec.ofChange diskReadsWrong)

/- THE SECOND FORM. 'bulk': how many values and letters a reading holds, each counted each time it is reached (what is shared counts as often as it is met; a slice's spare places count too). A statement '..UptoSaid' is the law's where the arguments, and the package variables that the reading takes, are together of bulk at most 1048576: NARROWER than '..Said'. Prove '..Said' where nothing that the law and all that it calls make is longer than what came in: it says more and counts as full. Else prove '..UptoSaid'. A law counts once. -/
mutual
def uptoBulk {H : Type} : DataW H → Nat
  | .lit (.string bytes) => bytes.length + 1
  | .lit _ => 1
  | .nil => 1
  | .ptr d => uptoBulk d + 1
  | .slice elems spare => uptoBulkAll elems + uptoBulkAll spare + 1
  | .agg parts => uptoBulkAll parts + 1
  | .iface _ d => uptoBulk d + 1
  | .map entries => uptoBulkEntries entries + 1
  | .held _ => 1
def uptoBulkAll {H : Type} : List (DataW H) → Nat
  | [] => 0
  | d :: r => uptoBulk d + uptoBulkAll r
def uptoBulkEntries {H : Type} : List (Lit × DataW H) → Nat
  | [] => 0
  | x :: r => uptoBulkEntry x + uptoBulkEntries r
def uptoBulkEntry {H : Type} : Lit × DataW H → Nat
  | (.string bytes, d) => bytes.length + uptoBulk d + 1
  | (_, d) => uptoBulk d + 1
 end
def uptoSmall : (H : Type) → List (DataW H) → Bool := fun _ ds => decide (uptoBulkAll ds ≤ 1048576)
def OpenSpec.upto (s : _root_.Go.ChangeSpec) : _root_.Go.OpenSpec := { _root_.Go.OpenSpec.ofChange s with cond := some uptoSmall }

/-- 'outcroplaw08.DiskCuts', WHERE WHAT IT READS IS OF BULK AT MOST 1048576: true; the input reads as it did. -/
def diskCutsUptoRow : OpenClaim := { program := "ytnlbdmciaodohaa", sum := "de418e7917ae328fd3fe940e28be554b6e88a6de115922483d3080172fa886d0", func := "outcrop/outcroplaw08.DiskCuts", spec := "diskCuts", plainKeys := false, apart := false, narrowed := true }
def DiskCutsUptoSaid : Prop := diskCutsUptoRow.holds Try.pinned (OpenSpec.upto diskCutsSpec)

/-- 'outcroplaw08.DiskDoes', WHERE WHAT IT READS IS OF BULK AT MOST 1048576: true; the input reads as it did. -/
def diskDoesUptoRow : OpenClaim := { program := "ytnlbdmciaodohaa", sum := "de418e7917ae328fd3fe940e28be554b6e88a6de115922483d3080172fa886d0", func := "outcrop/outcroplaw08.DiskDoes", spec := "diskDoes", unfollowed := true, recurses := true, plainKeys := false, apart := false, narrowed := true }
def DiskDoesUptoSaid : Prop := diskDoesUptoRow.holds Try.pinned (OpenSpec.upto diskDoesSpec)

/-- 'outcroplaw08.DiskFiles', WHERE WHAT IT READS IS OF BULK AT MOST 1048576: true; the input reads as it did. -/
def diskFilesUptoRow : OpenClaim := { program := "ytnlbdmciaodohaa", sum := "de418e7917ae328fd3fe940e28be554b6e88a6de115922483d3080172fa886d0", func := "outcrop/outcroplaw08.DiskFiles", spec := "diskFiles", unfollowed := true, recurses := true, plainKeys := false, apart := false, narrowed := true }
def DiskFilesUptoSaid : Prop := diskFilesUptoRow.holds Try.pinned (OpenSpec.upto diskFilesSpec)

/-- 'outcroplaw08.DiskReads', WHERE WHAT IT READS IS OF BULK AT MOST 1048576: true; the input reads as it did. -/
def diskReadsUptoRow : OpenClaim := { program := "ytnlbdmciaodohaa", sum := "de418e7917ae328fd3fe940e28be554b6e88a6de115922483d3080172fa886d0", func := "outcrop/outcroplaw08.DiskReads", spec := "diskReads", unfollowed := true, recurses := true, plainKeys := false, apart := false, narrowed := true }
def DiskReadsUptoSaid : Prop := diskReadsUptoRow.holds Try.pinned (OpenSpec.upto diskReadsSpec)

end Rows
end Go.Proofs.Ytnlbdmciaodohaa
