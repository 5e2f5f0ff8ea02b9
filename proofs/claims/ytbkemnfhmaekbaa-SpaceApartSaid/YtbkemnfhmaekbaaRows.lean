/-
  No cell of these rows narrows 'for every input' (looked for: loops, veiled, ifaces, maps, wideKeys, modest, calm, conditions, laid).
  DERIVED. THE GIVEN ROWS OF THIS SEAT. 5 by the template 'for every input the law returns true; each argument reads behind the call as it read before'; 0 by the template 'total and deterministic' (their statements: YtbkemnfhmaekbaaTotals.lean).
  GIVEN WITH THE SEED: the statements are not yours to turn. If you find one false, say at which input.
  Laid BY PROGRAM, IN A SANDBOX (cutbox-rows.mjs): the forced cells as the released guide's own fill.sh prints them over the translation 27a29b7df1634550… (all of the seat's roots in one cut). By AI agents, Wed Nov 11 2026. No macro, syntax, notation, axiom, sorry.
-/
import Derived.Test.YtbkemnfhmaekbaaChecked
import GoSem.Claim
import GoSem.ClaimJoined
import GoSem.ClaimMapViews
import Derived.JoinedTies
import Derived.KernelRfl
namespace Go.Proofs.Ytbkemnfhmaekbaa
/- THE CELL 'sum', in the pinned program and in every row, IS THE sha256 OF THE DUMP (.gsa) THAT YtbkemnfhmaekbaaProg.lean LOADS. Nothing in Lean hashes anything: it is a label: what it is worth is what the hold of that sum in a sandbox is worth. -/
noncomputable def Try.pinned : Pinned := { name := "ytbkemnfhmaekbaa", sum := "27a29b7df1634550d3315ca1a1944dbda69f779b41880ca7186b5fe840f71490", checked := Try.checked }
namespace Rows
def none {H : Type} : Left H := { results := [], args := [] }

/-- 'outcroplaw10.SpaceNew': WHATEVER THE INPUT: true; the input reads as it did. -/
def spaceNewSpec : ChangeSpec := { name := "spaceNew", fn := fun _ => fun
  | [d1, d2] => { results := [.lit (.bool true)], args := [d1, d2] }
  | _ => none }
def spaceNewRow : OpenClaim := { program := "ytbkemnfhmaekbaa", sum := "27a29b7df1634550d3315ca1a1944dbda69f779b41880ca7186b5fe840f71490", func := "outcrop/outcroplaw10.SpaceNew", spec := "spaceNew", unfollowed := true, recurses := true, apart := false }
def SpaceNewSaid : Prop := spaceNewRow.holds Try.pinned (OpenSpec.ofChange spaceNewSpec)

/-- ITS FALSE NEIGHBOUR: 'it returns false'. Refute it at one input. -/
def spaceNewWrong : ChangeSpec := { name := "spaceNew", fn := fun _ => fun
  | [d1, d2] => { results := [.lit (.bool false)], args := [d1, d2] }
  | _ => none }
def SpaceNewWrongFalsely : Prop := spaceNewRow.holds Try.pinned (OpenSpec.ofChange spaceNewWrong)

/-- 'outcroplaw10.SpaceDoes': WHATEVER THE INPUT: true; the input reads as it did. -/
def spaceDoesSpec : ChangeSpec := { name := "spaceDoes", fn := fun _ => fun
  | [d1, d2, d3] => { results := [.lit (.bool true)], args := [d1, d2, d3] }
  | _ => none }
def spaceDoesRow : OpenClaim := { program := "ytbkemnfhmaekbaa", sum := "27a29b7df1634550d3315ca1a1944dbda69f779b41880ca7186b5fe840f71490", func := "outcrop/outcroplaw10.SpaceDoes", spec := "spaceDoes", unfollowed := true, recurses := true, apart := false }
def SpaceDoesSaid : Prop := spaceDoesRow.holds Try.pinned (OpenSpec.ofChange spaceDoesSpec)

/-- ITS FALSE NEIGHBOUR: 'it returns false'. Refute it at one input. -/
def spaceDoesWrong : ChangeSpec := { name := "spaceDoes", fn := fun _ => fun
  | [d1, d2, d3] => { results := [.lit (.bool false)], args := [d1, d2, d3] }
  | _ => none }
def SpaceDoesWrongFalsely : Prop := spaceDoesRow.holds Try.pinned (OpenSpec.ofChange spaceDoesWrong)

/-- 'outcroplaw10.SpaceApart': WHATEVER THE INPUT: true; the input reads as it did. -/
def spaceApartSpec : ChangeSpec := { name := "spaceApart", fn := fun _ => fun
  | [d1, d2, d3] => { results := [.lit (.bool true)], args := [d1, d2, d3] }
  | _ => none }
def spaceApartRow : OpenClaim := { program := "ytbkemnfhmaekbaa", sum := "27a29b7df1634550d3315ca1a1944dbda69f779b41880ca7186b5fe840f71490", func := "outcrop/outcroplaw10.SpaceApart", spec := "spaceApart", unfollowed := true, recurses := true, apart := false }
def SpaceApartSaid : Prop := spaceApartRow.holds Try.pinned (OpenSpec.ofChange spaceApartSpec)

/-- ITS FALSE NEIGHBOUR: 'it returns false'. Refute it at one input. -/
def spaceApartWrong : ChangeSpec := { name := "spaceApart", fn := fun _ => fun
  | [d1, d2, d3] => { results := [.lit (.bool false)], args := [d1, d2, d3] }
  | _ => none }
def SpaceApartWrongFalsely : Prop := spaceApartRow.holds Try.pinned (OpenSpec.ofChange spaceApartWrong)

/-- 'outcroplaw10.SpaceFits': WHATEVER THE INPUT: true; the input reads as it did. -/
def spaceFitsSpec : ChangeSpec := { name := "spaceFits", fn := fun _ => fun
  | [d1, d2, d3, d4] => { results := [.lit (.bool true)], args := [d1, d2, d3, d4] }
  | _ => none }
def spaceFitsRow : OpenClaim := { program := "ytbkemnfhmaekbaa", sum := "27a29b7df1634550d3315ca1a1944dbda69f779b41880ca7186b5fe840f71490", func := "outcrop/outcroplaw10.SpaceFits", spec := "spaceFits", unfollowed := true, recurses := true, apart := false }
def SpaceFitsSaid : Prop := spaceFitsRow.holds Try.pinned (OpenSpec.ofChange spaceFitsSpec)

/-- ITS FALSE NEIGHBOUR: 'it returns false'. Refute it at one input. -/
def spaceFitsWrong : ChangeSpec := { name := "spaceFits", fn := fun _ => fun
  | [d1, d2, d3, d4] => { results := [.lit (.bool false)], args := [d1, d2, d3, d4] }
  | _ => none }
def SpaceFitsWrongFalsely : Prop := spaceFitsRow.holds Try.pinned (OpenSpec.ofChange spaceFitsWrong)

/-- 'outcroplaw10.SpaceBack': WHATEVER THE INPUT: true; the input reads as it did. -/
def spaceBackSpec : ChangeSpec := { name := "spaceBack", fn := fun _ => fun
  | [d1, d2, d3, d4] => { results := [.lit (.bool true)], args := [d1, d2, d3, d4] }
  | _ => none }
def spaceBackRow : OpenClaim := { program := "ytbkemnfhmaekbaa", sum := "27a29b7df1634550d3315ca1a1944dbda69f779b41880ca7186b5fe840f71490", func := "outcrop/outcroplaw10.SpaceBack", spec := "spaceBack", unfollowed := true, recurses := true, apart := false }
def SpaceBackSaid : Prop := spaceBackRow.holds Try.pinned (OpenSpec.ofChange spaceBackSpec)

/-- ITS FALSE NEIGHBOUR: 'it returns false'. Refute it at one input. -/
def spaceBackWrong : ChangeSpec := { name := "spaceBack", fn := fun _ => fun
  | [d1, d2, d3, d4] => { results := [.lit (.bool false)], args := [d1, d2, d3, d4] }
  | _ => none }
def SpaceBackWrongFalsely : Prop := spaceBackRow.holds Try.pinned (OpenSpec.ofChange spaceBackWrong)

/- THE SECOND FORM. 'bulk': how many values and letters a reading holds, each counted each time it is reached (what is shared counts as often as it is met; a slice's spare places count too). A statement '..UptoSaid' is the law's where the arguments, and the package variables that the reading takes, are together of bulk at most 1048576: NARROWER than '..Said'. Prove '..Said' where nothing that the law and all that it calls make is longer than what came in: it says more and counts as full. Else prove '..UptoSaid'. A law counts once. -/
mutual
def uptoBulk {H : Type} : DataW H → Nat
  | .lit (.string bytes) => bytes.length + 1
  | .lit _ => 1
  | .nil => 1
  | .ptr d => uptoBulk d + 1
  | .slice elems spare => uptoBulkAll elems + uptoBulkAll spare + 1
  | .agg parts => uptoBulkAll parts + 1
  | .iface _ d => uptoBulk d + 1
  | .map entries => uptoBulkEntries entries + 1
  | .held _ => 1
def uptoBulkAll {H : Type} : List (DataW H) → Nat
  | [] => 0
  | d :: r => uptoBulk d + uptoBulkAll r
def uptoBulkEntries {H : Type} : List (Lit × DataW H) → Nat
  | [] => 0
  | x :: r => uptoBulkEntry x + uptoBulkEntries r
def uptoBulkEntry {H : Type} : Lit × DataW H → Nat
  | (.string bytes, d) => bytes.length + uptoBulk d + 1
  | (_, d) => uptoBulk d + 1
 end
def uptoSmall : (H : Type) → List (DataW H) → Bool := fun _ ds => decide (uptoBulkAll ds ≤ 1048576)
def OpenSpec.upto (s : _root_.Go.ChangeSpec) : _root_.Go.OpenSpec := { _root_.Go.OpenSpec.ofChange s with cond := some uptoSmall }

/-- 'outcroplaw10.SpaceNew', WHERE WHAT IT READS IS OF BULK AT MOST 1048576: true; the input reads as it did. -/
def spaceNewUptoRow : OpenClaim := { program := "ytbkemnfhmaekbaa", sum := "27a29b7df1634550d3315ca1a1944dbda69f779b41880ca7186b5fe840f71490", func := "outcrop/outcroplaw10.SpaceNew", spec := "spaceNew", unfollowed := true, recurses := true, apart := false, narrowed := true }
def SpaceNewUptoSaid : Prop := spaceNewUptoRow.holds Try.pinned (OpenSpec.upto spaceNewSpec)

/-- 'outcroplaw10.SpaceDoes', WHERE WHAT IT READS IS OF BULK AT MOST 1048576: true; the input reads as it did. -/
def spaceDoesUptoRow : OpenClaim := { program := "ytbkemnfhmaekbaa", sum := "27a29b7df1634550d3315ca1a1944dbda69f779b41880ca7186b5fe840f71490", func := "outcrop/outcroplaw10.SpaceDoes", spec := "spaceDoes", unfollowed := true, recurses := true, apart := false, narrowed := true }
def SpaceDoesUptoSaid : Prop := spaceDoesUptoRow.holds Try.pinned (OpenSpec.upto spaceDoesSpec)

/-- 'outcroplaw10.SpaceApart', WHERE WHAT IT READS IS OF BULK AT MOST 1048576: true; the input reads as it did. -/
def spaceApartUptoRow : OpenClaim := { program := "ytbkemnfhmaekbaa", sum := "27a29b7df1634550d3315ca1a1944dbda69f779b41880ca7186b5fe840f71490", func := "outcrop/outcroplaw10.SpaceApart", spec := "spaceApart", unfollowed := true, recurses := true, apart := false, narrowed := true }
def SpaceApartUptoSaid : Prop := spaceApartUptoRow.holds Try.pinned (OpenSpec.upto spaceApartSpec)

/-- 'outcroplaw10.SpaceFits', WHERE WHAT IT READS IS OF BULK AT MOST 1048576: true; the input reads as it did. -/
def spaceFitsUptoRow : OpenClaim := { program := "ytbkemnfhmaekbaa", sum := "27a29b7df1634550d3315ca1a1944dbda69f779b41880ca7186b5fe840f71490", func := "outcrop/outcroplaw10.SpaceFits", spec := "spaceFits", unfollowed := true, recurses := true, apart := false, narrowed := true }
def SpaceFitsUptoSaid : Prop := spaceFitsUptoRow.holds Try.pinned (OpenSpec.upto spaceFitsSpec)

/-- 'outcroplaw10.SpaceBack', WHERE WHAT IT READS IS OF BULK AT MOST 1048576: true; the input reads as it did. -/
def spaceBackUptoRow : OpenClaim := { program := "ytbkemnfhmaekbaa", sum := "27a29b7df1634550d3315ca1a1944dbda69f779b41880ca7186b5fe840f71490", func := "outcrop/outcroplaw10.SpaceBack", spec := "spaceBack", unfollowed := true, recurses := true, apart := false, narrowed := true }
def SpaceBackUptoSaid : Prop := spaceBackUptoRow.holds Try.pinned (OpenSpec.upto spaceBackSpec)

end Rows
end Go.Proofs.Ytbkemnfhmaekbaa
