/-
  No cell of these rows narrows 'for every input' (looked for: loops, veiled, ifaces, maps, wideKeys, modest, calm, conditions, laid).
  DERIVED. THE GIVEN ROWS OF THIS SEAT. 4 by the template 'for every input the law returns true; each argument reads behind the call as it read before'; 0 by the template 'total and deterministic' (their statements: YtacdjinfalohnaaTotals.lean).
  GIVEN WITH THE SEED: the statements are not yours to turn. If you find one false, say at which input.
  Laid BY PROGRAM, IN A SANDBOX (cutbox-rows.mjs): the forced cells as the released guide's own fill.sh prints them over the translation 8b3ecd2303863c1b… (all of the seat's roots in one cut). By AI agents, Wed Nov 11 2026. No macro, syntax, notation, axiom, sorry.
-/
import Derived.Test.YtacdjinfalohnaaChecked
import GoSem.Claim
import GoSem.ClaimJoined
import GoSem.ClaimMapViews
import Derived.JoinedTies
import Derived.KernelRfl
namespace Go.Proofs.Ytacdjinfalohnaa
/- THE CELL 'sum', in the pinned program and in every row, IS THE sha256 OF THE DUMP (.gsa) THAT YtacdjinfalohnaaProg.lean LOADS. Nothing in Lean hashes anything: it is a label: what it is worth is what the hold of that sum in a sandbox is worth. -/
noncomputable def Try.pinned : Pinned := { name := "ytacdjinfalohnaa", sum := "8b3ecd2303863c1b158891ca97842e4dd09ffeac33811baa920df02345c93127", checked := Try.checked }
namespace Rows
def none {H : Type} : Left H := { results := [], args := [] }

/-- 'outcroplaw13.HeightOf': WHATEVER THE INPUT: true; the input reads as it did. -/
def heightOfSpec : ChangeSpec := { name := "heightOf", fn := fun _ => fun
  | [d1, d2, d3] => { results := [.lit (.bool true)], args := [d1, d2, d3] }
  | _ => none }
def heightOfRow : OpenClaim := { program := "ytacdjinfalohnaa", sum := "8b3ecd2303863c1b158891ca97842e4dd09ffeac33811baa920df02345c93127", func := "outcrop/outcroplaw13.HeightOf", spec := "heightOf", unfollowed := true, recurses := true, apart := false }
def HeightOfSaid : Prop := heightOfRow.holds Try.pinned (OpenSpec.ofChange heightOfSpec)

/-- ITS FALSE NEIGHBOUR: 'it returns false'. Refute it at one input. -/
def heightOfWrong : ChangeSpec := { name := "heightOf", fn := fun _ => fun
  | [d1, d2, d3] => { results := [.lit (.bool false)], args := [d1, d2, d3] }
  | _ => none }
def HeightOfWrongFalsely : Prop := heightOfRow.holds Try.pinned (OpenSpec.ofChange heightOfWrong)

/-- 'outcroplaw13.HeightMap': WHATEVER THE INPUT: true; the input reads as it did. -/
def heightMapSpec : ChangeSpec := { name := "heightMap", fn := fun _ => fun
  | [d1, d2] => { results := [.lit (.bool true)], args := [d1, d2] }
  | _ => none }
def heightMapRow : OpenClaim := { program := "ytacdjinfalohnaa", sum := "8b3ecd2303863c1b158891ca97842e4dd09ffeac33811baa920df02345c93127", func := "outcrop/outcroplaw13.HeightMap", spec := "heightMap", unfollowed := true, recurses := true, apart := false }
def HeightMapSaid : Prop := heightMapRow.holds Try.pinned (OpenSpec.ofChange heightMapSpec)

/-- ITS FALSE NEIGHBOUR: 'it returns false'. Refute it at one input. -/
def heightMapWrong : ChangeSpec := { name := "heightMap", fn := fun _ => fun
  | [d1, d2] => { results := [.lit (.bool false)], args := [d1, d2] }
  | _ => none }
def HeightMapWrongFalsely : Prop := heightMapRow.holds Try.pinned (OpenSpec.ofChange heightMapWrong)

/-- 'outcroplaw13.HeightSteps': WHATEVER THE INPUT: true; the input reads as it did. -/
def heightStepsSpec : ChangeSpec := { name := "heightSteps", fn := fun _ => fun
  | [d1, d2, d3] => { results := [.lit (.bool true)], args := [d1, d2, d3] }
  | _ => none }
def heightStepsRow : OpenClaim := { program := "ytacdjinfalohnaa", sum := "8b3ecd2303863c1b158891ca97842e4dd09ffeac33811baa920df02345c93127", func := "outcrop/outcroplaw13.HeightSteps", spec := "heightSteps", unfollowed := true, recurses := true, apart := false }
def HeightStepsSaid : Prop := heightStepsRow.holds Try.pinned (OpenSpec.ofChange heightStepsSpec)

/-- ITS FALSE NEIGHBOUR: 'it returns false'. Refute it at one input. -/
def heightStepsWrong : ChangeSpec := { name := "heightSteps", fn := fun _ => fun
  | [d1, d2, d3] => { results := [.lit (.bool false)], args := [d1, d2, d3] }
  | _ => none }
def HeightStepsWrongFalsely : Prop := heightStepsRow.holds Try.pinned (OpenSpec.ofChange heightStepsWrong)

/-- 'outcroplaw13.HeightMeets': WHATEVER THE INPUT: true; the input reads as it did. -/
def heightMeetsSpec : ChangeSpec := { name := "heightMeets", fn := fun _ => fun
  | [d1, d2] => { results := [.lit (.bool true)], args := [d1, d2] }
  | _ => none }
def heightMeetsRow : OpenClaim := { program := "ytacdjinfalohnaa", sum := "8b3ecd2303863c1b158891ca97842e4dd09ffeac33811baa920df02345c93127", func := "outcrop/outcroplaw13.HeightMeets", spec := "heightMeets", unfollowed := true, recurses := true, apart := false }
def HeightMeetsSaid : Prop := heightMeetsRow.holds Try.pinned (OpenSpec.ofChange heightMeetsSpec)

/-- ITS FALSE NEIGHBOUR: 'it returns false'. Refute it at one input. -/
def heightMeetsWrong : ChangeSpec := { name := "heightMeets", fn := fun _ => fun
  | [d1, d2] => { results := [.lit (.bool false)], args := [d1, d2] }
  | _ => none }
def HeightMeetsWrongFalsely : Prop := heightMeetsRow.holds Try.pinned (OpenSpec.ofChange heightMeetsWrong)

/- THE SECOND FORM. 'bulk': how many values and letters a reading holds, each counted each time it is reached (what is shared counts as often as it is met; a slice's spare places count too). A statement '..UptoSaid' is the law's where the arguments, and the package variables that the reading takes, are together of bulk at most 1048576: NARROWER than '..Said'. Prove '..Said' where nothing that the law and all that it calls make is longer than what came in: it says more and counts as full. Else prove '..UptoSaid'. A law counts once. -/
mutual
def uptoBulk {H : Type} : DataW H → Nat
  | .lit (.string bytes) => bytes.length + 1
  | .lit _ => 1
  | .nil => 1
  | .ptr d => uptoBulk d + 1
  | .slice elems spare => uptoBulkAll elems + uptoBulkAll spare + 1
  | .agg parts => uptoBulkAll parts + 1
  | .iface _ d => uptoBulk d + 1
  | .map entries => uptoBulkEntries entries + 1
  | .held _ => 1
def uptoBulkAll {H : Type} : List (DataW H) → Nat
  | [] => 0
  | d :: r => uptoBulk d + uptoBulkAll r
def uptoBulkEntries {H : Type} : List (Lit × DataW H) → Nat
  | [] => 0
  | x :: r => uptoBulkEntry x + uptoBulkEntries r
def uptoBulkEntry {H : Type} : Lit × DataW H → Nat
  | (.string bytes, d) => bytes.length + uptoBulk d + 1
  | (_, d) => uptoBulk d + 1
 end
def uptoSmall : (H : Type) → List (DataW H) → Bool := fun _ ds => decide (uptoBulkAll ds ≤ 1048576)
def OpenSpec.upto (s : _root_.Go.ChangeSpec) : _root_.Go.OpenSpec := { _root_.Go.OpenSpec.ofChange s with cond := some uptoSmall }

/-- 'outcroplaw13.HeightOf', WHERE WHAT IT READS IS OF BULK AT MOST 1048576: true; the input reads as it did. -/
def heightOfUptoRow : OpenClaim := { program := "ytacdjinfalohnaa", sum := "8b3ecd2303863c1b158891ca97842e4dd09ffeac33811baa920df02345c93127", func := "outcrop/outcroplaw13.HeightOf", spec := "heightOf", unfollowed := true, recurses := true, apart := false, narrowed := true }
def HeightOfUptoSaid : Prop := heightOfUptoRow.holds Try.pinned (OpenSpec.upto heightOfSpec)

/-- 'outcroplaw13.HeightMap', WHERE WHAT IT READS IS OF BULK AT MOST 1048576: true; the input reads as it did. -/
def heightMapUptoRow : OpenClaim := { program := "ytacdjinfalohnaa", sum := "8b3ecd2303863c1b158891ca97842e4dd09ffeac33811baa920df02345c93127", func := "outcrop/outcroplaw13.HeightMap", spec := "heightMap", unfollowed := true, recurses := true, apart := false, narrowed := true }
def HeightMapUptoSaid : Prop := heightMapUptoRow.holds Try.pinned (OpenSpec.upto heightMapSpec)

/-- 'outcroplaw13.HeightSteps', WHERE WHAT IT READS IS OF BULK AT MOST 1048576: true; the input reads as it did. -/
def heightStepsUptoRow : OpenClaim := { program := "ytacdjinfalohnaa", sum := "8b3ecd2303863c1b158891ca97842e4dd09ffeac33811baa920df02345c93127", func := "outcrop/outcroplaw13.HeightSteps", spec := "heightSteps", unfollowed := true, recurses := true, apart := false, narrowed := true }
def HeightStepsUptoSaid : Prop := heightStepsUptoRow.holds Try.pinned (OpenSpec.upto heightStepsSpec)

/-- 'outcroplaw13.HeightMeets', WHERE WHAT IT READS IS OF BULK AT MOST 1048576: true; the input reads as it did. -/
def heightMeetsUptoRow : OpenClaim := { program := "ytacdjinfalohnaa", sum := "8b3ecd2303863c1b158891ca97842e4dd09ffeac33811baa920df02345c93127", func := "outcrop/outcroplaw13.HeightMeets", spec := "heightMeets", unfollowed := true, recurses := true, apart := false, narrowed := true }
def HeightMeetsUptoSaid : Prop := heightMeetsUptoRow.holds Try.pinned (OpenSpec.upto heightMeetsSpec)

end Rows
end Go.Proofs.Ytacdjinfalohnaa
