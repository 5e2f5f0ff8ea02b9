/-
  No cell of these rows narrows 'for every input' (looked for: loops, veiled, ifaces, maps, wideKeys, modest, calm, conditions, laid).
  DERIVED. THE GIVEN ROWS OF THIS SEAT. 6 by the template 'for every input the law returns true; each argument reads behind the call as it read before'; 0 by the template 'total and deterministic' (their statements: YthlhcpdkimcjhaaTotals.lean).
  GIVEN WITH THE SEED: the statements are not yours to turn. If you find one false, say at which input.
  Laid BY PROGRAM, IN A SANDBOX (cutbox-rows.mjs): the forced cells as the released guide's own fill.sh prints them over the translation 3c68aebe0826a10f… (all of the seat's roots in one cut). By AI agents, Wed Nov 11 2026. No macro, syntax, notation, axiom, sorry.
-/
import Derived.Test.YthlhcpdkimcjhaaChecked
import GoSem.Claim
import GoSem.ClaimJoined
import GoSem.ClaimMapViews
import Derived.JoinedTies
import Derived.KernelRfl
namespace Go.Proofs.Ythlhcpdkimcjhaa
/- THE CELL 'sum', in the pinned program and in every row, IS THE sha256 OF THE DUMP (.gsa) THAT YthlhcpdkimcjhaaProg.lean LOADS. Nothing in Lean hashes anything: it is a label: what it is worth is what the hold of that sum in a sandbox is worth. -/
noncomputable def Try.pinned : Pinned := { name := "ythlhcpdkimcjhaa", sum := "3c68aebe0826a10f945d75e3aa9ed044f6692a9f6c674738e643af8983fcb3b5", checked := Try.checked }
namespace Rows
def none {H : Type} : Left H := { results := [], args := [] }

/-- 'outcroplaw03.NoiseCorners': WHATEVER THE INPUT: true; the input reads as it did. -/
def noiseCornersSpec : ChangeSpec := { name := "noiseCorners", fn := fun _ => fun
  | [d1, d2, d3, d4] => { results := [.lit (.bool true)], args := [d1, d2, d3, d4] }
  | _ => none }
def noiseCornersRow : OpenClaim := { program := "ythlhcpdkimcjhaa", sum := "3c68aebe0826a10f945d75e3aa9ed044f6692a9f6c674738e643af8983fcb3b5", func := "outcrop/outcroplaw03.NoiseCorners", spec := "noiseCorners", apart := false }
def NoiseCornersSaid : Prop := noiseCornersRow.holds Try.pinned (OpenSpec.ofChange noiseCornersSpec)

/-- ITS FALSE NEIGHBOUR: 'it returns false'. Refute it at one input. -/
def noiseCornersWrong : ChangeSpec := { name := "noiseCorners", fn := fun _ => fun
  | [d1, d2, d3, d4] => { results := [.lit (.bool false)], args := [d1, d2, d3, d4] }
  | _ => none }
def NoiseCornersWrongFalsely : Prop := noiseCornersRow.holds Try.pinned (OpenSpec.ofChange noiseCornersWrong)

/-- 'outcroplaw03.NoiseFades': WHATEVER THE INPUT: true; the input reads as it did. -/
def noiseFadesSpec : ChangeSpec := { name := "noiseFades", fn := fun _ => fun
  | [d1, d2] => { results := [.lit (.bool true)], args := [d1, d2] }
  | _ => none }
def noiseFadesRow : OpenClaim := { program := "ythlhcpdkimcjhaa", sum := "3c68aebe0826a10f945d75e3aa9ed044f6692a9f6c674738e643af8983fcb3b5", func := "outcrop/outcroplaw03.NoiseFades", spec := "noiseFades", apart := false }
def NoiseFadesSaid : Prop := noiseFadesRow.holds Try.pinned (OpenSpec.ofChange noiseFadesSpec)

/-- ITS FALSE NEIGHBOUR: 'it returns false'. Refute it at one input. -/
def noiseFadesWrong : ChangeSpec := { name := "noiseFades", fn := fun _ => fun
  | [d1, d2] => { results := [.lit (.bool false)], args := [d1, d2] }
  | _ => none }
def NoiseFadesWrongFalsely : Prop := noiseFadesRow.holds Try.pinned (OpenSpec.ofChange noiseFadesWrong)

/-- 'outcroplaw03.NoiseFlats': WHATEVER THE INPUT: true; the input reads as it did. -/
def noiseFlatsSpec : ChangeSpec := { name := "noiseFlats", fn := fun _ => fun
  | [d1, d2, d3, d4, d5] => { results := [.lit (.bool true)], args := [d1, d2, d3, d4, d5] }
  | _ => none }
def noiseFlatsRow : OpenClaim := { program := "ythlhcpdkimcjhaa", sum := "3c68aebe0826a10f945d75e3aa9ed044f6692a9f6c674738e643af8983fcb3b5", func := "outcrop/outcroplaw03.NoiseFlats", spec := "noiseFlats", apart := false }
def NoiseFlatsSaid : Prop := noiseFlatsRow.holds Try.pinned (OpenSpec.ofChange noiseFlatsSpec)

/-- ITS FALSE NEIGHBOUR: 'it returns false'. Refute it at one input. -/
def noiseFlatsWrong : ChangeSpec := { name := "noiseFlats", fn := fun _ => fun
  | [d1, d2, d3, d4, d5] => { results := [.lit (.bool false)], args := [d1, d2, d3, d4, d5] }
  | _ => none }
def NoiseFlatsWrongFalsely : Prop := noiseFlatsRow.holds Try.pinned (OpenSpec.ofChange noiseFlatsWrong)

/-- 'outcroplaw03.NoiseMeets': WHATEVER THE INPUT: true; the input reads as it did. -/
def noiseMeetsSpec : ChangeSpec := { name := "noiseMeets", fn := fun _ => fun
  | [d1, d2, d3, d4, d5] => { results := [.lit (.bool true)], args := [d1, d2, d3, d4, d5] }
  | _ => none }
def noiseMeetsRow : OpenClaim := { program := "ythlhcpdkimcjhaa", sum := "3c68aebe0826a10f945d75e3aa9ed044f6692a9f6c674738e643af8983fcb3b5", func := "outcrop/outcroplaw03.NoiseMeets", spec := "noiseMeets", apart := false }
def NoiseMeetsSaid : Prop := noiseMeetsRow.holds Try.pinned (OpenSpec.ofChange noiseMeetsSpec)

/-- ITS FALSE NEIGHBOUR: 'it returns false'. Refute it at one input. -/
def noiseMeetsWrong : ChangeSpec := { name := "noiseMeets", fn := fun _ => fun
  | [d1, d2, d3, d4, d5] => { results := [.lit (.bool false)], args := [d1, d2, d3, d4, d5] }
  | _ => none }
def NoiseMeetsWrongFalsely : Prop := noiseMeetsRow.holds Try.pinned (OpenSpec.ofChange noiseMeetsWrong)

/-- 'outcroplaw03.NoiseSums': WHATEVER THE INPUT: true; the input reads as it did. -/
def noiseSumsSpec : ChangeSpec := { name := "noiseSums", fn := fun _ => fun
  | [d1, d2, d3, d4, d5, d6] => { results := [.lit (.bool true)], args := [d1, d2, d3, d4, d5, d6] }
  | _ => none }
def noiseSumsRow : OpenClaim := { program := "ythlhcpdkimcjhaa", sum := "3c68aebe0826a10f945d75e3aa9ed044f6692a9f6c674738e643af8983fcb3b5", func := "outcrop/outcroplaw03.NoiseSums", spec := "noiseSums", apart := false }
def NoiseSumsSaid : Prop := noiseSumsRow.holds Try.pinned (OpenSpec.ofChange noiseSumsSpec)

/-- ITS FALSE NEIGHBOUR: 'it returns false'. Refute it at one input. -/
def noiseSumsWrong : ChangeSpec := { name := "noiseSums", fn := fun _ => fun
  | [d1, d2, d3, d4, d5, d6] => { results := [.lit (.bool false)], args := [d1, d2, d3, d4, d5, d6] }
  | _ => none }
def NoiseSumsWrongFalsely : Prop := noiseSumsRow.holds Try.pinned (OpenSpec.ofChange noiseSumsWrong)

/-- 'outcroplaw03.NoiseOnes': WHATEVER THE INPUT: true; the input reads as it did. -/
def noiseOnesSpec : ChangeSpec := { name := "noiseOnes", fn := fun _ => fun
  | [d1, d2, d3, d4, d5, d6] => { results := [.lit (.bool true)], args := [d1, d2, d3, d4, d5, d6] }
  | _ => none }
def noiseOnesRow : OpenClaim := { program := "ythlhcpdkimcjhaa", sum := "3c68aebe0826a10f945d75e3aa9ed044f6692a9f6c674738e643af8983fcb3b5", func := "outcrop/outcroplaw03.NoiseOnes", spec := "noiseOnes", apart := false }
def NoiseOnesSaid : Prop := noiseOnesRow.holds Try.pinned (OpenSpec.ofChange noiseOnesSpec)

/-- ITS FALSE NEIGHBOUR: 'it returns false'. Refute it at one input. -/
def noiseOnesWrong : ChangeSpec := { name := "noiseOnes", fn := fun _ => fun
  | [d1, d2, d3, d4, d5, d6] => { results := [.lit (.bool false)], args := [d1, d2, d3, d4, d5, d6] }
  | _ => none }
def NoiseOnesWrongFalsely : Prop := noiseOnesRow.holds Try.pinned (OpenSpec.ofChange noiseOnesWrong)

/- THE SECOND FORM. 'bulk': how many values and letters a reading holds, each counted each time it is reached (what is shared counts as often as it is met; a slice's spare places count too). A statement '..UptoSaid' is the law's where the arguments, and the package variables that the reading takes, are together of bulk at most 1048576: NARROWER than '..Said'. Prove '..Said' where nothing that the law and all that it calls make is longer than what came in: it says more and counts as full. Else prove '..UptoSaid'. A law counts once. -/
mutual
def uptoBulk {H : Type} : DataW H → Nat
  | .lit (.string bytes) => bytes.length + 1
  | .lit _ => 1
  | .nil => 1
  | .ptr d => uptoBulk d + 1
  | .slice elems spare => uptoBulkAll elems + uptoBulkAll spare + 1
  | .agg parts => uptoBulkAll parts + 1
  | .iface _ d => uptoBulk d + 1
  | .map entries => uptoBulkEntries entries + 1
  | .held _ => 1
def uptoBulkAll {H : Type} : List (DataW H) → Nat
  | [] => 0
  | d :: r => uptoBulk d + uptoBulkAll r
def uptoBulkEntries {H : Type} : List (Lit × DataW H) → Nat
  | [] => 0
  | x :: r => uptoBulkEntry x + uptoBulkEntries r
def uptoBulkEntry {H : Type} : Lit × DataW H → Nat
  | (.string bytes, d) => bytes.length + uptoBulk d + 1
  | (_, d) => uptoBulk d + 1
 end
def uptoSmall : (H : Type) → List (DataW H) → Bool := fun _ ds => decide (uptoBulkAll ds ≤ 1048576)
def OpenSpec.upto (s : _root_.Go.ChangeSpec) : _root_.Go.OpenSpec := { _root_.Go.OpenSpec.ofChange s with cond := some uptoSmall }

/-- 'outcroplaw03.NoiseCorners', WHERE WHAT IT READS IS OF BULK AT MOST 1048576: true; the input reads as it did. -/
def noiseCornersUptoRow : OpenClaim := { program := "ythlhcpdkimcjhaa", sum := "3c68aebe0826a10f945d75e3aa9ed044f6692a9f6c674738e643af8983fcb3b5", func := "outcrop/outcroplaw03.NoiseCorners", spec := "noiseCorners", apart := false, narrowed := true }
def NoiseCornersUptoSaid : Prop := noiseCornersUptoRow.holds Try.pinned (OpenSpec.upto noiseCornersSpec)

/-- 'outcroplaw03.NoiseFades', WHERE WHAT IT READS IS OF BULK AT MOST 1048576: true; the input reads as it did. -/
def noiseFadesUptoRow : OpenClaim := { program := "ythlhcpdkimcjhaa", sum := "3c68aebe0826a10f945d75e3aa9ed044f6692a9f6c674738e643af8983fcb3b5", func := "outcrop/outcroplaw03.NoiseFades", spec := "noiseFades", apart := false, narrowed := true }
def NoiseFadesUptoSaid : Prop := noiseFadesUptoRow.holds Try.pinned (OpenSpec.upto noiseFadesSpec)

/-- 'outcroplaw03.NoiseFlats', WHERE WHAT IT READS IS OF BULK AT MOST 1048576: true; the input reads as it did. -/
def noiseFlatsUptoRow : OpenClaim := { program := "ythlhcpdkimcjhaa", sum := "3c68aebe0826a10f945d75e3aa9ed044f6692a9f6c674738e643af8983fcb3b5", func := "outcrop/outcroplaw03.NoiseFlats", spec := "noiseFlats", apart := false, narrowed := true }
def NoiseFlatsUptoSaid : Prop := noiseFlatsUptoRow.holds Try.pinned (OpenSpec.upto noiseFlatsSpec)

/-- 'outcroplaw03.NoiseMeets', WHERE WHAT IT READS IS OF BULK AT MOST 1048576: true; the input reads as it did. -/
def noiseMeetsUptoRow : OpenClaim := { program := "ythlhcpdkimcjhaa", sum := "3c68aebe0826a10f945d75e3aa9ed044f6692a9f6c674738e643af8983fcb3b5", func := "outcrop/outcroplaw03.NoiseMeets", spec := "noiseMeets", apart := false, narrowed := true }
def NoiseMeetsUptoSaid : Prop := noiseMeetsUptoRow.holds Try.pinned (OpenSpec.upto noiseMeetsSpec)

/-- 'outcroplaw03.NoiseSums', WHERE WHAT IT READS IS OF BULK AT MOST 1048576: true; the input reads as it did. -/
def noiseSumsUptoRow : OpenClaim := { program := "ythlhcpdkimcjhaa", sum := "3c68aebe0826a10f945d75e3aa9ed044f6692a9f6c674738e643af8983fcb3b5", func := "outcrop/outcroplaw03.NoiseSums", spec := "noiseSums", apart := false, narrowed := true }
def NoiseSumsUptoSaid : Prop := noiseSumsUptoRow.holds Try.pinned (OpenSpec.upto noiseSumsSpec)

/-- 'outcroplaw03.NoiseOnes', WHERE WHAT IT READS IS OF BULK AT MOST 1048576: true; the input reads as it did. -/
def noiseOnesUptoRow : OpenClaim := { program := "ythlhcpdkimcjhaa", sum := "3c68aebe0826a10f945d75e3aa9ed044f6692a9f6c674738e643af8983fcb3b5", func := "outcrop/outcroplaw03.NoiseOnes", spec := "noiseOnes", apart := false, narrowed := true }
def NoiseOnesUptoSaid : Prop := noiseOnesUptoRow.holds Try.pinned (OpenSpec.upto noiseOnesSpec)

end Rows
end Go.Proofs.Ythlhcpdkimcjhaa
