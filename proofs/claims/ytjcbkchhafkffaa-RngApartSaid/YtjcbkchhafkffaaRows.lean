/-
  No cell of these rows narrows 'for every input' (looked for: loops, veiled, ifaces, maps, wideKeys, modest, calm, conditions, laid).
  DERIVED. THE GIVEN ROWS OF THIS SEAT. 6 by the template 'for every input the law returns true; each argument reads behind the call as it read before'; 0 by the template 'total and deterministic' (their statements: YtjcbkchhafkffaaTotals.lean).
  GIVEN WITH THE SEED: the statements are not yours to turn. If you find one false, say at which input.
  Laid BY PROGRAM, IN A SANDBOX (cutbox-rows.mjs): the forced cells as the released guide's own fill.sh prints them over the translation 77f96db9003c5270… (all of the seat's roots in one cut). By AI agents, Wed Nov 11 2026. No macro, syntax, notation, axiom, sorry.
-/
import Derived.Test.YtjcbkchhafkffaaChecked
import GoSem.Claim
import GoSem.ClaimJoined
import GoSem.ClaimMapViews
import Derived.JoinedTies
import Derived.KernelRfl
namespace Go.Proofs.Ytjcbkchhafkffaa
/- THE CELL 'sum', in the pinned program and in every row, IS THE sha256 OF THE DUMP (.gsa) THAT YtjcbkchhafkffaaProg.lean LOADS. Nothing in Lean hashes anything: it is a label: what it is worth is what the hold of that sum in a sandbox is worth. -/
noncomputable def Try.pinned : Pinned := { name := "ytjcbkchhafkffaa", sum := "77f96db9003c5270035d2b7148cda97ca4ed432cd6babb752e502d6e50768b13", checked := Try.checked }
namespace Rows
def none {H : Type} : Left H := { results := [], args := [] }

/-- 'outcroplaw02.RngMixes': WHATEVER THE INPUT: true; the input reads as it did. -/
def rngMixesSpec : ChangeSpec := { name := "rngMixes", fn := fun _ => fun
  | [d] => { results := [.lit (.bool true)], args := [d] }
  | _ => none }
def rngMixesRow : OpenClaim := { program := "ytjcbkchhafkffaa", sum := "77f96db9003c5270035d2b7148cda97ca4ed432cd6babb752e502d6e50768b13", func := "outcrop/outcroplaw02.RngMixes", spec := "rngMixes", apart := false }
def RngMixesSaid : Prop := rngMixesRow.holds Try.pinned (OpenSpec.ofChange rngMixesSpec)

/-- ITS FALSE NEIGHBOUR: 'it returns false'. Refute it at one input. -/
def rngMixesWrong : ChangeSpec := { name := "rngMixes", fn := fun _ => fun
  | [d] => { results := [.lit (.bool false)], args := [d] }
  | _ => none }
def RngMixesWrongFalsely : Prop := rngMixesRow.holds Try.pinned (OpenSpec.ofChange rngMixesWrong)

/-- 'outcroplaw02.RngBack': WHATEVER THE INPUT: true; the input reads as it did. -/
def rngBackSpec : ChangeSpec := { name := "rngBack", fn := fun _ => fun
  | [d] => { results := [.lit (.bool true)], args := [d] }
  | _ => none }
def rngBackRow : OpenClaim := { program := "ytjcbkchhafkffaa", sum := "77f96db9003c5270035d2b7148cda97ca4ed432cd6babb752e502d6e50768b13", func := "outcrop/outcroplaw02.RngBack", spec := "rngBack", apart := false }
def RngBackSaid : Prop := rngBackRow.holds Try.pinned (OpenSpec.ofChange rngBackSpec)

/-- ITS FALSE NEIGHBOUR: 'it returns false'. Refute it at one input. -/
def rngBackWrong : ChangeSpec := { name := "rngBack", fn := fun _ => fun
  | [d] => { results := [.lit (.bool false)], args := [d] }
  | _ => none }
def RngBackWrongFalsely : Prop := rngBackRow.holds Try.pinned (OpenSpec.ofChange rngBackWrong)

/-- 'outcroplaw02.RngHashes': WHATEVER THE INPUT: true; the input reads as it did. -/
def rngHashesSpec : ChangeSpec := { name := "rngHashes", fn := fun _ => fun
  | [d1, d2, d3, d4, d5] => { results := [.lit (.bool true)], args := [d1, d2, d3, d4, d5] }
  | _ => none }
def rngHashesRow : OpenClaim := { program := "ytjcbkchhafkffaa", sum := "77f96db9003c5270035d2b7148cda97ca4ed432cd6babb752e502d6e50768b13", func := "outcrop/outcroplaw02.RngHashes", spec := "rngHashes", apart := false }
def RngHashesSaid : Prop := rngHashesRow.holds Try.pinned (OpenSpec.ofChange rngHashesSpec)

/-- ITS FALSE NEIGHBOUR: 'it returns false'. Refute it at one input. -/
def rngHashesWrong : ChangeSpec := { name := "rngHashes", fn := fun _ => fun
  | [d1, d2, d3, d4, d5] => { results := [.lit (.bool false)], args := [d1, d2, d3, d4, d5] }
  | _ => none }
def RngHashesWrongFalsely : Prop := rngHashesRow.holds Try.pinned (OpenSpec.ofChange rngHashesWrong)

/-- 'outcroplaw02.RngBelow': WHATEVER THE INPUT: true; the input reads as it did. -/
def rngBelowSpec : ChangeSpec := { name := "rngBelow", fn := fun _ => fun
  | [d1, d2] => { results := [.lit (.bool true)], args := [d1, d2] }
  | _ => none }
def rngBelowRow : OpenClaim := { program := "ytjcbkchhafkffaa", sum := "77f96db9003c5270035d2b7148cda97ca4ed432cd6babb752e502d6e50768b13", func := "outcrop/outcroplaw02.RngBelow", spec := "rngBelow", apart := false }
def RngBelowSaid : Prop := rngBelowRow.holds Try.pinned (OpenSpec.ofChange rngBelowSpec)

/-- ITS FALSE NEIGHBOUR: 'it returns false'. Refute it at one input. -/
def rngBelowWrong : ChangeSpec := { name := "rngBelow", fn := fun _ => fun
  | [d1, d2] => { results := [.lit (.bool false)], args := [d1, d2] }
  | _ => none }
def RngBelowWrongFalsely : Prop := rngBelowRow.holds Try.pinned (OpenSpec.ofChange rngBelowWrong)

/-- 'outcroplaw02.RngApart': WHATEVER THE INPUT: true; the input reads as it did. -/
def rngApartSpec : ChangeSpec := { name := "rngApart", fn := fun _ => fun
  | [d1, d2, d3, d4, d5, d6, d7] => { results := [.lit (.bool true)], args := [d1, d2, d3, d4, d5, d6, d7] }
  | _ => none }
def rngApartRow : OpenClaim := { program := "ytjcbkchhafkffaa", sum := "77f96db9003c5270035d2b7148cda97ca4ed432cd6babb752e502d6e50768b13", func := "outcrop/outcroplaw02.RngApart", spec := "rngApart", apart := false }
def RngApartSaid : Prop := rngApartRow.holds Try.pinned (OpenSpec.ofChange rngApartSpec)

/-- ITS FALSE NEIGHBOUR: 'it returns false'. Refute it at one input. -/
def rngApartWrong : ChangeSpec := { name := "rngApart", fn := fun _ => fun
  | [d1, d2, d3, d4, d5, d6, d7] => { results := [.lit (.bool false)], args := [d1, d2, d3, d4, d5, d6, d7] }
  | _ => none }
def RngApartWrongFalsely : Prop := rngApartRow.holds Try.pinned (OpenSpec.ofChange rngApartWrong)

/-- 'outcroplaw02.RngRises': WHATEVER THE INPUT: true; the input reads as it did. -/
def rngRisesSpec : ChangeSpec := { name := "rngRises", fn := fun _ => fun
  | [d1, d2, d3, d4] => { results := [.lit (.bool true)], args := [d1, d2, d3, d4] }
  | _ => none }
def rngRisesRow : OpenClaim := { program := "ytjcbkchhafkffaa", sum := "77f96db9003c5270035d2b7148cda97ca4ed432cd6babb752e502d6e50768b13", func := "outcrop/outcroplaw02.RngRises", spec := "rngRises", apart := false }
def RngRisesSaid : Prop := rngRisesRow.holds Try.pinned (OpenSpec.ofChange rngRisesSpec)

/-- ITS FALSE NEIGHBOUR: 'it returns false'. Refute it at one input. -/
def rngRisesWrong : ChangeSpec := { name := "rngRises", fn := fun _ => fun
  | [d1, d2, d3, d4] => { results := [.lit (.bool false)], args := [d1, d2, d3, d4] }
  | _ => none }
def RngRisesWrongFalsely : Prop := rngRisesRow.holds Try.pinned (OpenSpec.ofChange rngRisesWrong)

/- THE SECOND FORM. 'bulk': how many values and letters a reading holds, each counted each time it is reached (what is shared counts as often as it is met; a slice's spare places count too). A statement '..UptoSaid' is the law's where the arguments, and the package variables that the reading takes, are together of bulk at most 1048576: NARROWER than '..Said'. Prove '..Said' where nothing that the law and all that it calls make is longer than what came in: it says more and counts as full. Else prove '..UptoSaid'. A law counts once. -/
mutual
def uptoBulk {H : Type} : DataW H → Nat
  | .lit (.string bytes) => bytes.length + 1
  | .lit _ => 1
  | .nil => 1
  | .ptr d => uptoBulk d + 1
  | .slice elems spare => uptoBulkAll elems + uptoBulkAll spare + 1
  | .agg parts => uptoBulkAll parts + 1
  | .iface _ d => uptoBulk d + 1
  | .map entries => uptoBulkEntries entries + 1
  | .held _ => 1
def uptoBulkAll {H : Type} : List (DataW H) → Nat
  | [] => 0
  | d :: r => uptoBulk d + uptoBulkAll r
def uptoBulkEntries {H : Type} : List (Lit × DataW H) → Nat
  | [] => 0
  | x :: r => uptoBulkEntry x + uptoBulkEntries r
def uptoBulkEntry {H : Type} : Lit × DataW H → Nat
  | (.string bytes, d) => bytes.length + uptoBulk d + 1
  | (_, d) => uptoBulk d + 1
 end
def uptoSmall : (H : Type) → List (DataW H) → Bool := fun _ ds => decide (uptoBulkAll ds ≤ 1048576)
def OpenSpec.upto (s : _root_.Go.ChangeSpec) : _root_.Go.OpenSpec := { _root_.Go.OpenSpec.ofChange s with cond := some uptoSmall }

/-- 'outcroplaw02.RngMixes', WHERE WHAT IT READS IS OF BULK AT MOST 1048576: true; the input reads as it did. -/
def rngMixesUptoRow : OpenClaim := { program := "ytjcbkchhafkffaa", sum := "77f96db9003c5270035d2b7148cda97ca4ed432cd6babb752e502d6e50768b13", func := "outcrop/outcroplaw02.RngMixes", spec := "rngMixes", apart := false, narrowed := true }
def RngMixesUptoSaid : Prop := rngMixesUptoRow.holds Try.pinned (OpenSpec.upto rngMixesSpec)

/-- 'outcroplaw02.RngBack', WHERE WHAT IT READS IS OF BULK AT MOST 1048576: true; the input reads as it did. -/
def rngBackUptoRow : OpenClaim := { program := "ytjcbkchhafkffaa", sum := "77f96db9003c5270035d2b7148cda97ca4ed432cd6babb752e502d6e50768b13", func := "outcrop/outcroplaw02.RngBack", spec := "rngBack", apart := false, narrowed := true }
def RngBackUptoSaid : Prop := rngBackUptoRow.holds Try.pinned (OpenSpec.upto rngBackSpec)

/-- 'outcroplaw02.RngHashes', WHERE WHAT IT READS IS OF BULK AT MOST 1048576: true; the input reads as it did. -/
def rngHashesUptoRow : OpenClaim := { program := "ytjcbkchhafkffaa", sum := "77f96db9003c5270035d2b7148cda97ca4ed432cd6babb752e502d6e50768b13", func := "outcrop/outcroplaw02.RngHashes", spec := "rngHashes", apart := false, narrowed := true }
def RngHashesUptoSaid : Prop := rngHashesUptoRow.holds Try.pinned (OpenSpec.upto rngHashesSpec)

/-- 'outcroplaw02.RngBelow', WHERE WHAT IT READS IS OF BULK AT MOST 1048576: true; the input reads as it did. -/
def rngBelowUptoRow : OpenClaim := { program := "ytjcbkchhafkffaa", sum := "77f96db9003c5270035d2b7148cda97ca4ed432cd6babb752e502d6e50768b13", func := "outcrop/outcroplaw02.RngBelow", spec := "rngBelow", apart := false, narrowed := true }
def RngBelowUptoSaid : Prop := rngBelowUptoRow.holds Try.pinned (OpenSpec.upto rngBelowSpec)

/-- 'outcroplaw02.RngApart', WHERE WHAT IT READS IS OF BULK AT MOST 1048576: true; the input reads as it did. -/
def rngApartUptoRow : OpenClaim := { program := "ytjcbkchhafkffaa", sum := "77f96db9003c5270035d2b7148cda97ca4ed432cd6babb752e502d6e50768b13", func := "outcrop/outcroplaw02.RngApart", spec := "rngApart", apart := false, narrowed := true }
def RngApartUptoSaid : Prop := rngApartUptoRow.holds Try.pinned (OpenSpec.upto rngApartSpec)

/-- 'outcroplaw02.RngRises', WHERE WHAT IT READS IS OF BULK AT MOST 1048576: true; the input reads as it did. -/
def rngRisesUptoRow : OpenClaim := { program := "ytjcbkchhafkffaa", sum := "77f96db9003c5270035d2b7148cda97ca4ed432cd6babb752e502d6e50768b13", func := "outcrop/outcroplaw02.RngRises", spec := "rngRises", apart := false, narrowed := true }
def RngRisesUptoSaid : Prop := rngRisesUptoRow.holds Try.pinned (OpenSpec.upto rngRisesSpec)

end Rows
end Go.Proofs.Ytjcbkchhafkffaa
