/-
  NARROWER THAN 'FOR EVERY INPUT', by the rows' own cells (each row's printed sentence says how): KindNames: laid · KindBack: laid · KindLights: laid · KindApart: laid.
  DERIVED. THE GIVEN ROWS OF THIS SEAT. 4 by the template 'for every input the law returns true; each argument reads behind the call as it read before'; 0 by the template 'total and deterministic' (their statements: YtdhdlflemdmcjaaDoorTotals.lean).
  GIVEN WITH THE SEED: the statements are not yours to turn. If you find one false, say at which input.
  Laid BY PROGRAM, IN A SANDBOX (cutbox-rows.mjs): the forced cells as the released guide's own fill.sh prints them over the translation b98969ad53b3dc24… (all of the seat's roots in one cut). By AI agents, Wed Nov 11 2026. No macro, syntax, notation, axiom, sorry.
-/
import Derived.Test.YtdhdlflemdmcjaaDoorChecked
import GoSem.Claim
import GoSem.ClaimJoined
import GoSem.ClaimMapViews
import Derived.JoinedTies
import Derived.KernelRfl
namespace Go.Proofs.YtdhdlflemdmcjaaDoor
/- THE CELL 'sum', in the pinned program and in every row, IS THE sha256 OF THE DUMP (.gsa) THAT YtdhdlflemdmcjaaDoorProg.lean LOADS. Nothing in Lean hashes anything: it is a label: what it is worth is what the hold of that sum in a sandbox is worth. -/
noncomputable def Tryd.pinned : Pinned := { name := "ytdhdlflemdmcjaadoor", sum := "b98969ad53b3dc244a2484ab1e189966cb0764893c93c2226772fabe46c6d9da", checked := Tryd.checked }
namespace Rows
def none {H : Type} : Left H := { results := [], args := [] }

/- WHAT THE LISTED PACKAGE-LEVEL VARIABLES READ AS WHEN THE CALL BEGINS. Each datum BY PROGRAM (the guide's laid-datum.mjs) off the statement by which the dump's own 'gosem.cut.vars' lays the variable. In a bare row this is a premise. The card (YtdhdlflemdmcjaaDoorCards.lean) ties it to the program's text. -/
def laid_outcrop_kind_rows {H : Type} : DataW H := .agg [.agg [.lit (.string [97, 105, 114]), .lit (.bool true), .lit (.int .i64 1), .lit (.int .i64 0)], .agg [.lit (.string [115, 116, 111, 110, 101]), .lit (.bool false), .lit (.int .i64 16), .lit (.int .i64 0)], .agg [.lit (.string [100, 105, 114, 116]), .lit (.bool false), .lit (.int .i64 16), .lit (.int .i64 0)], .agg [.lit (.string [103, 114, 97, 115, 115]), .lit (.bool false), .lit (.int .i64 16), .lit (.int .i64 0)], .agg [.lit (.string [115, 97, 110, 100]), .lit (.bool false), .lit (.int .i64 16), .lit (.int .i64 0)], .agg [.lit (.string [119, 97, 116, 101, 114]), .lit (.bool false), .lit (.int .i64 3), .lit (.int .i64 0)], .agg [.lit (.string [103, 114, 97, 118, 101, 108]), .lit (.bool false), .lit (.int .i64 16), .lit (.int .i64 0)], .agg [.lit (.string [99, 111, 97, 108]), .lit (.bool false), .lit (.int .i64 16), .lit (.int .i64 0)], .agg [.lit (.string [105, 114, 111, 110]), .lit (.bool false), .lit (.int .i64 16), .lit (.int .i64 0)], .agg [.lit (.string [103, 111, 108, 100]), .lit (.bool false), .lit (.int .i64 16), .lit (.int .i64 3)], .agg [.lit (.string [108, 111, 103]), .lit (.bool false), .lit (.int .i64 16), .lit (.int .i64 0)], .agg [.lit (.string [108, 101, 97, 118, 101, 115]), .lit (.bool false), .lit (.int .i64 2), .lit (.int .i64 0)], .agg [.lit (.string [98, 114, 105, 99, 107]), .lit (.bool false), .lit (.int .i64 16), .lit (.int .i64 0)], .agg [.lit (.string [108, 97, 109, 112]), .lit (.bool false), .lit (.int .i64 1), .lit (.int .i64 14)], .agg [.lit (.string [103, 108, 97, 115, 115]), .lit (.bool true), .lit (.int .i64 1), .lit (.int .i64 0)], .agg [.lit (.string [98, 101, 100, 114, 111, 99, 107]), .lit (.bool false), .lit (.int .i64 16), .lit (.int .i64 0)]]

/-- 'outcroplaw05.KindNames': WHATEVER THE INPUT: true; the input reads as it did. -/
def kindNamesSpec : ChangeSpec := { name := "kindNames", fn := fun _ => fun
  | [d] => { results := [.lit (.bool true)], args := [d] }
  | _ => none }
def kindNamesRow : OpenClaim := { program := "ytdhdlflemdmcjaadoor", sum := "b98969ad53b3dc244a2484ab1e189966cb0764893c93c2226772fabe46c6d9da", func := "outcrop/outcroplaw05.KindNames", spec := "kindNames", unfollowed := true, recurses := true, named := ["outcrop/kind.rows"], apart := false, laid := [("outcrop/kind.rows", laid_outcrop_kind_rows)] }
def KindNamesSaid : Prop := kindNamesRow.holds Tryd.pinned (OpenSpec.ofChange kindNamesSpec)

/-- ITS FALSE NEIGHBOUR: 'it returns false'. Refute it at one input. -/
def kindNamesWrong : ChangeSpec := { name := "kindNames", fn := fun _ => fun
  | [d] => { results := [.lit (.bool false)], args := [d] }
  | _ => none }
def KindNamesWrongFalsely : Prop := kindNamesRow.holds Tryd.pinned (OpenSpec.ofChange kindNamesWrong)

/-- 'outcroplaw05.KindBack': WHATEVER THE INPUT: true; the input reads as it did. -/
def kindBackSpec : ChangeSpec := { name := "kindBack", fn := fun _ => fun
  | [d1, d2] => { results := [.lit (.bool true)], args := [d1, d2] }
  | _ => none }
def kindBackRow : OpenClaim := { program := "ytdhdlflemdmcjaadoor", sum := "b98969ad53b3dc244a2484ab1e189966cb0764893c93c2226772fabe46c6d9da", func := "outcrop/outcroplaw05.KindBack", spec := "kindBack", unfollowed := true, recurses := true, named := ["outcrop/kind.rows"], apart := false, laid := [("outcrop/kind.rows", laid_outcrop_kind_rows)] }
def KindBackSaid : Prop := kindBackRow.holds Tryd.pinned (OpenSpec.ofChange kindBackSpec)

/-- ITS FALSE NEIGHBOUR: 'it returns false'. Refute it at one input. -/
def kindBackWrong : ChangeSpec := { name := "kindBack", fn := fun _ => fun
  | [d1, d2] => { results := [.lit (.bool false)], args := [d1, d2] }
  | _ => none }
def KindBackWrongFalsely : Prop := kindBackRow.holds Tryd.pinned (OpenSpec.ofChange kindBackWrong)

/-- 'outcroplaw05.KindLights': WHATEVER THE INPUT: true; the input reads as it did. -/
def kindLightsSpec : ChangeSpec := { name := "kindLights", fn := fun _ => fun
  | [d] => { results := [.lit (.bool true)], args := [d] }
  | _ => none }
def kindLightsRow : OpenClaim := { program := "ytdhdlflemdmcjaadoor", sum := "b98969ad53b3dc244a2484ab1e189966cb0764893c93c2226772fabe46c6d9da", func := "outcrop/outcroplaw05.KindLights", spec := "kindLights", unfollowed := true, recurses := true, named := ["outcrop/kind.rows"], apart := false, laid := [("outcrop/kind.rows", laid_outcrop_kind_rows)] }
def KindLightsSaid : Prop := kindLightsRow.holds Tryd.pinned (OpenSpec.ofChange kindLightsSpec)

/-- ITS FALSE NEIGHBOUR: 'it returns false'. Refute it at one input. -/
def kindLightsWrong : ChangeSpec := { name := "kindLights", fn := fun _ => fun
  | [d] => { results := [.lit (.bool false)], args := [d] }
  | _ => none }
def KindLightsWrongFalsely : Prop := kindLightsRow.holds Tryd.pinned (OpenSpec.ofChange kindLightsWrong)

/-- 'outcroplaw05.KindApart': WHATEVER THE INPUT: true; the input reads as it did. -/
def kindApartSpec : ChangeSpec := { name := "kindApart", fn := fun _ => fun
  | [d1, d2] => { results := [.lit (.bool true)], args := [d1, d2] }
  | _ => none }
def kindApartRow : OpenClaim := { program := "ytdhdlflemdmcjaadoor", sum := "b98969ad53b3dc244a2484ab1e189966cb0764893c93c2226772fabe46c6d9da", func := "outcrop/outcroplaw05.KindApart", spec := "kindApart", unfollowed := true, recurses := true, named := ["outcrop/kind.rows"], apart := false, laid := [("outcrop/kind.rows", laid_outcrop_kind_rows)] }
def KindApartSaid : Prop := kindApartRow.holds Tryd.pinned (OpenSpec.ofChange kindApartSpec)

/-- ITS FALSE NEIGHBOUR: 'it returns false'. Refute it at one input. -/
def kindApartWrong : ChangeSpec := { name := "kindApart", fn := fun _ => fun
  | [d1, d2] => { results := [.lit (.bool false)], args := [d1, d2] }
  | _ => none }
def KindApartWrongFalsely : Prop := kindApartRow.holds Tryd.pinned (OpenSpec.ofChange kindApartWrong)

/- THE SECOND FORM. 'bulk': how many values and letters a reading holds, each counted each time it is reached (what is shared counts as often as it is met; a slice's spare places count too). A statement '..UptoSaid' is the law's where the arguments, and the package variables that the reading takes, are together of bulk at most 1048576: NARROWER than '..Said'. Prove '..Said' where nothing that the law and all that it calls make is longer than what came in: it says more and counts as full. Else prove '..UptoSaid'. A law counts once. -/
mutual
def uptoBulk {H : Type} : DataW H → Nat
  | .lit (.string bytes) => bytes.length + 1
  | .lit _ => 1
  | .nil => 1
  | .ptr d => uptoBulk d + 1
  | .slice elems spare => uptoBulkAll elems + uptoBulkAll spare + 1
  | .agg parts => uptoBulkAll parts + 1
  | .iface _ d => uptoBulk d + 1
  | .map entries => uptoBulkEntries entries + 1
  | .held _ => 1
def uptoBulkAll {H : Type} : List (DataW H) → Nat
  | [] => 0
  | d :: r => uptoBulk d + uptoBulkAll r
def uptoBulkEntries {H : Type} : List (Lit × DataW H) → Nat
  | [] => 0
  | x :: r => uptoBulkEntry x + uptoBulkEntries r
def uptoBulkEntry {H : Type} : Lit × DataW H → Nat
  | (.string bytes, d) => bytes.length + uptoBulk d + 1
  | (_, d) => uptoBulk d + 1
 end
def uptoSmall : (H : Type) → List (DataW H) → Bool := fun _ ds => decide (uptoBulkAll ds ≤ 1048576)
def OpenSpec.upto (s : _root_.Go.ChangeSpec) : _root_.Go.OpenSpec := { _root_.Go.OpenSpec.ofChange s with cond := some uptoSmall }

/-- 'outcroplaw05.KindNames', WHERE WHAT IT READS IS OF BULK AT MOST 1048576: true; the input reads as it did. -/
def kindNamesUptoRow : OpenClaim := { program := "ytdhdlflemdmcjaadoor", sum := "b98969ad53b3dc244a2484ab1e189966cb0764893c93c2226772fabe46c6d9da", func := "outcrop/outcroplaw05.KindNames", spec := "kindNames", unfollowed := true, recurses := true, named := ["outcrop/kind.rows"], apart := false, laid := [("outcrop/kind.rows", laid_outcrop_kind_rows)], narrowed := true }
def KindNamesUptoSaid : Prop := kindNamesUptoRow.holds Tryd.pinned (OpenSpec.upto kindNamesSpec)

/-- 'outcroplaw05.KindBack', WHERE WHAT IT READS IS OF BULK AT MOST 1048576: true; the input reads as it did. -/
def kindBackUptoRow : OpenClaim := { program := "ytdhdlflemdmcjaadoor", sum := "b98969ad53b3dc244a2484ab1e189966cb0764893c93c2226772fabe46c6d9da", func := "outcrop/outcroplaw05.KindBack", spec := "kindBack", unfollowed := true, recurses := true, named := ["outcrop/kind.rows"], apart := false, laid := [("outcrop/kind.rows", laid_outcrop_kind_rows)], narrowed := true }
def KindBackUptoSaid : Prop := kindBackUptoRow.holds Tryd.pinned (OpenSpec.upto kindBackSpec)

/-- 'outcroplaw05.KindLights', WHERE WHAT IT READS IS OF BULK AT MOST 1048576: true; the input reads as it did. -/
def kindLightsUptoRow : OpenClaim := { program := "ytdhdlflemdmcjaadoor", sum := "b98969ad53b3dc244a2484ab1e189966cb0764893c93c2226772fabe46c6d9da", func := "outcrop/outcroplaw05.KindLights", spec := "kindLights", unfollowed := true, recurses := true, named := ["outcrop/kind.rows"], apart := false, laid := [("outcrop/kind.rows", laid_outcrop_kind_rows)], narrowed := true }
def KindLightsUptoSaid : Prop := kindLightsUptoRow.holds Tryd.pinned (OpenSpec.upto kindLightsSpec)

/-- 'outcroplaw05.KindApart', WHERE WHAT IT READS IS OF BULK AT MOST 1048576: true; the input reads as it did. -/
def kindApartUptoRow : OpenClaim := { program := "ytdhdlflemdmcjaadoor", sum := "b98969ad53b3dc244a2484ab1e189966cb0764893c93c2226772fabe46c6d9da", func := "outcrop/outcroplaw05.KindApart", spec := "kindApart", unfollowed := true, recurses := true, named := ["outcrop/kind.rows"], apart := false, laid := [("outcrop/kind.rows", laid_outcrop_kind_rows)], narrowed := true }
def KindApartUptoSaid : Prop := kindApartUptoRow.holds Tryd.pinned (OpenSpec.upto kindApartSpec)

end Rows
end Go.Proofs.YtdhdlflemdmcjaaDoor
