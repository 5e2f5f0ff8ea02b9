/-
  DERIVED. GIVEN WITH THE SEED: THE CARDS: each row of YtdhdlflemdmcjaaDoorRows.lean that lists a variable, with what it lists TIED to the program's text (the seventh form; the later family's looks); each row that meets fmt, with fmt's text TOLD by the authors' own Lean function (tested against real Go, not proved from fmt's source: count such statements apart). THE CARD IS WHAT COUNTS. Prove the row's statement (the work); the ties are given (YtdhdlflemdmcjaaDoorTie.lean); close each card by the builder's one call (the guide's Derived/Test/ToyasCard.lean, 'card_holds'). Laid BY PROGRAM, IN A SANDBOX (cutbox-door.mjs). By AI agents, Wed Nov 11 2026. No macro, syntax, notation, axiom, sorry.
-/
import Derived.Test.YtdhdlflemdmcjaaDoorRows
import GoSem.ClaimSeven
namespace Go.Proofs.YtdhdlflemdmcjaaDoor
namespace Rows

/-- THE TIED CARD OF 'outcroplaw05.KindNames'. -/
def kindNamesCard : Claim7 := { stood := { row := kindNamesRow, standIns := [], harness := (true, "0825b31bbf941407314d425f7900f9814ce8f733bc353bb867adc423b0f8de8a"), looks := false }, kinds := [], alts := [], laidByText := true, laidKinds := [.data], laidTests := true, laidLooks := .later }
def KindNamesCardSaid : Prop := Claim7.holds Tryd.pinned (.plain (OpenSpec.ofChange kindNamesSpec)) kindNamesCard

/-- THE TIED CARD OF 'outcroplaw05.KindBack'. -/
def kindBackCard : Claim7 := { stood := { row := kindBackRow, standIns := [], harness := (true, "0825b31bbf941407314d425f7900f9814ce8f733bc353bb867adc423b0f8de8a"), looks := false }, kinds := [], alts := [], laidByText := true, laidKinds := [.data], laidTests := true, laidLooks := .later }
def KindBackCardSaid : Prop := Claim7.holds Tryd.pinned (.plain (OpenSpec.ofChange kindBackSpec)) kindBackCard

/-- THE TIED CARD OF 'outcroplaw05.KindLights'. -/
def kindLightsCard : Claim7 := { stood := { row := kindLightsRow, standIns := [], harness := (true, "0825b31bbf941407314d425f7900f9814ce8f733bc353bb867adc423b0f8de8a"), looks := false }, kinds := [], alts := [], laidByText := true, laidKinds := [.data], laidTests := true, laidLooks := .later }
def KindLightsCardSaid : Prop := Claim7.holds Tryd.pinned (.plain (OpenSpec.ofChange kindLightsSpec)) kindLightsCard

/-- THE TIED CARD OF 'outcroplaw05.KindApart'. -/
def kindApartCard : Claim7 := { stood := { row := kindApartRow, standIns := [], harness := (true, "0825b31bbf941407314d425f7900f9814ce8f733bc353bb867adc423b0f8de8a"), looks := false }, kinds := [], alts := [], laidByText := true, laidKinds := [.data], laidTests := true, laidLooks := .later }
def KindApartCardSaid : Prop := Claim7.holds Tryd.pinned (.plain (OpenSpec.ofChange kindApartSpec)) kindApartCard

/-- THE SECOND FORM's CARD OF 'outcroplaw05.KindNames'. -/
def kindNamesUptoCard : Claim7 := { stood := { row := kindNamesUptoRow, standIns := [], harness := (true, "0825b31bbf941407314d425f7900f9814ce8f733bc353bb867adc423b0f8de8a"), looks := false }, kinds := [], alts := [], laidByText := true, laidKinds := [.data], laidTests := true, laidLooks := .later }
def KindNamesUptoCardSaid : Prop := Claim7.holds Tryd.pinned (.plain (OpenSpec.upto kindNamesSpec)) kindNamesUptoCard

/-- THE SECOND FORM's CARD OF 'outcroplaw05.KindBack'. -/
def kindBackUptoCard : Claim7 := { stood := { row := kindBackUptoRow, standIns := [], harness := (true, "0825b31bbf941407314d425f7900f9814ce8f733bc353bb867adc423b0f8de8a"), looks := false }, kinds := [], alts := [], laidByText := true, laidKinds := [.data], laidTests := true, laidLooks := .later }
def KindBackUptoCardSaid : Prop := Claim7.holds Tryd.pinned (.plain (OpenSpec.upto kindBackSpec)) kindBackUptoCard

/-- THE SECOND FORM's CARD OF 'outcroplaw05.KindLights'. -/
def kindLightsUptoCard : Claim7 := { stood := { row := kindLightsUptoRow, standIns := [], harness := (true, "0825b31bbf941407314d425f7900f9814ce8f733bc353bb867adc423b0f8de8a"), looks := false }, kinds := [], alts := [], laidByText := true, laidKinds := [.data], laidTests := true, laidLooks := .later }
def KindLightsUptoCardSaid : Prop := Claim7.holds Tryd.pinned (.plain (OpenSpec.upto kindLightsSpec)) kindLightsUptoCard

/-- THE SECOND FORM's CARD OF 'outcroplaw05.KindApart'. -/
def kindApartUptoCard : Claim7 := { stood := { row := kindApartUptoRow, standIns := [], harness := (true, "0825b31bbf941407314d425f7900f9814ce8f733bc353bb867adc423b0f8de8a"), looks := false }, kinds := [], alts := [], laidByText := true, laidKinds := [.data], laidTests := true, laidLooks := .later }
def KindApartUptoCardSaid : Prop := Claim7.holds Tryd.pinned (.plain (OpenSpec.upto kindApartSpec)) kindApartUptoCard
end Rows
end Go.Proofs.YtdhdlflemdmcjaaDoor
