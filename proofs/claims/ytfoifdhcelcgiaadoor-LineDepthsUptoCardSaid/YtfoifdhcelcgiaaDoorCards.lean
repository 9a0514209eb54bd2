/-
  DERIVED. GIVEN WITH THE SEED: THE CARDS: each row of YtfoifdhcelcgiaaDoorRows.lean that lists a variable, with what it lists TIED to the program's text (the seventh form; the later family's looks); each row that meets fmt, with fmt's text TOLD by the authors' own Lean function (tested against real Go, not proved from fmt's source: count such statements apart). THE CARD IS WHAT COUNTS. Prove the row's statement (the work); the ties are given (YtfoifdhcelcgiaaDoorTie.lean); close each card by the builder's one call (the guide's Derived/Test/ToyasCard.lean, 'card_holds'). Laid BY PROGRAM, IN A SANDBOX (cutbox-door.mjs). By AI agents, Wed Nov 11 2026. No macro, syntax, notation, axiom, sorry.
-/
import Derived.Test.YtfoifdhcelcgiaaDoorRows
import GoSem.ClaimSeven
namespace Go.Proofs.YtfoifdhcelcgiaaDoor
namespace Rows

/-- THE TIED CARD OF 'tribunallaw10.DagClosed'. -/
def dagClosedCard : Claim7 := { stood := { row := dagClosedRow, standIns := [], harness := (true, "a9da7c92df8e2c78d5f70028dab1a2cfaca0ccb4f93b58a091510ab9b7b8b824"), looks := false }, kinds := [], alts := [], laidByText := true, laidKinds := [.data, .data], laidTests := true, laidLooks := .later }
def DagClosedCardSaid : Prop := Claim7.holds Tryd.pinned (.plain (OpenSpec.ofChange dagClosedSpec)) dagClosedCard

/-- THE TIED CARD OF 'tribunallaw10.DagKeeps'. -/
def dagKeepsCard : Claim7 := { stood := { row := dagKeepsRow, standIns := [], harness := (true, "a9da7c92df8e2c78d5f70028dab1a2cfaca0ccb4f93b58a091510ab9b7b8b824"), looks := false }, kinds := [], alts := [], laidByText := true, laidKinds := [.data, .data], laidTests := true, laidLooks := .later }
def DagKeepsCardSaid : Prop := Claim7.holds Tryd.pinned (.plain (OpenSpec.ofChange dagKeepsSpec)) dagKeepsCard

/-- THE TIED CARD OF 'tribunallaw10.DagDoes'. -/
def dagDoesCard : Claim7 := { stood := { row := dagDoesRow, standIns := [], harness := (true, "a9da7c92df8e2c78d5f70028dab1a2cfaca0ccb4f93b58a091510ab9b7b8b824"), looks := false }, kinds := [], alts := [], laidByText := true, laidKinds := [.data, .data], laidTests := true, laidLooks := .later }
def DagDoesCardSaid : Prop := Claim7.holds Tryd.pinned (.plain (OpenSpec.ofChange dagDoesSpec)) dagDoesCard

/-- THE TIED CARD OF 'tribunallaw11.LineDepths'. -/
def lineDepthsCard : Claim7 := { stood := { row := lineDepthsRow, standIns := [], harness := (true, "a9da7c92df8e2c78d5f70028dab1a2cfaca0ccb4f93b58a091510ab9b7b8b824"), looks := false }, kinds := [], alts := [], laidByText := true, laidKinds := [.data, .data], laidTests := true, laidLooks := .later }
def LineDepthsCardSaid : Prop := Claim7.holds Tryd.pinned (.plain (OpenSpec.ofChange lineDepthsSpec)) lineDepthsCard

/-- THE SECOND FORM's CARD OF 'tribunallaw10.DagClosed'. -/
def dagClosedUptoCard : Claim7 := { stood := { row := dagClosedUptoRow, standIns := [], harness := (true, "a9da7c92df8e2c78d5f70028dab1a2cfaca0ccb4f93b58a091510ab9b7b8b824"), looks := false }, kinds := [], alts := [], laidByText := true, laidKinds := [.data, .data], laidTests := true, laidLooks := .later }
def DagClosedUptoCardSaid : Prop := Claim7.holds Tryd.pinned (.plain (OpenSpec.upto dagClosedSpec)) dagClosedUptoCard

/-- THE SECOND FORM's CARD OF 'tribunallaw10.DagKeeps'. -/
def dagKeepsUptoCard : Claim7 := { stood := { row := dagKeepsUptoRow, standIns := [], harness := (true, "a9da7c92df8e2c78d5f70028dab1a2cfaca0ccb4f93b58a091510ab9b7b8b824"), looks := false }, kinds := [], alts := [], laidByText := true, laidKinds := [.data, .data], laidTests := true, laidLooks := .later }
def DagKeepsUptoCardSaid : Prop := Claim7.holds Tryd.pinned (.plain (OpenSpec.upto dagKeepsSpec)) dagKeepsUptoCard

/-- THE SECOND FORM's CARD OF 'tribunallaw10.DagDoes'. -/
def dagDoesUptoCard : Claim7 := { stood := { row := dagDoesUptoRow, standIns := [], harness := (true, "a9da7c92df8e2c78d5f70028dab1a2cfaca0ccb4f93b58a091510ab9b7b8b824"), looks := false }, kinds := [], alts := [], laidByText := true, laidKinds := [.data, .data], laidTests := true, laidLooks := .later }
def DagDoesUptoCardSaid : Prop := Claim7.holds Tryd.pinned (.plain (OpenSpec.upto dagDoesSpec)) dagDoesUptoCard

/-- THE SECOND FORM's CARD OF 'tribunallaw11.LineDepths'. -/
def lineDepthsUptoCard : Claim7 := { stood := { row := lineDepthsUptoRow, standIns := [], harness := (true, "a9da7c92df8e2c78d5f70028dab1a2cfaca0ccb4f93b58a091510ab9b7b8b824"), looks := false }, kinds := [], alts := [], laidByText := true, laidKinds := [.data, .data], laidTests := true, laidLooks := .later }
def LineDepthsUptoCardSaid : Prop := Claim7.holds Tryd.pinned (.plain (OpenSpec.upto lineDepthsSpec)) lineDepthsUptoCard
end Rows
end Go.Proofs.YtfoifdhcelcgiaaDoor
