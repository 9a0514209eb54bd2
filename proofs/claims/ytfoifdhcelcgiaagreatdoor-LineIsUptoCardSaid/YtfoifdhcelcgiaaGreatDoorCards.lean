/-
  DERIVED. GIVEN WITH THE SEED: THE CARDS: each row of YtfoifdhcelcgiaaGreatDoorRows.lean that lists a variable, with what it lists TIED to the program's text (the seventh form; the later family's looks); each row that meets fmt, with fmt's text TOLD by the authors' own Lean function (tested against real Go, not proved from fmt's source: count such statements apart). THE CARD IS WHAT COUNTS. Prove the row's statement (the work); the ties are given (YtfoifdhcelcgiaaGreatDoorTie.lean); close each card by the builder's one call (the guide's Derived/Test/ToyasCard.lean, 'card_holds'). Laid BY PROGRAM, IN A SANDBOX (cutbox-door.mjs). By AI agents, Wed Nov 11 2026. No macro, syntax, notation, axiom, sorry.
-/
import Derived.Test.YtfoifdhcelcgiaaGreatDoorRows
import GoSem.ClaimSeven
namespace Go.Proofs.YtfoifdhcelcgiaaGreatDoor
namespace Rows

/-- THE TIED CARD OF 'tribunallaw11.LineBehind'. -/
def lineBehindCard : Claim7 := { stood := { row := lineBehindRow, standIns := [], harness := (true, "61edb1cac994ab7cdae3c0ee7d0eecfd169ab0a883e1eb7fa8d027eae1300813"), looks := false }, kinds := [], alts := [], laidByText := true, laidKinds := [.data, .data], laidTests := true, laidLooks := .later }
def LineBehindCardSaid : Prop := Claim7.holds Tryz.pinned (.plain (OpenSpec.ofChange lineBehindSpec)) lineBehindCard

/-- THE TIED CARD OF 'tribunallaw11.LineIs'. -/
def lineIsCard : Claim7 := { stood := { row := lineIsRow, standIns := [], harness := (true, "61edb1cac994ab7cdae3c0ee7d0eecfd169ab0a883e1eb7fa8d027eae1300813"), looks := false }, kinds := [], alts := [], laidByText := true, laidKinds := [.data, .data], laidTests := true, laidLooks := .later }
def LineIsCardSaid : Prop := Claim7.holds Tryz.pinned (.plain (OpenSpec.ofChange lineIsSpec)) lineIsCard

/-- THE TIED CARD OF 'tribunallaw11.LineParts'. -/
def linePartsCard : Claim7 := { stood := { row := linePartsRow, standIns := [], harness := (true, "61edb1cac994ab7cdae3c0ee7d0eecfd169ab0a883e1eb7fa8d027eae1300813"), looks := false }, kinds := [], alts := [], laidByText := true, laidKinds := [.data, .data], laidTests := true, laidLooks := .later }
def LinePartsCardSaid : Prop := Claim7.holds Tryz.pinned (.plain (OpenSpec.ofChange linePartsSpec)) linePartsCard

/-- THE TIED CARD OF 'tribunallaw12.ViewsReal'. -/
def viewsRealCard : Claim7 := { stood := { row := viewsRealRow, standIns := [], harness := (true, "61edb1cac994ab7cdae3c0ee7d0eecfd169ab0a883e1eb7fa8d027eae1300813"), looks := false }, kinds := [], alts := [], laidByText := true, laidKinds := [.data, .data], laidTests := true, laidLooks := .later }
def ViewsRealCardSaid : Prop := Claim7.holds Tryz.pinned (.plain (OpenSpec.ofChange viewsRealSpec)) viewsRealCard

/-- THE TIED CARD OF 'tribunallaw12.ViewsRegisters'. -/
def viewsRegistersCard : Claim7 := { stood := { row := viewsRegistersRow, standIns := [], harness := (true, "61edb1cac994ab7cdae3c0ee7d0eecfd169ab0a883e1eb7fa8d027eae1300813"), looks := false }, kinds := [], alts := [], laidByText := true, laidKinds := [.data, .data], laidTests := true, laidLooks := .later }
def ViewsRegistersCardSaid : Prop := Claim7.holds Tryz.pinned (.plain (OpenSpec.ofChange viewsRegistersSpec)) viewsRegistersCard

/-- THE SECOND FORM's CARD OF 'tribunallaw11.LineBehind'. -/
def lineBehindUptoCard : Claim7 := { stood := { row := lineBehindUptoRow, standIns := [], harness := (true, "61edb1cac994ab7cdae3c0ee7d0eecfd169ab0a883e1eb7fa8d027eae1300813"), looks := false }, kinds := [], alts := [], laidByText := true, laidKinds := [.data, .data], laidTests := true, laidLooks := .later }
def LineBehindUptoCardSaid : Prop := Claim7.holds Tryz.pinned (.plain (OpenSpec.upto lineBehindSpec)) lineBehindUptoCard

/-- THE SECOND FORM's CARD OF 'tribunallaw11.LineIs'. -/
def lineIsUptoCard : Claim7 := { stood := { row := lineIsUptoRow, standIns := [], harness := (true, "61edb1cac994ab7cdae3c0ee7d0eecfd169ab0a883e1eb7fa8d027eae1300813"), looks := false }, kinds := [], alts := [], laidByText := true, laidKinds := [.data, .data], laidTests := true, laidLooks := .later }
def LineIsUptoCardSaid : Prop := Claim7.holds Tryz.pinned (.plain (OpenSpec.upto lineIsSpec)) lineIsUptoCard

/-- THE SECOND FORM's CARD OF 'tribunallaw11.LineParts'. -/
def linePartsUptoCard : Claim7 := { stood := { row := linePartsUptoRow, standIns := [], harness := (true, "61edb1cac994ab7cdae3c0ee7d0eecfd169ab0a883e1eb7fa8d027eae1300813"), looks := false }, kinds := [], alts := [], laidByText := true, laidKinds := [.data, .data], laidTests := true, laidLooks := .later }
def LinePartsUptoCardSaid : Prop := Claim7.holds Tryz.pinned (.plain (OpenSpec.upto linePartsSpec)) linePartsUptoCard

/-- THE SECOND FORM's CARD OF 'tribunallaw12.ViewsReal'. -/
def viewsRealUptoCard : Claim7 := { stood := { row := viewsRealUptoRow, standIns := [], harness := (true, "61edb1cac994ab7cdae3c0ee7d0eecfd169ab0a883e1eb7fa8d027eae1300813"), looks := false }, kinds := [], alts := [], laidByText := true, laidKinds := [.data, .data], laidTests := true, laidLooks := .later }
def ViewsRealUptoCardSaid : Prop := Claim7.holds Tryz.pinned (.plain (OpenSpec.upto viewsRealSpec)) viewsRealUptoCard

/-- THE SECOND FORM's CARD OF 'tribunallaw12.ViewsRegisters'. -/
def viewsRegistersUptoCard : Claim7 := { stood := { row := viewsRegistersUptoRow, standIns := [], harness := (true, "61edb1cac994ab7cdae3c0ee7d0eecfd169ab0a883e1eb7fa8d027eae1300813"), looks := false }, kinds := [], alts := [], laidByText := true, laidKinds := [.data, .data], laidTests := true, laidLooks := .later }
def ViewsRegistersUptoCardSaid : Prop := Claim7.holds Tryz.pinned (.plain (OpenSpec.upto viewsRegistersSpec)) viewsRegistersUptoCard
end Rows
end Go.Proofs.YtfoifdhcelcgiaaGreatDoor
