/-
  DERIVED. GIVEN WITH THE SEED: THE CARDS: each row of YtelmconnpdmjhaaGreatDoorRows.lean that lists a variable, with what it lists TIED to the program's text (the seventh form; the later family's looks); each row that meets fmt, with fmt's text TOLD by the authors' own Lean function (tested against real Go, not proved from fmt's source: count such statements apart). THE CARD IS WHAT COUNTS. Prove the row's statement (the work); the ties are given (YtelmconnpdmjhaaGreatDoorTie.lean); close each card by the builder's one call (the guide's Derived/Test/ToyasCard.lean, 'card_holds'). Laid BY PROGRAM, IN A SANDBOX (cutbox-door.mjs). By AI agents, Wed Nov 11 2026. No macro, syntax, notation, axiom, sorry.
-/
import Derived.Test.YtelmconnpdmjhaaGreatDoorRows
import GoSem.ClaimSeven
namespace Go.Proofs.YtelmconnpdmjhaaGreatDoor
namespace Rows

/-- THE TIED CARD OF 'amortcostlaw10.ValueTypes'. -/
def valueTypesCard : Claim7 := { stood := { row := valueTypesRow, standIns := [], harness := (true, "0c827e9644f4f79fe65d6213f67f1261f5f11c47831fea1716ee8982b8e52e03"), looks := false }, kinds := [], alts := [], laidByText := true, laidKinds := [.data, .data, .data], laidTests := true, laidLooks := .later }
def ValueTypesCardSaid : Prop := Claim7.holds Tryz.pinned (.plain (OpenSpec.ofChange valueTypesSpec)) valueTypesCard

/-- THE TIED CARD OF 'amortcostlaw10.ValueFormats'. -/
def valueFormatsCard : Claim7 := { stood := { row := valueFormatsRow, standIns := [], harness := (true, "0c827e9644f4f79fe65d6213f67f1261f5f11c47831fea1716ee8982b8e52e03"), looks := false }, kinds := [], alts := [], laidByText := true, laidKinds := [.data, .data, .data], laidTests := true, laidLooks := .later }
def ValueFormatsCardSaid : Prop := Claim7.holds Tryz.pinned (.plain (OpenSpec.ofChange valueFormatsSpec)) valueFormatsCard

/-- THE TIED CARD OF 'amortcostlaw10.ValueNodes'. -/
def valueNodesCard : Claim7 := { stood := { row := valueNodesRow, standIns := [], harness := (true, "0c827e9644f4f79fe65d6213f67f1261f5f11c47831fea1716ee8982b8e52e03"), looks := false }, kinds := [], alts := [], laidByText := true, laidKinds := [.data, .data, .data], laidTests := true, laidLooks := .later }
def ValueNodesCardSaid : Prop := Claim7.holds Tryz.pinned (.plain (OpenSpec.ofChange valueNodesSpec)) valueNodesCard

/-- THE TIED CARD OF 'amortcostlaw15.IndexDegrees'. -/
def indexDegreesCard : Claim7 := { stood := { row := indexDegreesRow, standIns := [], harness := (true, "0c827e9644f4f79fe65d6213f67f1261f5f11c47831fea1716ee8982b8e52e03"), looks := false }, kinds := [], alts := [], laidByText := true, laidKinds := [.data, .data, .data], laidTests := true, laidLooks := .later }
def IndexDegreesCardSaid : Prop := Claim7.holds Tryz.pinned (.plain (OpenSpec.ofChange indexDegreesSpec)) indexDegreesCard

/-- THE TIED CARD OF 'amortcostlaw15.IndexFormats'. -/
def indexFormatsCard : Claim7 := { stood := { row := indexFormatsRow, standIns := [], harness := (true, "0c827e9644f4f79fe65d6213f67f1261f5f11c47831fea1716ee8982b8e52e03"), looks := false }, kinds := [], alts := [], laidByText := true, laidKinds := [.data, .data, .data], laidTests := true, laidLooks := .later }
def IndexFormatsCardSaid : Prop := Claim7.holds Tryz.pinned (.plain (OpenSpec.ofChange indexFormatsSpec)) indexFormatsCard

/-- THE SECOND FORM's CARD OF 'amortcostlaw10.ValueTypes'. -/
def valueTypesUptoCard : Claim7 := { stood := { row := valueTypesUptoRow, standIns := [], harness := (true, "0c827e9644f4f79fe65d6213f67f1261f5f11c47831fea1716ee8982b8e52e03"), looks := false }, kinds := [], alts := [], laidByText := true, laidKinds := [.data, .data, .data], laidTests := true, laidLooks := .later }
def ValueTypesUptoCardSaid : Prop := Claim7.holds Tryz.pinned (.plain (OpenSpec.upto valueTypesSpec)) valueTypesUptoCard

/-- THE SECOND FORM's CARD OF 'amortcostlaw10.ValueFormats'. -/
def valueFormatsUptoCard : Claim7 := { stood := { row := valueFormatsUptoRow, standIns := [], harness := (true, "0c827e9644f4f79fe65d6213f67f1261f5f11c47831fea1716ee8982b8e52e03"), looks := false }, kinds := [], alts := [], laidByText := true, laidKinds := [.data, .data, .data], laidTests := true, laidLooks := .later }
def ValueFormatsUptoCardSaid : Prop := Claim7.holds Tryz.pinned (.plain (OpenSpec.upto valueFormatsSpec)) valueFormatsUptoCard

/-- THE SECOND FORM's CARD OF 'amortcostlaw10.ValueNodes'. -/
def valueNodesUptoCard : Claim7 := { stood := { row := valueNodesUptoRow, standIns := [], harness := (true, "0c827e9644f4f79fe65d6213f67f1261f5f11c47831fea1716ee8982b8e52e03"), looks := false }, kinds := [], alts := [], laidByText := true, laidKinds := [.data, .data, .data], laidTests := true, laidLooks := .later }
def ValueNodesUptoCardSaid : Prop := Claim7.holds Tryz.pinned (.plain (OpenSpec.upto valueNodesSpec)) valueNodesUptoCard

/-- THE SECOND FORM's CARD OF 'amortcostlaw15.IndexDegrees'. -/
def indexDegreesUptoCard : Claim7 := { stood := { row := indexDegreesUptoRow, standIns := [], harness := (true, "0c827e9644f4f79fe65d6213f67f1261f5f11c47831fea1716ee8982b8e52e03"), looks := false }, kinds := [], alts := [], laidByText := true, laidKinds := [.data, .data, .data], laidTests := true, laidLooks := .later }
def IndexDegreesUptoCardSaid : Prop := Claim7.holds Tryz.pinned (.plain (OpenSpec.upto indexDegreesSpec)) indexDegreesUptoCard

/-- THE SECOND FORM's CARD OF 'amortcostlaw15.IndexFormats'. -/
def indexFormatsUptoCard : Claim7 := { stood := { row := indexFormatsUptoRow, standIns := [], harness := (true, "0c827e9644f4f79fe65d6213f67f1261f5f11c47831fea1716ee8982b8e52e03"), looks := false }, kinds := [], alts := [], laidByText := true, laidKinds := [.data, .data, .data], laidTests := true, laidLooks := .later }
def IndexFormatsUptoCardSaid : Prop := Claim7.holds Tryz.pinned (.plain (OpenSpec.upto indexFormatsSpec)) indexFormatsUptoCard
end Rows
end Go.Proofs.YtelmconnpdmjhaaGreatDoor
