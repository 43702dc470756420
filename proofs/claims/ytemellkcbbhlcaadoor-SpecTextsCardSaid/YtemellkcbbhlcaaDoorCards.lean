/-
  DERIVED. GIVEN WITH THE SEED: THE CARDS: each row of YtemellkcbbhlcaaDoorRows.lean that lists a variable, with what it lists TIED to the program's text (the seventh form; the later family's looks); each row that meets fmt, with fmt's text TOLD by the authors' own Lean function (tested against real Go, not proved from fmt's source: count such statements apart). THE CARD IS WHAT COUNTS. Prove the row's statement (the work); the ties are given (YtemellkcbbhlcaaDoorTie.lean); close each card by the builder's one call (the guide's Derived/Test/ToyasCard.lean, 'card_holds'). Laid BY PROGRAM, IN A SANDBOX (cutbox-door.mjs). By AI agents, Wed Nov 11 2026. No macro, syntax, notation, axiom, sorry.
-/
import Derived.Test.YtemellkcbbhlcaaDoorRows
import GoSem.ClaimSeven
namespace Go.Proofs.YtemellkcbbhlcaaDoor
namespace Rows

/-- THE TIED CARD OF 'fuseelaw02.SpecTimes'. -/
def specTimesCard : Claim7 := { stood := { row := specTimesRow, standIns := [], harness := (true, "714d29b66b7eb73ca9e9f11a5d7d3dc3b1ad2a001d93f16c4df70a60ff60adb1"), looks := true }, kinds := [], alts := [], laidByText := true, laidKinds := [.data, .data, .data], laidTests := true, laidLooks := .later }
def SpecTimesCardSaid : Prop := Claim7.holds Tryd.pinned (.plain (OpenSpec.ofChange specTimesSpec)) specTimesCard

/-- THE TIED CARD OF 'fuseelaw02.SpecTexts'. -/
def specTextsCard : Claim7 := { stood := { row := specTextsRow, standIns := [], harness := (true, "714d29b66b7eb73ca9e9f11a5d7d3dc3b1ad2a001d93f16c4df70a60ff60adb1"), looks := true }, kinds := [], alts := [], laidByText := true, laidKinds := [.data, .data, .data], laidTests := true, laidLooks := .later }
def SpecTextsCardSaid : Prop := Claim7.holds Tryd.pinned (.plain (OpenSpec.ofChange specTextsSpec)) specTextsCard

/-- THE TIED CARD OF 'fuseelaw02.SpecAdds'. -/
def specAddsCard : Claim7 := { stood := { row := specAddsRow, standIns := [], harness := (true, "714d29b66b7eb73ca9e9f11a5d7d3dc3b1ad2a001d93f16c4df70a60ff60adb1"), looks := true }, kinds := [], alts := [], laidByText := true, laidKinds := [.data, .data, .data], laidTests := true, laidLooks := .later }
def SpecAddsCardSaid : Prop := Claim7.holds Tryd.pinned (.plain (OpenSpec.ofChange specAddsSpec)) specAddsCard

/-- THE TIED CARD OF 'fuseelaw07.CivilDays'. -/
def civilDaysCard : Claim7 := { stood := { row := civilDaysRow, standIns := [], harness := (true, "714d29b66b7eb73ca9e9f11a5d7d3dc3b1ad2a001d93f16c4df70a60ff60adb1"), looks := true }, kinds := [], alts := [], laidByText := true, laidKinds := [.data, .data, .data, .sentinel, .sentinel], laidTests := true, laidLooks := .later }
def CivilDaysCardSaid : Prop := Claim7.holds Tryd.pinned (.plain (OpenSpec.ofChange civilDaysSpec)) civilDaysCard

/-- THE TIED CARD OF 'fuseelaw07.CivilNumbers'. -/
def civilNumbersCard : Claim7 := { stood := { row := civilNumbersRow, standIns := [], harness := (true, "714d29b66b7eb73ca9e9f11a5d7d3dc3b1ad2a001d93f16c4df70a60ff60adb1"), looks := true }, kinds := [], alts := [], laidByText := true, laidKinds := [.data, .data, .data, .sentinel, .sentinel], laidTests := true, laidLooks := .later }
def CivilNumbersCardSaid : Prop := Claim7.holds Tryd.pinned (.plain (OpenSpec.ofChange civilNumbersSpec)) civilNumbersCard

/-- THE TIED CARD OF 'fuseelaw07.CivilWeeks'. -/
def civilWeeksCard : Claim7 := { stood := { row := civilWeeksRow, standIns := [], harness := (true, "714d29b66b7eb73ca9e9f11a5d7d3dc3b1ad2a001d93f16c4df70a60ff60adb1"), looks := true }, kinds := [], alts := [], laidByText := true, laidKinds := [.data, .data, .data, .sentinel, .sentinel], laidTests := true, laidLooks := .later }
def CivilWeeksCardSaid : Prop := Claim7.holds Tryd.pinned (.plain (OpenSpec.ofChange civilWeeksSpec)) civilWeeksCard

/-- THE TIED CARD OF 'fuseelaw07.CivilGoes'. -/
def civilGoesCard : Claim7 := { stood := { row := civilGoesRow, standIns := [], harness := (true, "714d29b66b7eb73ca9e9f11a5d7d3dc3b1ad2a001d93f16c4df70a60ff60adb1"), looks := true }, kinds := [], alts := [], laidByText := true, laidKinds := [.data, .data, .data, .sentinel, .sentinel], laidTests := true, laidLooks := .later }
def CivilGoesCardSaid : Prop := Claim7.holds Tryd.pinned (.plain (OpenSpec.ofChange civilGoesSpec)) civilGoesCard

/-- THE TIED CARD OF 'fuseelaw07.CivilSeconds'. -/
def civilSecondsCard : Claim7 := { stood := { row := civilSecondsRow, standIns := [], harness := (true, "714d29b66b7eb73ca9e9f11a5d7d3dc3b1ad2a001d93f16c4df70a60ff60adb1"), looks := true }, kinds := [], alts := [], laidByText := true, laidKinds := [.data, .data, .data, .sentinel, .sentinel], laidTests := true, laidLooks := .later }
def CivilSecondsCardSaid : Prop := Claim7.holds Tryd.pinned (.plain (OpenSpec.ofChange civilSecondsSpec)) civilSecondsCard

/-- THE TIED CARD OF 'fuseelaw07.CivilTexts'. -/
def civilTextsCard : Claim7 := { stood := { row := civilTextsRow, standIns := [], harness := (true, "714d29b66b7eb73ca9e9f11a5d7d3dc3b1ad2a001d93f16c4df70a60ff60adb1"), looks := true }, kinds := [], alts := [], laidByText := true, laidKinds := [.data, .data, .data, .sentinel, .sentinel], laidTests := true, laidLooks := .later }
def CivilTextsCardSaid : Prop := Claim7.holds Tryd.pinned (.plain (OpenSpec.ofChange civilTextsSpec)) civilTextsCard

/-- THE SECOND FORM's CARD OF 'fuseelaw02.SpecTimes'. -/
def specTimesUptoCard : Claim7 := { stood := { row := specTimesUptoRow, standIns := [], harness := (true, "714d29b66b7eb73ca9e9f11a5d7d3dc3b1ad2a001d93f16c4df70a60ff60adb1"), looks := true }, kinds := [], alts := [], laidByText := true, laidKinds := [.data, .data, .data], laidTests := true, laidLooks := .later }
def SpecTimesUptoCardSaid : Prop := Claim7.holds Tryd.pinned (.plain (OpenSpec.upto specTimesSpec)) specTimesUptoCard

/-- THE SECOND FORM's CARD OF 'fuseelaw02.SpecTexts'. -/
def specTextsUptoCard : Claim7 := { stood := { row := specTextsUptoRow, standIns := [], harness := (true, "714d29b66b7eb73ca9e9f11a5d7d3dc3b1ad2a001d93f16c4df70a60ff60adb1"), looks := true }, kinds := [], alts := [], laidByText := true, laidKinds := [.data, .data, .data], laidTests := true, laidLooks := .later }
def SpecTextsUptoCardSaid : Prop := Claim7.holds Tryd.pinned (.plain (OpenSpec.upto specTextsSpec)) specTextsUptoCard

/-- THE SECOND FORM's CARD OF 'fuseelaw02.SpecAdds'. -/
def specAddsUptoCard : Claim7 := { stood := { row := specAddsUptoRow, standIns := [], harness := (true, "714d29b66b7eb73ca9e9f11a5d7d3dc3b1ad2a001d93f16c4df70a60ff60adb1"), looks := true }, kinds := [], alts := [], laidByText := true, laidKinds := [.data, .data, .data], laidTests := true, laidLooks := .later }
def SpecAddsUptoCardSaid : Prop := Claim7.holds Tryd.pinned (.plain (OpenSpec.upto specAddsSpec)) specAddsUptoCard

/-- THE SECOND FORM's CARD OF 'fuseelaw07.CivilDays'. -/
def civilDaysUptoCard : Claim7 := { stood := { row := civilDaysUptoRow, standIns := [], harness := (true, "714d29b66b7eb73ca9e9f11a5d7d3dc3b1ad2a001d93f16c4df70a60ff60adb1"), looks := true }, kinds := [], alts := [], laidByText := true, laidKinds := [.data, .data, .data, .sentinel, .sentinel], laidTests := true, laidLooks := .later }
def CivilDaysUptoCardSaid : Prop := Claim7.holds Tryd.pinned (.plain (OpenSpec.upto civilDaysSpec)) civilDaysUptoCard

/-- THE SECOND FORM's CARD OF 'fuseelaw07.CivilNumbers'. -/
def civilNumbersUptoCard : Claim7 := { stood := { row := civilNumbersUptoRow, standIns := [], harness := (true, "714d29b66b7eb73ca9e9f11a5d7d3dc3b1ad2a001d93f16c4df70a60ff60adb1"), looks := true }, kinds := [], alts := [], laidByText := true, laidKinds := [.data, .data, .data, .sentinel, .sentinel], laidTests := true, laidLooks := .later }
def CivilNumbersUptoCardSaid : Prop := Claim7.holds Tryd.pinned (.plain (OpenSpec.upto civilNumbersSpec)) civilNumbersUptoCard

/-- THE SECOND FORM's CARD OF 'fuseelaw07.CivilWeeks'. -/
def civilWeeksUptoCard : Claim7 := { stood := { row := civilWeeksUptoRow, standIns := [], harness := (true, "714d29b66b7eb73ca9e9f11a5d7d3dc3b1ad2a001d93f16c4df70a60ff60adb1"), looks := true }, kinds := [], alts := [], laidByText := true, laidKinds := [.data, .data, .data, .sentinel, .sentinel], laidTests := true, laidLooks := .later }
def CivilWeeksUptoCardSaid : Prop := Claim7.holds Tryd.pinned (.plain (OpenSpec.upto civilWeeksSpec)) civilWeeksUptoCard

/-- THE SECOND FORM's CARD OF 'fuseelaw07.CivilGoes'. -/
def civilGoesUptoCard : Claim7 := { stood := { row := civilGoesUptoRow, standIns := [], harness := (true, "714d29b66b7eb73ca9e9f11a5d7d3dc3b1ad2a001d93f16c4df70a60ff60adb1"), looks := true }, kinds := [], alts := [], laidByText := true, laidKinds := [.data, .data, .data, .sentinel, .sentinel], laidTests := true, laidLooks := .later }
def CivilGoesUptoCardSaid : Prop := Claim7.holds Tryd.pinned (.plain (OpenSpec.upto civilGoesSpec)) civilGoesUptoCard

/-- THE SECOND FORM's CARD OF 'fuseelaw07.CivilSeconds'. -/
def civilSecondsUptoCard : Claim7 := { stood := { row := civilSecondsUptoRow, standIns := [], harness := (true, "714d29b66b7eb73ca9e9f11a5d7d3dc3b1ad2a001d93f16c4df70a60ff60adb1"), looks := true }, kinds := [], alts := [], laidByText := true, laidKinds := [.data, .data, .data, .sentinel, .sentinel], laidTests := true, laidLooks := .later }
def CivilSecondsUptoCardSaid : Prop := Claim7.holds Tryd.pinned (.plain (OpenSpec.upto civilSecondsSpec)) civilSecondsUptoCard

/-- THE SECOND FORM's CARD OF 'fuseelaw07.CivilTexts'. -/
def civilTextsUptoCard : Claim7 := { stood := { row := civilTextsUptoRow, standIns := [], harness := (true, "714d29b66b7eb73ca9e9f11a5d7d3dc3b1ad2a001d93f16c4df70a60ff60adb1"), looks := true }, kinds := [], alts := [], laidByText := true, laidKinds := [.data, .data, .data, .sentinel, .sentinel], laidTests := true, laidLooks := .later }
def CivilTextsUptoCardSaid : Prop := Claim7.holds Tryd.pinned (.plain (OpenSpec.upto civilTextsSpec)) civilTextsUptoCard
end Rows
end Go.Proofs.YtemellkcbbhlcaaDoor
