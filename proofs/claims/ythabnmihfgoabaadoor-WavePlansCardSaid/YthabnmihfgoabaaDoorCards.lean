/-
  DERIVED. GIVEN WITH THE SEED: THE CARDS: each row of YthabnmihfgoabaaDoorRows.lean that lists a variable, with what it lists TIED to the program's text (the seventh form; the later family's looks); each row that meets fmt, with fmt's text TOLD by the authors' own Lean function (tested against real Go, not proved from fmt's source: count such statements apart). THE CARD IS WHAT COUNTS. Prove the row's statement (the work); the ties are given (YthabnmihfgoabaaDoorTie.lean); close each card by the builder's one call (the guide's Derived/Test/ToyasCard.lean, 'card_holds'). Laid BY PROGRAM, IN A SANDBOX (cutbox-door.mjs). By AI agents, Wed Nov 11 2026. No macro, syntax, notation, axiom, sorry.
-/
import Derived.Test.YthabnmihfgoabaaDoorRows
import GoSem.ClaimSeven
namespace Go.Proofs.YthabnmihfgoabaaDoor
namespace Rows

/-- THE TIED CARD OF 'pennantlaw15.WavePlans'. -/
def wavePlansCard : Claim7 := { stood := { row := wavePlansRow, standIns := [], harness := (true, "c4527f0deef4b31a6ff9f52715a8e2c2b17aefa6d81f27d9e8849f7b496538e0"), looks := false }, kinds := [], alts := [], laidByText := true, laidKinds := [.data], laidTests := true, laidLooks := .later }
def WavePlansCardSaid : Prop := Claim7.holds Tryd.pinned (.plain (OpenSpec.ofChange wavePlansSpec)) wavePlansCard

/-- THE TIED CARD OF 'pennantlaw15.WaveJudges'. -/
def waveJudgesCard : Claim7 := { stood := { row := waveJudgesRow, standIns := [], harness := (true, "c4527f0deef4b31a6ff9f52715a8e2c2b17aefa6d81f27d9e8849f7b496538e0"), looks := false }, kinds := [], alts := [], laidByText := true, laidKinds := [.data], laidTests := true, laidLooks := .later }
def WaveJudgesCardSaid : Prop := Claim7.holds Tryd.pinned (.plain (OpenSpec.ofChange waveJudgesSpec)) waveJudgesCard

/-- THE TIED CARD OF 'pennantlaw15.WaveAll'. -/
def waveAllCard : Claim7 := { stood := { row := waveAllRow, standIns := [], harness := (true, "c4527f0deef4b31a6ff9f52715a8e2c2b17aefa6d81f27d9e8849f7b496538e0"), looks := false }, kinds := [], alts := [], laidByText := true, laidKinds := [.data], laidTests := true, laidLooks := .later }
def WaveAllCardSaid : Prop := Claim7.holds Tryd.pinned (.plain (OpenSpec.ofChange waveAllSpec)) waveAllCard

/-- THE TIED CARD OF 'pennantlaw15.WaveTurned'. -/
def waveTurnedCard : Claim7 := { stood := { row := waveTurnedRow, standIns := [], harness := (true, "c4527f0deef4b31a6ff9f52715a8e2c2b17aefa6d81f27d9e8849f7b496538e0"), looks := false }, kinds := [], alts := [], laidByText := true, laidKinds := [.data], laidTests := true, laidLooks := .later }
def WaveTurnedCardSaid : Prop := Claim7.holds Tryd.pinned (.plain (OpenSpec.ofChange waveTurnedSpec)) waveTurnedCard

/-- THE TIED CARD OF 'pennantlaw15.WaveMore'. -/
def waveMoreCard : Claim7 := { stood := { row := waveMoreRow, standIns := [], harness := (true, "c4527f0deef4b31a6ff9f52715a8e2c2b17aefa6d81f27d9e8849f7b496538e0"), looks := false }, kinds := [], alts := [], laidByText := true, laidKinds := [.data], laidTests := true, laidLooks := .later }
def WaveMoreCardSaid : Prop := Claim7.holds Tryd.pinned (.plain (OpenSpec.ofChange waveMoreSpec)) waveMoreCard

/-- THE TIED CARD OF 'pennantlaw15.WaveOrder'. -/
def waveOrderCard : Claim7 := { stood := { row := waveOrderRow, standIns := [], harness := (true, "c4527f0deef4b31a6ff9f52715a8e2c2b17aefa6d81f27d9e8849f7b496538e0"), looks := false }, kinds := [], alts := [], laidByText := true, laidKinds := [.data], laidTests := true, laidLooks := .later }
def WaveOrderCardSaid : Prop := Claim7.holds Tryd.pinned (.plain (OpenSpec.ofChange waveOrderSpec)) waveOrderCard

/-- THE TIED CARD OF 'pennantlaw15.WaveLess'. -/
def waveLessCard : Claim7 := { stood := { row := waveLessRow, standIns := [], harness := (true, "c4527f0deef4b31a6ff9f52715a8e2c2b17aefa6d81f27d9e8849f7b496538e0"), looks := false }, kinds := [], alts := [], laidByText := true, laidKinds := [.data], laidTests := true, laidLooks := .later }
def WaveLessCardSaid : Prop := Claim7.holds Tryd.pinned (.plain (OpenSpec.ofChange waveLessSpec)) waveLessCard

/-- THE SECOND FORM's CARD OF 'pennantlaw15.WavePlans'. -/
def wavePlansUptoCard : Claim7 := { stood := { row := wavePlansUptoRow, standIns := [], harness := (true, "c4527f0deef4b31a6ff9f52715a8e2c2b17aefa6d81f27d9e8849f7b496538e0"), looks := false }, kinds := [], alts := [], laidByText := true, laidKinds := [.data], laidTests := true, laidLooks := .later }
def WavePlansUptoCardSaid : Prop := Claim7.holds Tryd.pinned (.plain (OpenSpec.upto wavePlansSpec)) wavePlansUptoCard

/-- THE SECOND FORM's CARD OF 'pennantlaw15.WaveJudges'. -/
def waveJudgesUptoCard : Claim7 := { stood := { row := waveJudgesUptoRow, standIns := [], harness := (true, "c4527f0deef4b31a6ff9f52715a8e2c2b17aefa6d81f27d9e8849f7b496538e0"), looks := false }, kinds := [], alts := [], laidByText := true, laidKinds := [.data], laidTests := true, laidLooks := .later }
def WaveJudgesUptoCardSaid : Prop := Claim7.holds Tryd.pinned (.plain (OpenSpec.upto waveJudgesSpec)) waveJudgesUptoCard

/-- THE SECOND FORM's CARD OF 'pennantlaw15.WaveAll'. -/
def waveAllUptoCard : Claim7 := { stood := { row := waveAllUptoRow, standIns := [], harness := (true, "c4527f0deef4b31a6ff9f52715a8e2c2b17aefa6d81f27d9e8849f7b496538e0"), looks := false }, kinds := [], alts := [], laidByText := true, laidKinds := [.data], laidTests := true, laidLooks := .later }
def WaveAllUptoCardSaid : Prop := Claim7.holds Tryd.pinned (.plain (OpenSpec.upto waveAllSpec)) waveAllUptoCard

/-- THE SECOND FORM's CARD OF 'pennantlaw15.WaveTurned'. -/
def waveTurnedUptoCard : Claim7 := { stood := { row := waveTurnedUptoRow, standIns := [], harness := (true, "c4527f0deef4b31a6ff9f52715a8e2c2b17aefa6d81f27d9e8849f7b496538e0"), looks := false }, kinds := [], alts := [], laidByText := true, laidKinds := [.data], laidTests := true, laidLooks := .later }
def WaveTurnedUptoCardSaid : Prop := Claim7.holds Tryd.pinned (.plain (OpenSpec.upto waveTurnedSpec)) waveTurnedUptoCard

/-- THE SECOND FORM's CARD OF 'pennantlaw15.WaveMore'. -/
def waveMoreUptoCard : Claim7 := { stood := { row := waveMoreUptoRow, standIns := [], harness := (true, "c4527f0deef4b31a6ff9f52715a8e2c2b17aefa6d81f27d9e8849f7b496538e0"), looks := false }, kinds := [], alts := [], laidByText := true, laidKinds := [.data], laidTests := true, laidLooks := .later }
def WaveMoreUptoCardSaid : Prop := Claim7.holds Tryd.pinned (.plain (OpenSpec.upto waveMoreSpec)) waveMoreUptoCard

/-- THE SECOND FORM's CARD OF 'pennantlaw15.WaveOrder'. -/
def waveOrderUptoCard : Claim7 := { stood := { row := waveOrderUptoRow, standIns := [], harness := (true, "c4527f0deef4b31a6ff9f52715a8e2c2b17aefa6d81f27d9e8849f7b496538e0"), looks := false }, kinds := [], alts := [], laidByText := true, laidKinds := [.data], laidTests := true, laidLooks := .later }
def WaveOrderUptoCardSaid : Prop := Claim7.holds Tryd.pinned (.plain (OpenSpec.upto waveOrderSpec)) waveOrderUptoCard

/-- THE SECOND FORM's CARD OF 'pennantlaw15.WaveLess'. -/
def waveLessUptoCard : Claim7 := { stood := { row := waveLessUptoRow, standIns := [], harness := (true, "c4527f0deef4b31a6ff9f52715a8e2c2b17aefa6d81f27d9e8849f7b496538e0"), looks := false }, kinds := [], alts := [], laidByText := true, laidKinds := [.data], laidTests := true, laidLooks := .later }
def WaveLessUptoCardSaid : Prop := Claim7.holds Tryd.pinned (.plain (OpenSpec.upto waveLessSpec)) waveLessUptoCard
end Rows
end Go.Proofs.YthabnmihfgoabaaDoor
