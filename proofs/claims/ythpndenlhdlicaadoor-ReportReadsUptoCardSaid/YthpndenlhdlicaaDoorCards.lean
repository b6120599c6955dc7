/-
  DERIVED. GIVEN WITH THE SEED: THE CARDS: each row of YthpndenlhdlicaaDoorRows.lean that lists a variable, with what it lists TIED to the program's text (the seventh form; the later family's looks); each row that meets fmt, with fmt's text TOLD by the authors' own Lean function (tested against real Go, not proved from fmt's source: count such statements apart). THE CARD IS WHAT COUNTS. Prove the row's statement (the work); the ties are given (YthpndenlhdlicaaDoorTie.lean); close each card by the builder's one call (the guide's Derived/Test/ToyasCard.lean, 'card_holds'). Laid BY PROGRAM, IN A SANDBOX (cutbox-door.mjs). By AI agents, Wed Nov 11 2026. No macro, syntax, notation, axiom, sorry.
-/
import Derived.Test.YthpndenlhdlicaaDoorRows
import GoSem.ClaimSeven
namespace Go.Proofs.YthpndenlhdlicaaDoor
namespace Rows

/-- THE TIED CARD OF 'cadencylaw23.ReportReads'. -/
def reportReadsCard : Claim7 := { stood := { row := reportReadsRow, standIns := [], harness := (true, "26f0506e172cad091f51c2018574996f0e957e7668f095afbd02abc4c4a47ad9"), looks := true }, kinds := [], alts := [], laidByText := true, laidKinds := [.data, .data, .data, .sentinel, .sentinel], laidTests := true, laidLooks := .later }
def ReportReadsCardSaid : Prop := Claim7.holds Tryd.pinned (.plain (OpenSpec.ofChange reportReadsSpec)) reportReadsCard

/-- THE TIED CARD OF 'cadencylaw17.HyperIdle'. -/
def hyperIdleCard : Claim7 := { stood := { row := hyperIdleRow, standIns := [], harness := (true, "26f0506e172cad091f51c2018574996f0e957e7668f095afbd02abc4c4a47ad9"), looks := true }, kinds := [], alts := [], laidByText := true, laidKinds := [.data, .data], laidTests := true, laidLooks := .later }
def HyperIdleCardSaid : Prop := Claim7.holds Tryd.pinned (.plain (OpenSpec.ofChange hyperIdleSpec)) hyperIdleCard

/-- THE TIED CARD OF 'cadencylaw14.RtaSound'. -/
def rtaSoundCard : Claim7 := { stood := { row := rtaSoundRow, standIns := [], harness := (true, "26f0506e172cad091f51c2018574996f0e957e7668f095afbd02abc4c4a47ad9"), looks := true }, kinds := [], alts := [], laidByText := true, laidKinds := [.data], laidTests := true, laidLooks := .later }
def RtaSoundCardSaid : Prop := Claim7.holds Tryd.pinned (.plain (OpenSpec.ofChange rtaSoundSpec)) rtaSoundCard

/-- THE TIED CARD OF 'cadencylaw21.CheckAnyOrder'. -/
def checkAnyOrderCard : Claim7 := { stood := { row := checkAnyOrderRow, standIns := [], harness := (true, "26f0506e172cad091f51c2018574996f0e957e7668f095afbd02abc4c4a47ad9"), looks := true }, kinds := [], alts := [], laidByText := true, laidKinds := [.data], laidTests := true, laidLooks := .later }
def CheckAnyOrderCardSaid : Prop := Claim7.holds Tryd.pinned (.plain (OpenSpec.ofChange checkAnyOrderSpec)) checkAnyOrderCard

/-- THE TIED CARD OF 'cadencylaw16.SimSame'. -/
def simSameCard : Claim7 := { stood := { row := simSameRow, standIns := [], harness := (true, "26f0506e172cad091f51c2018574996f0e957e7668f095afbd02abc4c4a47ad9"), looks := true }, kinds := [], alts := [], laidByText := true, laidKinds := [.data], laidTests := true, laidLooks := .later }
def SimSameCardSaid : Prop := Claim7.holds Tryd.pinned (.plain (OpenSpec.ofChange simSameSpec)) simSameCard

/-- THE SECOND FORM's CARD OF 'cadencylaw23.ReportReads'. -/
def reportReadsUptoCard : Claim7 := { stood := { row := reportReadsUptoRow, standIns := [], harness := (true, "26f0506e172cad091f51c2018574996f0e957e7668f095afbd02abc4c4a47ad9"), looks := true }, kinds := [], alts := [], laidByText := true, laidKinds := [.data, .data, .data, .sentinel, .sentinel], laidTests := true, laidLooks := .later }
def ReportReadsUptoCardSaid : Prop := Claim7.holds Tryd.pinned (.plain (OpenSpec.upto reportReadsSpec)) reportReadsUptoCard

/-- THE SECOND FORM's CARD OF 'cadencylaw17.HyperIdle'. -/
def hyperIdleUptoCard : Claim7 := { stood := { row := hyperIdleUptoRow, standIns := [], harness := (true, "26f0506e172cad091f51c2018574996f0e957e7668f095afbd02abc4c4a47ad9"), looks := true }, kinds := [], alts := [], laidByText := true, laidKinds := [.data, .data], laidTests := true, laidLooks := .later }
def HyperIdleUptoCardSaid : Prop := Claim7.holds Tryd.pinned (.plain (OpenSpec.upto hyperIdleSpec)) hyperIdleUptoCard

/-- THE SECOND FORM's CARD OF 'cadencylaw14.RtaSound'. -/
def rtaSoundUptoCard : Claim7 := { stood := { row := rtaSoundUptoRow, standIns := [], harness := (true, "26f0506e172cad091f51c2018574996f0e957e7668f095afbd02abc4c4a47ad9"), looks := true }, kinds := [], alts := [], laidByText := true, laidKinds := [.data], laidTests := true, laidLooks := .later }
def RtaSoundUptoCardSaid : Prop := Claim7.holds Tryd.pinned (.plain (OpenSpec.upto rtaSoundSpec)) rtaSoundUptoCard

/-- THE SECOND FORM's CARD OF 'cadencylaw21.CheckAnyOrder'. -/
def checkAnyOrderUptoCard : Claim7 := { stood := { row := checkAnyOrderUptoRow, standIns := [], harness := (true, "26f0506e172cad091f51c2018574996f0e957e7668f095afbd02abc4c4a47ad9"), looks := true }, kinds := [], alts := [], laidByText := true, laidKinds := [.data], laidTests := true, laidLooks := .later }
def CheckAnyOrderUptoCardSaid : Prop := Claim7.holds Tryd.pinned (.plain (OpenSpec.upto checkAnyOrderSpec)) checkAnyOrderUptoCard

/-- THE SECOND FORM's CARD OF 'cadencylaw16.SimSame'. -/
def simSameUptoCard : Claim7 := { stood := { row := simSameUptoRow, standIns := [], harness := (true, "26f0506e172cad091f51c2018574996f0e957e7668f095afbd02abc4c4a47ad9"), looks := true }, kinds := [], alts := [], laidByText := true, laidKinds := [.data], laidTests := true, laidLooks := .later }
def SimSameUptoCardSaid : Prop := Claim7.holds Tryd.pinned (.plain (OpenSpec.upto simSameSpec)) simSameUptoCard
end Rows
end Go.Proofs.YthpndenlhdlicaaDoor
