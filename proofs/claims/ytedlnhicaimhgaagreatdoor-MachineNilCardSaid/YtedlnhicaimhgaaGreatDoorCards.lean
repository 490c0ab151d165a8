/-
  DERIVED. GIVEN WITH THE SEED: THE CARDS: each row of YtedlnhicaimhgaaGreatDoorRows.lean that lists a variable, with what it lists TIED to the program's text (the seventh form; the later family's looks); each row that meets fmt, with fmt's text TOLD by the authors' own Lean function (tested against real Go, not proved from fmt's source: count such statements apart). THE CARD IS WHAT COUNTS. Prove the row's statement (the work); the ties are given (YtedlnhicaimhgaaGreatDoorTie.lean); close each card by the builder's one call (the guide's Derived/Test/ToyasCard.lean, 'card_holds'). Laid BY PROGRAM, IN A SANDBOX (cutbox-door.mjs). By AI agents, Wed Nov 11 2026. No macro, syntax, notation, axiom, sorry.
-/
import Derived.Test.YtedlnhicaimhgaaGreatDoorRows
import GoSem.ClaimSeven
namespace Go.Proofs.YtedlnhicaimhgaaGreatDoor
namespace Rows

/-- THE TIED CARD OF 'sibyllaw17.MachineNil'. -/
def machineNilCard : Claim7 := { stood := { row := machineNilRow, standIns := [], harness := (true, "0383bb654f19f3b9b21309a72101ade9b875b0e54e5651d42ef85162e03c683e"), looks := true }, kinds := [], alts := [], laidByText := true, laidKinds := [.data, .data, .data, .listed, .data], laidTests := true, laidLooks := .later }
def MachineNilCardSaid : Prop := Claim7.holds Tryz.pinned (.plain (OpenSpec.ofChange machineNilSpec)) machineNilCard

/-- THE TIED CARD OF 'sibyllaw17.MachineLeft'. -/
def machineLeftCard : Claim7 := { stood := { row := machineLeftRow, standIns := [], harness := (true, "0383bb654f19f3b9b21309a72101ade9b875b0e54e5651d42ef85162e03c683e"), looks := true }, kinds := [], alts := [], laidByText := true, laidKinds := [.data, .data, .data, .listed, .data], laidTests := true, laidLooks := .later }
def MachineLeftCardSaid : Prop := Claim7.holds Tryz.pinned (.plain (OpenSpec.ofChange machineLeftSpec)) machineLeftCard

/-- THE TIED CARD OF 'sibyllaw17.MachineIs'. -/
def machineIsCard : Claim7 := { stood := { row := machineIsRow, standIns := [], harness := (true, "0383bb654f19f3b9b21309a72101ade9b875b0e54e5651d42ef85162e03c683e"), looks := true }, kinds := [], alts := [], laidByText := true, laidKinds := [.data, .data, .data, .listed, .data], laidTests := true, laidLooks := .later }
def MachineIsCardSaid : Prop := Claim7.holds Tryz.pinned (.plain (OpenSpec.ofChange machineIsSpec)) machineIsCard

/-- THE TIED CARD OF 'sibyllaw17.MachineRefused'. -/
def machineRefusedCard : Claim7 := { stood := { row := machineRefusedRow, standIns := [], harness := (true, "0383bb654f19f3b9b21309a72101ade9b875b0e54e5651d42ef85162e03c683e"), looks := true }, kinds := [], alts := [], laidByText := true, laidKinds := [.data, .data, .data, .listed, .data], laidTests := true, laidLooks := .later }
def MachineRefusedCardSaid : Prop := Claim7.holds Tryz.pinned (.plain (OpenSpec.ofChange machineRefusedSpec)) machineRefusedCard

/-- THE TIED CARD OF 'sibyllaw17.MachineBounds'. -/
def machineBoundsCard : Claim7 := { stood := { row := machineBoundsRow, standIns := [], harness := (true, "0383bb654f19f3b9b21309a72101ade9b875b0e54e5651d42ef85162e03c683e"), looks := true }, kinds := [], alts := [], laidByText := true, laidKinds := [.data, .data, .data, .listed, .data], laidTests := true, laidLooks := .later }
def MachineBoundsCardSaid : Prop := Claim7.holds Tryz.pinned (.plain (OpenSpec.ofChange machineBoundsSpec)) machineBoundsCard

/-- THE TIED CARD OF 'sibyllaw17.MachineSweeps'. -/
def machineSweepsCard : Claim7 := { stood := { row := machineSweepsRow, standIns := [], harness := (true, "0383bb654f19f3b9b21309a72101ade9b875b0e54e5651d42ef85162e03c683e"), looks := true }, kinds := [], alts := [], laidByText := true, laidKinds := [.data, .data, .data, .listed, .data], laidTests := true, laidLooks := .later }
def MachineSweepsCardSaid : Prop := Claim7.holds Tryz.pinned (.plain (OpenSpec.ofChange machineSweepsSpec)) machineSweepsCard

/-- THE TIED CARD OF 'sibyllaw17.MachineFollows'. -/
def machineFollowsCard : Claim7 := { stood := { row := machineFollowsRow, standIns := [], harness := (true, "0383bb654f19f3b9b21309a72101ade9b875b0e54e5651d42ef85162e03c683e"), looks := true }, kinds := [], alts := [], laidByText := true, laidKinds := [.data, .data, .data, .listed, .data], laidTests := true, laidLooks := .later }
def MachineFollowsCardSaid : Prop := Claim7.holds Tryz.pinned (.plain (OpenSpec.ofChange machineFollowsSpec)) machineFollowsCard

/-- THE TIED CARD OF 'sibyllaw16.ReduceFuel'. -/
def reduceFuelCard : Claim7 := { stood := { row := reduceFuelRow, standIns := [], harness := (true, "0383bb654f19f3b9b21309a72101ade9b875b0e54e5651d42ef85162e03c683e"), looks := true }, kinds := [], alts := [], laidByText := true, laidKinds := [.data, .data, .data, .listed, .data], laidTests := true, laidLooks := .later }
def ReduceFuelCardSaid : Prop := Claim7.holds Tryz.pinned (.plain (OpenSpec.ofChange reduceFuelSpec)) reduceFuelCard

/-- THE TIED CARD OF 'sibyllaw16.ReduceAgrees'. -/
def reduceAgreesCard : Claim7 := { stood := { row := reduceAgreesRow, standIns := [], harness := (true, "0383bb654f19f3b9b21309a72101ade9b875b0e54e5651d42ef85162e03c683e"), looks := true }, kinds := [], alts := [], laidByText := true, laidKinds := [.data, .data, .data, .listed, .data], laidTests := true, laidLooks := .later }
def ReduceAgreesCardSaid : Prop := Claim7.holds Tryz.pinned (.plain (OpenSpec.ofChange reduceAgreesSpec)) reduceAgreesCard

/-- THE TIED CARD OF 'sibyllaw16.ReduceRaw'. -/
def reduceRawCard : Claim7 := { stood := { row := reduceRawRow, standIns := [], harness := (true, "0383bb654f19f3b9b21309a72101ade9b875b0e54e5651d42ef85162e03c683e"), looks := true }, kinds := [], alts := [], laidByText := true, laidKinds := [.data, .data, .data, .listed, .data], laidTests := true, laidLooks := .later }
def ReduceRawCardSaid : Prop := Claim7.holds Tryz.pinned (.plain (OpenSpec.ofChange reduceRawSpec)) reduceRawCard

/-- THE SECOND FORM's CARD OF 'sibyllaw17.MachineNil'. -/
def machineNilUptoCard : Claim7 := { stood := { row := machineNilUptoRow, standIns := [], harness := (true, "0383bb654f19f3b9b21309a72101ade9b875b0e54e5651d42ef85162e03c683e"), looks := true }, kinds := [], alts := [], laidByText := true, laidKinds := [.data, .data, .data, .listed, .data], laidTests := true, laidLooks := .later }
def MachineNilUptoCardSaid : Prop := Claim7.holds Tryz.pinned (.plain (OpenSpec.upto machineNilSpec)) machineNilUptoCard

/-- THE SECOND FORM's CARD OF 'sibyllaw17.MachineLeft'. -/
def machineLeftUptoCard : Claim7 := { stood := { row := machineLeftUptoRow, standIns := [], harness := (true, "0383bb654f19f3b9b21309a72101ade9b875b0e54e5651d42ef85162e03c683e"), looks := true }, kinds := [], alts := [], laidByText := true, laidKinds := [.data, .data, .data, .listed, .data], laidTests := true, laidLooks := .later }
def MachineLeftUptoCardSaid : Prop := Claim7.holds Tryz.pinned (.plain (OpenSpec.upto machineLeftSpec)) machineLeftUptoCard

/-- THE SECOND FORM's CARD OF 'sibyllaw17.MachineIs'. -/
def machineIsUptoCard : Claim7 := { stood := { row := machineIsUptoRow, standIns := [], harness := (true, "0383bb654f19f3b9b21309a72101ade9b875b0e54e5651d42ef85162e03c683e"), looks := true }, kinds := [], alts := [], laidByText := true, laidKinds := [.data, .data, .data, .listed, .data], laidTests := true, laidLooks := .later }
def MachineIsUptoCardSaid : Prop := Claim7.holds Tryz.pinned (.plain (OpenSpec.upto machineIsSpec)) machineIsUptoCard

/-- THE SECOND FORM's CARD OF 'sibyllaw17.MachineRefused'. -/
def machineRefusedUptoCard : Claim7 := { stood := { row := machineRefusedUptoRow, standIns := [], harness := (true, "0383bb654f19f3b9b21309a72101ade9b875b0e54e5651d42ef85162e03c683e"), looks := true }, kinds := [], alts := [], laidByText := true, laidKinds := [.data, .data, .data, .listed, .data], laidTests := true, laidLooks := .later }
def MachineRefusedUptoCardSaid : Prop := Claim7.holds Tryz.pinned (.plain (OpenSpec.upto machineRefusedSpec)) machineRefusedUptoCard

/-- THE SECOND FORM's CARD OF 'sibyllaw17.MachineBounds'. -/
def machineBoundsUptoCard : Claim7 := { stood := { row := machineBoundsUptoRow, standIns := [], harness := (true, "0383bb654f19f3b9b21309a72101ade9b875b0e54e5651d42ef85162e03c683e"), looks := true }, kinds := [], alts := [], laidByText := true, laidKinds := [.data, .data, .data, .listed, .data], laidTests := true, laidLooks := .later }
def MachineBoundsUptoCardSaid : Prop := Claim7.holds Tryz.pinned (.plain (OpenSpec.upto machineBoundsSpec)) machineBoundsUptoCard

/-- THE SECOND FORM's CARD OF 'sibyllaw17.MachineSweeps'. -/
def machineSweepsUptoCard : Claim7 := { stood := { row := machineSweepsUptoRow, standIns := [], harness := (true, "0383bb654f19f3b9b21309a72101ade9b875b0e54e5651d42ef85162e03c683e"), looks := true }, kinds := [], alts := [], laidByText := true, laidKinds := [.data, .data, .data, .listed, .data], laidTests := true, laidLooks := .later }
def MachineSweepsUptoCardSaid : Prop := Claim7.holds Tryz.pinned (.plain (OpenSpec.upto machineSweepsSpec)) machineSweepsUptoCard

/-- THE SECOND FORM's CARD OF 'sibyllaw17.MachineFollows'. -/
def machineFollowsUptoCard : Claim7 := { stood := { row := machineFollowsUptoRow, standIns := [], harness := (true, "0383bb654f19f3b9b21309a72101ade9b875b0e54e5651d42ef85162e03c683e"), looks := true }, kinds := [], alts := [], laidByText := true, laidKinds := [.data, .data, .data, .listed, .data], laidTests := true, laidLooks := .later }
def MachineFollowsUptoCardSaid : Prop := Claim7.holds Tryz.pinned (.plain (OpenSpec.upto machineFollowsSpec)) machineFollowsUptoCard

/-- THE SECOND FORM's CARD OF 'sibyllaw16.ReduceFuel'. -/
def reduceFuelUptoCard : Claim7 := { stood := { row := reduceFuelUptoRow, standIns := [], harness := (true, "0383bb654f19f3b9b21309a72101ade9b875b0e54e5651d42ef85162e03c683e"), looks := true }, kinds := [], alts := [], laidByText := true, laidKinds := [.data, .data, .data, .listed, .data], laidTests := true, laidLooks := .later }
def ReduceFuelUptoCardSaid : Prop := Claim7.holds Tryz.pinned (.plain (OpenSpec.upto reduceFuelSpec)) reduceFuelUptoCard

/-- THE SECOND FORM's CARD OF 'sibyllaw16.ReduceAgrees'. -/
def reduceAgreesUptoCard : Claim7 := { stood := { row := reduceAgreesUptoRow, standIns := [], harness := (true, "0383bb654f19f3b9b21309a72101ade9b875b0e54e5651d42ef85162e03c683e"), looks := true }, kinds := [], alts := [], laidByText := true, laidKinds := [.data, .data, .data, .listed, .data], laidTests := true, laidLooks := .later }
def ReduceAgreesUptoCardSaid : Prop := Claim7.holds Tryz.pinned (.plain (OpenSpec.upto reduceAgreesSpec)) reduceAgreesUptoCard

/-- THE SECOND FORM's CARD OF 'sibyllaw16.ReduceRaw'. -/
def reduceRawUptoCard : Claim7 := { stood := { row := reduceRawUptoRow, standIns := [], harness := (true, "0383bb654f19f3b9b21309a72101ade9b875b0e54e5651d42ef85162e03c683e"), looks := true }, kinds := [], alts := [], laidByText := true, laidKinds := [.data, .data, .data, .listed, .data], laidTests := true, laidLooks := .later }
def ReduceRawUptoCardSaid : Prop := Claim7.holds Tryz.pinned (.plain (OpenSpec.upto reduceRawSpec)) reduceRawUptoCard
end Rows
end Go.Proofs.YtedlnhicaimhgaaGreatDoor
