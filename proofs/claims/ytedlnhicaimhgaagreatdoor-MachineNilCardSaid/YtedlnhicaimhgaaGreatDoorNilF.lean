import Derived.Test.YtedlnhicaimhgaaGreatDoorRows
import Derived.JoinedCond
/-!
The closed facts of the row, each by itself (printed by gen_facts.py).
-/
namespace Go.Proofs.YtedlnhicaimhgaaGreatDoor.machineNil
set_option maxRecDepth 100000
open Go Go.Proofs
theorem and_intro {a b : Bool} (h : a = true) (h' : b = true) : (a && b) = true := by rw [h, h']; rfl
theorem fact0 : (Rows.machineNilRow.wf (OpenSpec.ofChange Rows.machineNilSpec)) = true := by kernel_rfl
theorem fact1 : (laidOutB Tryz.pinned.checked.prog) = true := by kernel_rfl
theorem fact2 : (mapsRowed Tryz.pinned.checked.prog) = true := by kernel_rfl
theorem fact3 : (Tryz.f3.params.all (Tryz.pinned.checked.prog.readableRec ·)) = true := by kernel_rfl
theorem fact4 : (namedTie Tryz.pinned.checked.prog Rows.machineNilRow.named Rows.machineNilSpec.vars) = true := by kernel_rfl
theorem fact5 : ((Rows.machineNilRow.stops == [])) = true := by kernel_rfl
theorem fact6 : ((Tryz.pinned.checked.prog.stops == [])) = true := by kernel_rfl
theorem fact7 : ((Rows.machineNilRow.knobs == [])) = true := by kernel_rfl
theorem fact8 : ((Tryz.pinned.checked.prog.stopKnobs == [])) = true := by kernel_rfl
theorem fact9 : ((Rows.machineNilRow.inPlace == Tryz.pinned.checked.prog.inPlace (3 : FuncId))) = true := by kernel_rfl
theorem fact10 : ((Rows.machineNilRow.unfollowed == Tryz.pinned.checked.prog.unfollowed (3 : FuncId))) = true := by kernel_rfl
theorem fact11 : ((Rows.machineNilRow.recurses == Tryz.pinned.checked.prog.recurses (3 : FuncId))) = true := by kernel_rfl
theorem fact12 : ((Rows.machineNilRow.named == Tryz.pinned.checked.prog.varsNamed (3 : FuncId))) = true := by kernel_rfl
theorem fact13 : ((Rows.machineNilRow.maps == (Tryz.f3.params.toList ++ Rows.machineNilSpec.plain.varTypes Tryz.pinned.checked.prog).any (Tryz.pinned.checked.prog.mapsRec ·))) = true := by kernel_rfl
theorem fact14 : ((Rows.machineNilRow.ifaces == (Tryz.f3.params.toList ++ Rows.machineNilSpec.plain.varTypes Tryz.pinned.checked.prog).any (Tryz.pinned.checked.prog.ifacesRec ·))) = true := by kernel_rfl
theorem fact15 : ((Rows.machineNilRow.mapsOut == Tryz.pinned.checked.prog.mapsAmong Tryz.f3.resultTypes.toList)) = true := by kernel_rfl
theorem fact16 : ((Rows.machineNilRow.loops == (Tryz.f3.params.toList ++ Rows.machineNilSpec.plain.varTypes Tryz.pinned.checked.prog).any (Tryz.pinned.checked.prog.loopsFrom ·))) = true := by kernel_rfl
theorem fact17 : ((Rows.machineNilRow.wideKeys == (Tryz.f3.params.toList ++ Rows.machineNilSpec.plain.varTypes Tryz.pinned.checked.prog ++ Tryz.f3.resultTypes.toList).any (Tryz.pinned.checked.prog.wideKeysFrom ·))) = true := by kernel_rfl
theorem fact18 : (Rows.machineNilSpec.vars.all (Tryz.pinned.checked.prog.varReadable ·)) = true := by kernel_rfl
theorem fact19 : (Tryz.f3.resultTypes.all (fun t => Tryz.pinned.checked.prog.readableRec t && decide (t < Tryz.pinned.checked.prog.types.size))) = true := by kernel_rfl
theorem fact20 : ((Rows.machineNilRow.ifacesOut == Tryz.f3.resultTypes.toList.any (Tryz.pinned.checked.prog.ifacesRec ·))) = true := by kernel_rfl
theorem fact21 : ((Rows.machineNilRow.loopsOut == Tryz.f3.resultTypes.toList.any (Tryz.pinned.checked.prog.loopsFrom ·))) = true := by kernel_rfl
theorem fact22 : ((Rows.machineNilRow.plainKeys == Tryz.pinned.checked.prog.plainKeys)) = true := by kernel_rfl
theorem fact23 : (Rows.machineNilRow.shortTexts.isNone) = true := by kernel_rfl
theorem fact24 : (Tryz.pinned.checked.prog.stopsHeard) = true := by kernel_rfl
theorem fact25 : (Tryz.pinned.checked.prog.mayEnter) = true := by kernel_rfl
theorem fact26 : ((Rows.machineNilRow.lifted == Tryz.pinned.checked.prog.liftsFinal)) = true := by kernel_rfl
theorem fact27 : ((Tryz.pinned.checked.prog.make == some Rows.machineNilRow.make)) = true := by kernel_rfl
theorem fact28 : ((Rows.machineNilRow.kinds == (if Rows.machineNilRow.domain.isEmpty then [] else Tryz.f3.params.toList.map fun t => match Tryz.pinned.checked.prog.underlying t with | some (.int k) => some k | _ => none))) = true := by kernel_rfl
theorem fact29 : ((Rows.machineNilRow.pinned == Rows.machineNilRow.pinnedBy)) = true := by kernel_rfl
theorem fact30 : ((Rows.machineNilRow.veiled == (Tryz.f3.params.toList ++ Rows.machineNilSpec.plain.varTypes Tryz.pinned.checked.prog ++ Tryz.f3.resultTypes.toList).any (Tryz.pinned.checked.prog.veiledRec ·))) = true := by kernel_rfl
theorem fact31 : (Rows.machineNilRow.veiledFits Tryz.pinned.checked.prog Tryz.f3.params.toList (Tryz.f3.params.toList ++ Rows.machineNilSpec.plain.varTypes Tryz.pinned.checked.prog ++ Tryz.f3.resultTypes.toList)) = true := by kernel_rfl
theorem facts : joinedFacts Tryz.pinned.checked.prog 3 Tryz.f3 (OpenSpec.ofChange Rows.machineNilSpec).bare Rows.machineNilRow = true := (and_intro (and_intro (and_intro (and_intro (and_intro (and_intro (and_intro (and_intro (and_intro (and_intro (and_intro (and_intro (and_intro (and_intro (and_intro (and_intro (and_intro (and_intro (and_intro (and_intro (and_intro (and_intro (and_intro (and_intro (and_intro (and_intro (and_intro (and_intro (and_intro (and_intro (and_intro fact0 fact1) fact2) fact3) fact4) fact5) fact6) fact7) fact8) fact9) fact10) fact11) fact12) fact13) fact14) fact15) fact16) fact17) fact18) fact19) fact20) fact21) fact22) fact23) fact24) fact25) fact26) fact27) fact28) fact29) fact30) fact31)
end Go.Proofs.YtedlnhicaimhgaaGreatDoor.machineNil
