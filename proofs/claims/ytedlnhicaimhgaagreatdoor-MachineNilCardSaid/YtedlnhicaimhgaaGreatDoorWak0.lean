import Derived.Test.YtedlnhicaimhgaaGreatDoorWakD
namespace Go.Ab
open Go.Proofs
set_option maxRecDepth 100000
theorem wp0 : we0.ok (progC Tryz.prog) := Ent.ok_of (progC Tryz.prog) [] (by intro e he; cases he) (by kernel_rfl)
end Go.Ab
