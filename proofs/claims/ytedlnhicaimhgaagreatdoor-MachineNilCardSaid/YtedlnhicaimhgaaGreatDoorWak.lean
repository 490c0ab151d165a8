import Derived.Test.YtedlnhicaimhgaaGreatDoorWakE
import Derived.Test.YtedlnhicaimhgaaGreatDoorWak0
import Derived.Test.YtedlnhicaimhgaaGreatDoorWak1
namespace Go.Ab
open Go.Proofs
set_option maxRecDepth 100000
theorem wp2 : we2.ok (progC Tryz.prog) := by
  have h : ∀ e ∈ [we0, we1], e.ok (progC Tryz.prog) := by
    intro e he
    simp only [List.mem_cons, List.not_mem_nil, or_false] at he
    rcases he with rfl | rfl
    · exact wp0
    · exact wp1
  exact Ent.ok_of (progC Tryz.prog) [we0, we1] h (by kernel_rfl)
def saysTrue : Option CR → Bool
  | some (.ret (.bool true) _) => true
  | _ => false
theorem wak_run : saysTrue (callF (progC Tryz.prog) 100000 13 [] H0) = true := by
  have h : callF (progC Tryz.prog) 100000 13 [] H0 = some (.ret (.bool true) wg2) := wp2
  rw [h]; rfl
end Go.Ab
