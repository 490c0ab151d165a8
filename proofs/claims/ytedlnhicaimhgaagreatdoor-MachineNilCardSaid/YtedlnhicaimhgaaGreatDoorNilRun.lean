import Derived.Test.YtedlnhicaimhgaaGreatDoorWak
namespace Go.Ab
open Go.Proofs
set_option maxRecDepth 100000
theorem nil_run (n : Int) : saysTrue (callF (progC Tryz.prog) 100001 3 [.int .i64 n] H0) = true := by
  have h : ∀ e ∈ [we2], e.ok (progC Tryz.prog) := by
    intro e he
    simp only [List.mem_cons, List.not_mem_nil, or_false] at he
    subst he
    exact wp2
  have e : saysTrue (callM (progC Tryz.prog) [we2] 100001 3 [.int .i64 n] H0) = true := by kernel_rfl
  rw [callM_eq (progC Tryz.prog) h 100001] at e
  exact e
end Go.Ab
