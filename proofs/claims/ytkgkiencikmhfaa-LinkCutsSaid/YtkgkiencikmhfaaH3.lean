/- What this text holds: the contract of the laws' fit. -/
import Derived.Test.YtkgkiencikmhfaaH2
set_option linter.unusedVariables false
set_option linter.unusedSimpArgs false
namespace Go.Proofs.Ytkgkiencikmhfaa.B
open Go.RowKit

def fitB (mn mx rt : Int) (ns nc : Nat) : Bool := decide (0 ≤ mn ∧ mn ≤ mx ∧ mx ≤ 100 ∧ 0 ≤ rt ∧ rt ≤ 100 ∧ ns ≤ 20 ∧ nc ≤ 100)

set_option maxRecDepth 100000 in
set_option maxHeartbeats 2000000 in
theorem fit_calls (mn mx rt : Int) (A : Option Addr) (ns c : Nat) (A1 : Option Addr) (nc c1 : Nat) (w : World) :
    Calls Try.prog 21 #[.agg #[.int .i64 mn, .int .i64 mx, .int .i64 rt, .slice A ns c, .slice A1 nc c1]] w fun e w' => e = .returned (.bool (fitB mn mx rt ns nc)) ∧ Below w.heap.size w w' := by
  have hu49 := Try.underlying49
  have hu23 := Try.underlying23
  obtain ⟨r, hr⟩ : ∃ r, r = fitB mn mx rt ns nc := ⟨_, rfl⟩
  rw [← hr]
  have HR := Hd.mk hr
  clear hr
  go_enter Try.func21, Try.ntmps21
  go_wp2
  all_goals go_ret
  all_goals refine ⟨?_, by go_grown⟩
  all_goals rw [HR.out]
  all_goals refine congrArg Ending.returned (congrArg Value.bool ?_)
  all_goals rw [Bool.eq_iff_iff]
  all_goals simp [fitB]
  all_goals omega
end Go.Proofs.Ytkgkiencikmhfaa.B
