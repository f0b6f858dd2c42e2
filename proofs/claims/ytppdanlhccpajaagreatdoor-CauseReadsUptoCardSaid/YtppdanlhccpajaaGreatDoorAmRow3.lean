/- CauseReads: the row's closed facts, one by one. -/
import Derived.Test.YtppdanlhccpajaaGreatDoorRows
import Derived.JoinedCond
import Derived.KernelRfl
set_option linter.unusedSimpArgs false
set_option linter.unusedVariables false
set_option linter.unusedSectionVars false
namespace Go.Proofs.YtppdanlhccpajaaGreatDoor.causeReads
open Go

theorem band {a b : Bool} (h : a = true) (k : b = true) : (a && b) = true := by rw [h, k]; rfl
set_option maxHeartbeats 0 in
theorem closedFacts : joinedFacts Tryz.pinned.checked.prog 7 Tryz.f7 (Rows.OpenSpec.upto Rows.causeReadsSpec).bare Rows.causeReadsUptoRow = true := by
  unfold joinedFacts
  repeat' (with_reducible refine band ?_ ?_)
  all_goals (as_aux_lemma => kernel_rfl)
end Go.Proofs.YtppdanlhccpajaaGreatDoor.causeReads
