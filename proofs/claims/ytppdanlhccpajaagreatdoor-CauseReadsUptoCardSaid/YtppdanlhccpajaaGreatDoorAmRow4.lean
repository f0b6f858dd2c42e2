/- Proved: the given statement CauseReadsUptoCardSaid: for every expression of bulk at most 1048576 the law CauseReads returns true (what the program reads of it, in order, is what the reference reads), and the argument reads behind the call as before. Conditions: the given card's own, and no others. -/
import Derived.Test.YtppdanlhccpajaaGreatDoorAmRow2
import Derived.Test.YtppdanlhccpajaaGreatDoorAmRow3
set_option linter.unusedSimpArgs false
set_option linter.unusedVariables false
set_option linter.unusedSectionVars false
namespace Go.Proofs.YtppdanlhccpajaaGreatDoor.causeReads
open Go.ChangeShapes Go.WideShapes Go.ChangeAt Go.RowKit

theorem named7 : Tryz.pinned.checked.prog.funcNamed Rows.causeReadsUptoRow.func = some 7 := by kernel_rfl
theorem inst7 : Tryz.f7.isInstance Tryz.pinned.checked.prog Rows.causeReadsUptoRow.origin Rows.causeReadsUptoRow.targs := of_decide_eq_true (by kernel_rfl)
theorem wrap7 : Tryz.f7.isWrapper Tryz.pinned.checked.prog Rows.causeReadsUptoRow.wrapper Rows.causeReadsUptoRow.mainSum := by
  unfold Func.isWrapper; first | (rw [if_pos (by decide +kernel)]; kernel_rfl) | (rw [if_neg (by decide +kernel)]; exact ⟨rfl, rfl⟩)
theorem saidUpto : Rows.CauseReadsUptoSaid :=
  OpenClaim.holds_of_cond 7 Tryz.f7 rfl rfl rfl rfl rfl rfl rfl ⟨rfl, rfl, rfl, rfl, rfl⟩ rfl rfl rfl rfl rfl named7 Tryz.func7 closedFacts
    inst7 wrap7
    (fun os started H enc _ F => by rw [OpenClaim.pre_eq_preRow]; exact liftedUpto os started H enc F)

/-- No parameter wants a stand-in; the program's own looks are off. -/
theorem plain (f : FuncId) (fn : Func) (hf : Tryz.pinned.checked.prog.funcNamed "pendule/pendulelaw11.CauseReads" = some f) (hfn : Tryz.pinned.checked.prog.funcs[f]? = some fn) :
    true = Tryz.pinned.checked.prog.looks [] ∧ ∀ (j : Nat) t, fn.params[j]? = some t → Tryz.pinned.checked.prog.wantsStandIn t = false := by
  obtain rfl : f = 7 := Option.some.inj ((show Tryz.prog.funcNamed "pendule/pendulelaw11.CauseReads" = some 7 by kernel_rfl).symm.trans hf) |>.symm
  obtain rfl : fn = Tryz.f7 := (Option.some.inj (Tryz.func7.symm.trans hfn)).symm
  refine ⟨by kernel_rfl, fun j t ht => ?_⟩
  rw [Tryz.params7] at ht
  obtain rfl : t = 56 := by simpa using Array.mem_of_getElem? ht
  exact (show Tryz.prog.wantsStandIn 56 = false by kernel_rfl)

/-- THE SECOND FORM's CARD. -/
theorem cardUpto : Rows.CauseReadsUptoCardSaid :=
  Claim7.holds_tied_plain_at .later [] _ _ _ _ saidUpto (fun _ h => by cases h) (by kernel_rfl) (fun _ h => by cases h) causeReadsUpto_row_tie rfl ⟨rfl, rfl⟩ (by kernel_rfl) rfl plain (by kernel_rfl)
#print axioms cardUpto
end Go.Proofs.YtppdanlhccpajaaGreatDoor.causeReads
