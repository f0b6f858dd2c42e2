/- What is asked of the program's text. -/
import Derived.Test.YtppdanlhccpajaaGreatDoorProg
import Derived.Test.YtppdanlhccpajaaGreatDoorAmSound
import Derived.KernelRfl
set_option linter.unusedSimpArgs false
set_option linter.unusedVariables false
set_option linter.unusedSectionVars false
namespace Go.AM
open Go.Proofs

def codesOk (p : Program) : Bool := p.funcs.toList.all fun fn => match fn.body with | some c => codeOk c | none => true
theorem text_mixed : Tryz.prog.follows .mixedOrders = true := by kernel_rfl
theorem text_code : codesOk Tryz.prog = true := by kernel_rfl
theorem textOk : TextOk Tryz.prog := ⟨text_mixed, fun f fn c hf hb => by
  have h := text_code
  unfold codesOk at h
  rw [List.all_eq_true] at h
  have := h fn (by
    have : Tryz.prog.funcs.toList[f]? = some fn := by simpa using hf
    exact List.mem_of_getElem? this)
  rw [hb] at this
  exact this⟩
end Go.AM
