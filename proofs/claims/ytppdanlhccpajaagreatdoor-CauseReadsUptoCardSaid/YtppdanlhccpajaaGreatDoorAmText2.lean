/- The run of pendulelaw11.lives. -/
import Derived.Test.YtppdanlhccpajaaGreatDoorProg
import Derived.Test.YtppdanlhccpajaaGreatDoorAmSound
import Derived.KernelRfl
set_option linter.unusedSimpArgs false
set_option linter.unusedVariables false
set_option linter.unusedSectionVars false
namespace Go.AM
open Go.Proofs
noncomputable def okRun (r : Option (AV × AS)) : Bool := @Option.rec (AV × AS) (fun _ => Bool) false (fun r => boolK r.1 false fun b => b) r
theorem okRun_spec {r : Option (AV × AS)} (h : okRun r = true) : ∃ s', r = some (.bool true, s') := by
  cases r with
  | none => cases h
  | some r =>
    obtain ⟨v, s⟩ := r
    have h : boolK v false (fun b => b) = true := h
    rw [boolK_eq] at h
    cases v with
    | bool b =>
      simp only at h
      subst h
      exact ⟨s, rfl⟩
    | _ => cases h
theorem lives11_run : okRun (evCallK 300 (AProg.of Tryz.prog) 100000 NoY 21 [] ⟨.leaf, 0⟩) = true := by kernel_rfl
theorem lives11 : ∃ s', evCall (AProg.of Tryz.prog) 100000 300 NoY 21 [] ⟨.leaf, 0⟩ = some (.bool true, s') := by
  have := okRun_spec lives11_run
  rw [evCallK_eq] at this
  exact this
end Go.AM
