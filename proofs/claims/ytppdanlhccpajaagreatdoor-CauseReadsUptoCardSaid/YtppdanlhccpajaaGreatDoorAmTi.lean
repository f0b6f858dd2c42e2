/- Types and functions, as the machine sees them. -/
import Derived.Test.YtppdanlhccpajaaGreatDoorProg
import Derived.Test.YtppdanlhccpajaaGreatDoorAmWalk
import Derived.KernelRfl
set_option linter.unusedSimpArgs false
set_option linter.unusedVariables false
set_option linter.unusedSectionVars false
namespace Go.AM
open Go.Proofs
theorem ti2 : (AProg.of Tryz.prog).ti 2 = some ⟨(.int .i64), 1, 8, (some (.int .i64 0)), false⟩ := by kernel_rfl
theorem ti3 : (AProg.of Tryz.prog).ti 3 = some ⟨(.int .i64), 1, 8, (some (.int .i64 0)), false⟩ := by kernel_rfl
theorem ti4 : (AProg.of Tryz.prog).ti 4 = some ⟨.bool, 1, 1, (some (.bool false)), false⟩ := by kernel_rfl
theorem ti9 : (AProg.of Tryz.prog).ti 9 = some ⟨.str, 1, 16, (some (.str [])), false⟩ := by kernel_rfl
theorem ti49 : (AProg.of Tryz.prog).ti 49 = some ⟨(.slice 9), 1, 24, (some (.slice none 0 (some 0))), false⟩ := by kernel_rfl
theorem ti54 : (AProg.of Tryz.prog).ti 54 = some ⟨(.slice 56), 1, 24, (some (.slice none 0 (some 0))), false⟩ := by kernel_rfl
theorem ti56 : (AProg.of Tryz.prog).ti 56 = some ⟨(.struct [⟨3, 0, false⟩, ⟨9, 1, false⟩, ⟨2, 2, false⟩, ⟨49, 3, false⟩, ⟨54, 4, false⟩]), 5, 80, (some (.agg [.int .i64 0, .str [], .int .i64 0, .slice none 0 (some 0), .slice none 0 (some 0)])), false⟩ := by kernel_rfl
theorem ti87 : (AProg.of Tryz.prog).ti 87 = some ⟨(.ptr 90), 1, 8, (some (.ptr none)), false⟩ := by kernel_rfl
theorem ti88 : (AProg.of Tryz.prog).ti 88 = some ⟨(.map 9 3), 1, 8, (some (.map none)), false⟩ := by kernel_rfl
theorem ti90 : (AProg.of Tryz.prog).ti 90 = some ⟨(.struct [⟨49, 0, false⟩, ⟨88, 1, false⟩]), 2, 32, (some (.agg [.slice none 0 (some 0), .map none])), false⟩ := by kernel_rfl
theorem fn7 : (AProg.of Tryz.prog).fn 7 = some Tryz.f7 := by kernel_rfl
theorem body7 : Tryz.f7.body.isSome = true ∧ Tryz.f7.name ≠ "runtime.NumGoroutine" := ⟨by kernel_rfl, of_decide_eq_true (by kernel_rfl)⟩
theorem fn24 : (AProg.of Tryz.prog).fn 24 = some Tryz.f24 := by kernel_rfl
theorem body24 : Tryz.f24.body.isSome = true ∧ Tryz.f24.name ≠ "runtime.NumGoroutine" := ⟨by kernel_rfl, of_decide_eq_true (by kernel_rfl)⟩
theorem fn25 : (AProg.of Tryz.prog).fn 25 = some Tryz.f25 := by kernel_rfl
theorem body25 : Tryz.f25.body.isSome = true ∧ Tryz.f25.name ≠ "runtime.NumGoroutine" := ⟨by kernel_rfl, of_decide_eq_true (by kernel_rfl)⟩
theorem fn26 : (AProg.of Tryz.prog).fn 26 = some Tryz.f26 := by kernel_rfl
theorem body26 : Tryz.f26.body.isSome = true ∧ Tryz.f26.name ≠ "runtime.NumGoroutine" := ⟨by kernel_rfl, of_decide_eq_true (by kernel_rfl)⟩
theorem fn29 : (AProg.of Tryz.prog).fn 29 = some Tryz.f29 := by kernel_rfl
theorem body29 : Tryz.f29.body.isSome = true ∧ Tryz.f29.name ≠ "runtime.NumGoroutine" := ⟨by kernel_rfl, of_decide_eq_true (by kernel_rfl)⟩
theorem fn42 : (AProg.of Tryz.prog).fn 42 = some Tryz.f42 := by kernel_rfl
theorem body42 : Tryz.f42.body.isSome = true ∧ Tryz.f42.name ≠ "runtime.NumGoroutine" := ⟨by kernel_rfl, of_decide_eq_true (by kernel_rfl)⟩
theorem fn43 : (AProg.of Tryz.prog).fn 43 = some Tryz.f43 := by kernel_rfl
theorem body43 : Tryz.f43.body.isSome = true ∧ Tryz.f43.name ≠ "runtime.NumGoroutine" := ⟨by kernel_rfl, of_decide_eq_true (by kernel_rfl)⟩
theorem fn71 : (AProg.of Tryz.prog).fn 71 = some Tryz.f71 := by kernel_rfl
theorem body71 : Tryz.f71.body.isSome = true ∧ Tryz.f71.name ≠ "runtime.NumGoroutine" := ⟨by kernel_rfl, of_decide_eq_true (by kernel_rfl)⟩
theorem fn72 : (AProg.of Tryz.prog).fn 72 = some Tryz.f72 := by kernel_rfl
theorem body72 : Tryz.f72.body.isSome = true ∧ Tryz.f72.name ≠ "runtime.NumGoroutine" := ⟨by kernel_rfl, of_decide_eq_true (by kernel_rfl)⟩
theorem callee7 (args : List AV) : callee (AProg.of Tryz.prog) (.func (.func 7) [] []) args = some (7, args) := by unfold callee; simp only [fn7, body7, true_and, not_false_eq_true, and_true, ne_eq, if_true, List.nil_append, List.append_nil]
theorem callee24 (args : List AV) : callee (AProg.of Tryz.prog) (.func (.func 24) [] []) args = some (24, args) := by unfold callee; simp only [fn24, body24, true_and, not_false_eq_true, and_true, ne_eq, if_true, List.nil_append, List.append_nil]
theorem callee25 (args : List AV) : callee (AProg.of Tryz.prog) (.func (.func 25) [] []) args = some (25, args) := by unfold callee; simp only [fn25, body25, true_and, not_false_eq_true, and_true, ne_eq, if_true, List.nil_append, List.append_nil]
theorem callee26 (args : List AV) : callee (AProg.of Tryz.prog) (.func (.func 26) [] []) args = some (26, args) := by unfold callee; simp only [fn26, body26, true_and, not_false_eq_true, and_true, ne_eq, if_true, List.nil_append, List.append_nil]
theorem callee29 (args : List AV) : callee (AProg.of Tryz.prog) (.func (.func 29) [] []) args = some (29, args) := by unfold callee; simp only [fn29, body29, true_and, not_false_eq_true, and_true, ne_eq, if_true, List.nil_append, List.append_nil]
theorem callee42 (args : List AV) : callee (AProg.of Tryz.prog) (.func (.func 42) [] []) args = some (42, args) := by unfold callee; simp only [fn42, body42, true_and, not_false_eq_true, and_true, ne_eq, if_true, List.nil_append, List.append_nil]
theorem callee43 (args : List AV) : callee (AProg.of Tryz.prog) (.func (.func 43) [] []) args = some (43, args) := by unfold callee; simp only [fn43, body43, true_and, not_false_eq_true, and_true, ne_eq, if_true, List.nil_append, List.append_nil]
theorem callee71 (args : List AV) : callee (AProg.of Tryz.prog) (.func (.func 71) [] []) args = some (71, args) := by unfold callee; simp only [fn71, body71, true_and, not_false_eq_true, and_true, ne_eq, if_true, List.nil_append, List.append_nil]
theorem callee72 (args : List AV) : callee (AProg.of Tryz.prog) (.func (.func 72) [] []) args = some (72, args) := by unfold callee; simp only [fn72, body72, true_and, not_false_eq_true, and_true, ne_eq, if_true, List.nil_append, List.append_nil]
end Go.AM
