/- CauseReads: whatever the expression (of bulk at most 1048576), the law returns true, and what came in reads as it did. Conditions: the card's own (the five listed package variables as the program's text lays them). -/
import Derived.Test.YtppdanlhccpajaaGreatDoorCards
import Derived.Test.YtppdanlhccpajaaGreatDoorTie
import Derived.Test.YtppdanlhccpajaaGreatDoorAmLawF
import Derived.Test.YtppdanlhccpajaaGreatDoorAmText1
import Derived.Test.YtppdanlhccpajaaGreatDoorAmText2
import Derived.WalkKit
import Derived.ProofKit
import Derived.OpenShut
import Derived.Below
import Derived.Carry
import Derived.Deep.DeepHandedRow
import Derived.Deep.DeepWitnessRowRef
import Derived.Lib.LaidTab
set_option linter.unusedSimpArgs false
set_option linter.unusedVariables false
set_option linter.unusedSectionVars false
namespace Go.Proofs.YtppdanlhccpajaaGreatDoor.causeReads
open Go.ChangeShapes Go.WideShapes Go.ChangeAt Go.RowKit

theorem own : ownKnob Tryz.prog.godebug = none := by kernel_rfl
theorem laidOut : laidOutB Tryz.prog = true := by kernel_rfl

theorem okWide_agg {P : Program} {W : World} {base : Nat} {t : TypeId} {v : Value} {fs : Array Field} (ht : P.underlying t = some (.struct fs)) (h : Value.okWide P W .any base t v) : ∃ cs, v = .agg cs := by
  simp only [Value.okWide, ht] at h
  obtain ⟨cs, rfl, _⟩ := h
  exact ⟨cs, rfl⟩

/-- The walk, by the abstract machine. -/
theorem walk {W : World} {v : Value} {e : AM.Ex} (hb : e.size ≤ 1048576) (hv : AM.VR AM.NoE (AM.pins W) e.av v) :
    Calls Tryz.prog 7 #[v] W fun x W' => x = .returned (.bool true) ∧ Below W.heap.size W W' := by
  obtain ⟨s', hl⟩ := AM.lives11
  have truth := AM.Truth.of (p := Tryz.prog) (AM.textOk.calls 100000 300) hl
  obtain ⟨n, s2, hrun⟩ := AM.law_true e hb
  refine (AM.law_calls AM.textOk truth hrun (w := W) (vs := #[v]) (AM.VRL.cons hv AM.VRL.nil)).mono ?_
  intro x W' h
  obtain ⟨h1, h2, h3, h4, h5, h6⟩ := h
  exact ⟨h1, h2, h3, h4, h5, fun k hk => h6 k hk⟩

set_option maxRecDepth 100000 in
theorem contract (H : Type) (enc : TypeId × Value → H) (W : World) (base : Nat) (args : Array Value) (ds gs : List (DataW H)) (before : List MemPlace)
    (hval : ∀ (j : Nat) t v, Tryz.f7.params[j]? = some t → args[j]? = some v → Value.okWide Tryz.prog W .any base t v)
    (hW : DataW.Whole enc Tryz.prog Tryz.f7.params.toList Rows.causeReadsSpec.vars false W args.toList ds gs before) (hk : Rows.uptoSmall H (ds ++ gs) = true) :
    Calls Tryz.prog 7 args W fun e W' => ∃ v, e = .returned v ∧ Rows.causeReadsSpec.post enc Tryz.prog Tryz.f7 false true false false W args v W' := by
  have hW' := hW
  obtain ⟨p, q, hA0, hV, rfl, hfz, hnd⟩ := hW
  have hA : DataW.TrodAll enc Tryz.prog W 0 (fun _ => true) true Tryz.f7.params.toList args.toList ds p := hA0
  rw [Tryz.params7] at hA hval
  obtain ⟨v0, vs0, d0, ds0, p0, q0, hargs, rfl, rfl, h0, r0⟩ := trodAll_cons hA
  obtain ⟨rfl, rfl, rfl⟩ := trodAll_nil r0
  obtain rfl : args = #[v0] := by cases args; simp_all
  obtain ⟨rfl, rfl⟩ := trodVars_none hV
  clear hA0
  simp only [List.append_nil] at hW' hk
  have k0 := h0
  have lt0 : ∀ x ∈ p0, x.block < W.heap.size := by obtain ⟨m, hm⟩ := k0; exact DataW.trod_lt m _ _ _ hm
  obtain ⟨fuel, hf⟩ := h0
  obtain ⟨e, hsz, hv⟩ := AM.read_ex fuel _ _ _ hf
  have hb : e.size ≤ 1048576 := by
    have := of_decide_eq_true hk
    simp only [Rows.uptoBulkAll] at this
    omega
  have hvr : AM.VR AM.NoE (AM.pins W) e.av v0 := by
    obtain ⟨cs, rfl⟩ := okWide_agg Tryz.underlying56 (hval 0 56 v0 rfl rfl)
    cases e
    exact AM.VR.agg_iff.2 ⟨cs, rfl, hv⟩
  refine (walk hb hvr).mono fun x W' ⟨he, bel⟩ => ?_
  subst he
  exact ⟨_, rfl, _, _, _, [], _, [], hW', trodAll_mk1 (shut_bool Tryz.underlying4 _), trodAll_cons_mk (Below.trod laidOut (by kernel_rfl) (of_decide_eq_true (by kernel_rfl)) k0 bel lt0) trodAll_mk0, rfl, bel.frame _, fun h => by cases h⟩

end Go.Proofs.YtppdanlhccpajaaGreatDoor.causeReads
