/- The soundness of the abstract machine, put together; a function that is known to come to a truth, without leaving anything behind. -/
import Derived.Test.YtppdanlhccpajaaGreatDoorAmDraw9
import Derived.Test.YtppdanlhccpajaaGreatDoorAmRange
import Derived.Test.YtppdanlhccpajaaGreatDoorAmFast3
set_option linter.unusedSimpArgs false
set_option linter.unusedVariables false
set_option linter.unusedSectionVars false
namespace Go.AM

variable {p : Program}

/-- What is asked of the program's text. -/
structure TextOk (p : Program) : Prop where
  mixed : p.follows .mixedOrders = true
  code : ∀ (f : FuncId) (fn : Func) (c : Code), p.funcs[f]? = some fn → fn.body = some c → codeOk c = true

theorem TextOk.calls (h : TextOk p) (fuel n : Nat) : CallsOk p (evCall (AProg.of p) fuel n) := evCall_sound (drawSound h.mixed) rangeSound h.code fuel n
theorem TextOk.call1 (h : TextOk p) (fuel : Nat) {call : CallY} (hc : CallsOk p call) : CallsOk p (evCall1 (AProg.of p) fuel call) := evCall1_sound (drawSound h.mixed) rangeSound h.code fuel hc

/-- A function without arguments that comes to a truth, whatever there is: beside all that is there. -/
def Truth (p : Program) (f : FuncId) (b : Bool) : Prop := ∀ (ρ : Emb) (I : Fix) (s : AS) (w : World), SR ρ I s.get w → Calls p f #[] w (Owed p ρ I s s w (.bool b))

theorem Truth.of {fuel n : Nat} {f : FuncId} {b : Bool} {s' : AS} (hs : CallsOk p (evCall (AProg.of p) fuel n)) (h : evCall (AProg.of p) fuel n NoY f [] ⟨.leaf, 0⟩ = some (.bool b, s')) : Truth p f b := by
  intro ρ I s w sr
  have sr0 : SR (fun _ => none) I (AS.get ⟨.leaf, 0⟩) w := ⟨sr.fix, fun _ _ _ h _ => (by cases h), fun _ _ _ _ _ h _ _ _ => (by cases h), fun _ _ h _ => (by cases h)⟩
  have := hs (fun _ _ => True) NoY keeps_true yieldOk_none f [] ⟨.leaf, 0⟩ _ _ h (fun _ => none) I w #[] sr0 ⟨fun _ _ => rfl, fun _ _ => rfl⟩ trivial VRL.nil
  refine this.mono ?_
  rintro e w' ⟨x, ρ', I', rfl, m, hv⟩
  have hx : x = .bool b := by cases hv; rfl
  subst hx
  have hold : ∀ k, k < w.heap.size → w'.heap[k]? = w.heap[k]? := fun k hk => m.moved.frame k hk fun _ _ h _ => by cases h
  refine ⟨.bool b, ρ, I, rfl, ⟨Grows.refl _, ⟨⟨fun k o hk => ?_, fun id k o hr ho => ?_, sr.apart, sr.free⟩, Ext.refl _, fun _ h k => absurd k h, fun _ _ h => h, fun _ h k => absurd k h, fun _ _ h k => (by rw [h] at k; cases k), fun k hk _ => hold k hk, m.moved.size, m.moved.os, m.moved.tape, m.moved.output⟩⟩, .bool b⟩
  · have := sr.fix k o hk
    rw [hold k (Array.getElem?_eq_some_iff.1 this).1]; exact this
  · have := sr.obj id k o hr ho
    exact this.mono (Ext.refl _) (FixLe.refl _) (hold _ this.lt)

/-- The machine with one function's truth put in. -/
noncomputable def evL (P : AProg) (L : FuncId) (b : Bool) (fuel : Nat) : Nat → CallY
  | 0 => fun _ _ _ _ => none
  | n + 1 => fun yh f args s => if f = L ∧ args = [] then some (.bool b, s) else evCall1 P fuel (evL P L b fuel n) yh f args s

theorem evL_sound (h : TextOk p) {L : FuncId} {b : Bool} (hL : Truth p L b) (fuel : Nat) : ∀ n, CallsOk p (evL (AProg.of p) L b fuel n)
  | 0 => fun _ _ _ _ f args s v s' h => by simp [evL] at h
  | n + 1 => fun Z yh hZ hy f args s v s' he => by
    simp only [evL] at he
    split at he
    · rename_i hc
      obtain ⟨rfl, rfl⟩ := hc
      simp only [Option.some.injEq, Prod.mk.injEq] at he
      obtain ⟨rfl, rfl⟩ := he
      intro ρ I w vs sr fr hz hl
      have : vs = #[] := by
        have := hl.inv_nil
        exact Array.toList_inj.1 (by simpa using this)
      subst this
      exact hL ρ I s w sr
    · exact h.call1 fuel (evL_sound h hL fuel n) Z yh hZ hy f args s v s' he

/-- What is there is held fast: the world as it is, and nothing embedded. -/
def pins (w : World) : Fix := fun k => w.heap[k]?
theorem SR.pins (w : World) (s : AS) : SR (fun _ => none) (pins w) s.get w := ⟨fun _ _ h => h, fun _ _ _ h _ => (by cases h), fun _ _ _ _ _ h _ _ _ => (by cases h), fun _ _ h _ => (by cases h)⟩

/-- A law's call, out of the machine's run. -/
theorem law_calls (h : TextOk p) {L : FuncId} {bl : Bool} (hL : Truth p L bl) {fuel n : Nat} {f : FuncId} {args : List AV} {b : Bool} {s' : AS}
    (he : evL (AProg.of p) L bl fuel n NoY f args ⟨.leaf, 0⟩ = some (.bool b, s')) {w : World} {vs : Array Value} (hv : VRL (fun _ => none) (pins w) args vs.toList) :
    Calls p f vs w fun e w' => e = .returned (.bool b) ∧ w'.os = w.os ∧ w'.tape = w.tape ∧ w'.output = w.output ∧ w.heap.size ≤ w'.heap.size ∧ ∀ k, k < w.heap.size → w'.heap[k]? = w.heap[k]? := by
  have := evL_sound h hL fuel n (fun _ _ => True) NoY keeps_true yieldOk_none f args ⟨.leaf, 0⟩ _ _ he (fun _ => none) (pins w) w vs (SR.pins w _) ⟨fun _ _ => rfl, fun _ _ => rfl⟩ trivial hv
  refine this.mono ?_
  rintro e w' ⟨x, ρ', I', rfl, m, hv⟩
  have hx : x = .bool b := by cases hv; rfl
  subst hx
  exact ⟨rfl, m.moved.os, m.moved.tape, m.moved.output, m.moved.size, fun k hk => m.moved.frame k hk fun _ _ h _ => by cases h⟩

end Go.AM
