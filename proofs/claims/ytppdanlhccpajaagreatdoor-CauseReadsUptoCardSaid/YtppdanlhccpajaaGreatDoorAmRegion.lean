/- Regions in the order of their text; the shapes of code without calls of their own. -/
import Derived.Test.YtppdanlhccpajaaGreatDoorAmAct
import Derived.LoopNIn
set_option linter.unusedSimpArgs false
set_option linter.unusedVariables false
set_option linter.unusedSectionVars false
namespace Go.AM

variable {p : Program} {ρ : Emb} {I : Fix}

def AExit.exit' : AExit → Exit
  | .normal => .normal
  | .exit id => .exit id
  | .ret => .ret

/-- What a piece of code owes. -/
def CodeStep (p : Program) (Z : Emb → Fix → Prop) (a : AAct) (s : AS) (ae : AExit) (a' : AAct) (s' : AS) (wp : (Exit → Act → World → Prop) → Act → World → Prop) : Prop :=
  ∀ (b : Nat) (ρ : Emb) (I : Fix) (c : Act) (w : World), AR p b ρ I a c → b ≤ w.heap.size → SR ρ I s.get w → Fresh ρ s → Z ρ I → ∀ (Q : Exit → Act → World → Prop),
      (∀ ρ' I' c' w', Went ρ I s w s' ρ' I' w' → AR p b ρ' I' a' c' → Q ae.exit' c' w') → wp Q c w

theorem CodeStep.refl {Z : Emb → Fix → Prop} {a : AAct} {s : AS} {ae : AExit} {wp : (Exit → Act → World → Prop) → Act → World → Prop} (h : ∀ Q c w, Q ae.exit' c w → wp Q c w) : CodeStep p Z a s ae a s wp :=
  fun b ρ I c w ar _ sr _ _ _ hq => h _ _ _ (hq ρ I c w (Went.refl sr) ar)

theorem CodeStep.seq {Z : Emb → Fix → Prop} (hZ : Keeps Z) {a a1 a2 : AAct} {s s1 s2 : AS} {ae : AExit} {wp1 wp2 wp : (Exit → Act → World → Prop) → Act → World → Prop}
    (h1 : CodeStep p Z a s .normal a1 s1 wp1) (h2 : CodeStep p Z a1 s1 ae a2 s2 wp2) (h : ∀ Q c w, wp1 (Exit.then (wp2 Q) Q) c w → wp Q c w) : CodeStep p Z a s ae a2 s2 wp :=
  fun b ρ I c w ar hb sr fr hz Q hq => h _ _ _ (h1 b ρ I c w ar hb sr fr hz _ fun ρ1 I1 c1 w1 m1 ar1 =>
    h2 b ρ1 I1 c1 w1 ar1 (m1.lb hb) m1.sr (m1.fresh fr) (m1.z hZ hz) Q fun ρ2 I2 c2 w2 m2 ar2 => hq ρ2 I2 c2 w2 (Went.trans fr m1 m2) ar2)

theorem evOps_sound {Z : Emb → Fix → Prop} (hZ : Keeps Z) {call : CallF} {yh : YieldF} (hc : CallOk p (fun _ _ => True) call) (hy : YieldOk p Z yh) {ops : Array Oper} {ro : Option Nat} {n : Nat}
    (hro : ro = none ∨ ∀ o ∈ ops.toList, noDeferOp o = true) : ∀ (rest : List Oper) (k : Nat) (a a' : AAct) (s s' : AS), ops.toList.drop k = rest → evOps (AProg.of p) call yh ops.toList rest a s = some (a', s') →
      CodeStep p Z a s .normal a' s' (fun Q c w => wpOpsIn (fen ro) n p ops Q (List.range' k rest.length) c w)
  | [], k, a, a', s, s', _, h => by
    simp only [evOps, Option.some.injEq, Prod.mk.injEq] at h
    obtain ⟨rfl, rfl⟩ := h
    exact CodeStep.refl fun Q c w h => h
  | o :: rest, k, a, a', s, s', hd, h => by
    have hk : ops[k]? = some o := by
      have : (ops.toList.drop k)[0]? = some o := by rw [hd]; rfl
      simpa using this
    have hd' : ops.toList.drop (k + 1) = rest := by
      rw [← List.drop_drop, hd]; rfl
    have hmem : o ∈ ops.toList := by
      have : o ∈ ops.toList.drop k := by rw [hd]; simp
      exact List.mem_of_mem_drop this
    simp only [evOps] at h
    intro b ρ I c w ar hb sr fr hz Q hq
    simp only [List.length_cons, List.range'_succ, wpOpsIn, hk]
    rw [awanted_eq ar.tr o]
    split at h
    · rename_i hw
      rw [if_pos hw]
      cases e : step1 (AProg.of p) call yh a s o with
      | none => rw [e] at h; cases h
      | some r =>
        obtain ⟨a1, s1⟩ := r
        rw [e] at h
        simp only at h
        refine step1_sound (n := n) e hc hy (hro.imp id fun h => h o hmem) b ρ I c w ar sr fr hz _ Q fun ρ1 I1 c1 w1 m1 ar1 => ?_
        exact evOps_sound hZ hc hy hro rest (k + 1) a1 a' s1 s' hd' h b ρ1 I1 c1 w1 ar1 (m1.lb hb) m1.sr (m1.fresh fr) (m1.z hZ hz) Q fun ρ2 I2 c2 w2 m2 ar2 => hq ρ2 I2 c2 w2 (Went.trans fr m1 m2) ar2
    · rename_i hw
      rw [if_neg hw]
      refine ⟨fun _ _ => trivial, ?_⟩
      exact evOps_sound hZ hc hy hro rest (k + 1) _ a' s s' hd' h b ρ I _ w (ar.put _ VR.undef) hb sr fr hz Q hq

end Go.AM
