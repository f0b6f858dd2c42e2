/- Regions that draw their order: what the canonical run says, every order does. -/
import Derived.Test.YtppdanlhccpajaaGreatDoorAmDraw7
set_option linter.unusedSimpArgs false
set_option linter.unusedVariables false
set_option linter.unusedSectionVars false
namespace Go.AM

variable {p : Program}

theorem evOp_reads {P : AProg} {t : ATmps} {s s2 : AS} {o : Oper} {v : AV} (hr : reads o.op = true) (h : evOp P t s o = some (.val v s2)) : s2 = s := by
  cases ho : o.op with
  | load ty x =>
    simp only [evOp, ho, Option.bind_eq_bind, Option.bind_eq_some_iff, Option.map_eq_some_iff] at h
    obtain ⟨_, _, _, _, h⟩ := h
    cases h; rfl
  | lookup ty x i ok =>
    simp only [evOp, ho, Option.bind_eq_bind, Option.bind_eq_some_iff, Option.map_eq_some_iff] at h
    obtain ⟨_, _, _, _, _, _, h⟩ := h
    cases h; rfl
  | binOp op xt x y yt =>
    simp only [evOp, ho, Option.bind_eq_bind, Option.bind_eq_some_iff] at h
    obtain ⟨_, _, _, _, h⟩ := h
    split at h
    · split at h
      · simp only [Option.map_eq_some_iff] at h; obtain ⟨_, _, h⟩ := h; cases h; rfl
      · simp only [Option.map_eq_some_iff] at h; obtain ⟨_, _, h⟩ := h; cases h; rfl
      · cases h
    · simp only [Option.map_eq_some_iff] at h; obtain ⟨_, _, h⟩ := h; cases h; rfl
  | call c =>
    rw [ho] at hr
    obtain ⟨cal, args, ats⟩ := c
    cases cal with
    | value f => simp [reads] at hr
    | invoke r n => simp [reads] at hr
    | builtin b =>
      cases b <;> first
        | (simp [reads] at hr; done)
        | (simp only [evOp, ho, Option.bind_eq_bind, Option.bind_eq_some_iff] at h
           obtain ⟨_, _, h⟩ := h
           split at h
           · simp only [Option.map_eq_some_iff] at h; obtain ⟨_, _, h⟩ := h; cases h; rfl
           · cases h)
  | _ => rw [ho] at hr; simp [reads] at hr

theorem aeval_congr {t t' : ATmps} {x : Operand} (h : ∀ d, x = .tmp d → t.get d = t'.get d) : aeval t x = aeval t' x := by
  cases x with
  | tmp d => simp only [aeval, h d rfl]
  | _ => rfl

theorem awanted_congr {ops : List Oper} {t t' : ATmps} {o : Oper} (h : ∀ d, d ∈ namesOf ops o → t.get d = t'.get d) : awanted ops t o = awanted ops t' o := by
  unfold awanted
  cases hg : o.guard with
  | none => rfl
  | some jw =>
    obtain ⟨j, want⟩ := jw
    simp only
    have : ayielded ops t j = ayielded ops t' j := by
      unfold ayielded
      cases hd : (ops[j]?).bind (·.dst) with
      | none => rfl
      | some d =>
        simp only
        rw [h d (by simp [namesOf, hg, hd])]
    rw [this]

theorem names_operands {ops : List Oper} {o : Oper} {d : Tmp} (h : Operand.tmp d ∈ o.op.operands) : d ∈ namesOf ops o := by
  have : d ∈ o.op.operands.toList.filterMap (fun | .tmp t => some t | _ => none) := List.mem_filterMap.2 ⟨.tmp d, by simpa using h, rfl⟩
  simp only [namesOf, List.mem_append]
  exact .inl (.inr this)

theorem unturned_at {P : AProg} {t : ATmps} {o : Oper} {need : Nat} {v : AV} : ∀ (sn : Snaps), unturned P t o need v sn = true → ∀ k s, (k, s) ∈ sn → need.testBit k = false → readAgain P t s o = some v
  | [], _, _, _, h, _ => absurd h List.not_mem_nil
  | (j, s0) :: rest, h, k, s, hm, hb => by
    simp only [unturned, Bool.and_eq_true, Bool.or_eq_true] at h
    rcases List.mem_cons.1 hm with e | hm'
    · cases e
      rcases h.1 with h1 | h1
      · rw [hb] at h1; cases h1
      · split at h1
        · rename_i u hu
          rw [hu, alike_eq h1]
        · cases h1
    · exact unturned_at rest h.2 k s hm' hb

structure Inv (p : Program) (Z : Emb → Fix → Prop) (call : CallF) (yh : YieldF) (b : Nat) (ρ0 : Emb) (I0 : Fix) (s0 : AS) (w0 : World) (ops : Array Oper) (base : Nat) (val : Nat → AV) (obj : Nat → Option AObj) (aF : AAct) (sF : AS)
    (listed : Array Bool) (L : List Nat) (sn : Snaps) (aC : AAct) (s : AS) (E : Nat → Bool) (done : List Nat) (ρ : Emb) (I : Fix) (c : Act) (w : World) : Prop where
  sit : Sit p b ρ0 I0 s0 w0 ops.toList base val obj L aC s E ρ I c w
  tr : Tr (AProg.of p) call yh ops.toList (Region.before ops).toList base val obj L sn aC s aF sF
  ok : canonOk ops.toList (Region.before ops).toList done L = true
  nd : L.Nodup
  lt : ∀ j, j ∈ L → j < ops.toList.length
  don : ∀ j ∈ done, j < ops.toList.length ∧ j ∉ L
  lst : ∀ j, j < ops.toList.length → (listed.getD j false = true ↔ (j ∉ L ∨ E j = true))
  closed : ∀ j o, listed.getD j false = true → ops.toList[j]? = some o → ∀ e ∈ o.after.toList, Region.binds .any e = true → listed.getD e.on false = true
  size : listed.size = ops.size
  z : Z ρ I

variable {Z : Emb → Fix → Prop} {call : CallF} {yh : YieldF} {b : Nat} {ρ0 ρ : Emb} {I0 I : Fix} {s0 s : AS} {w0 w : World} {ops : Array Oper} {base : Nat} {val : Nat → AV} {obj : Nat → Option AObj} {aF aC : AAct} {sF : AS} {listed : Array Bool}
  {L : List Nat} {sn : Snaps} {E : Nat → Bool} {done : List Nat} {c : Act}

/-- An early place at the head goes. -/
theorem Inv.pop {i : Nat} {rest : List Nat} (h : Inv p Z call yh b ρ0 I0 s0 w0 ops base val obj aF sF listed (i :: rest) sn aC s E done ρ I c w) (hE : E i = true) :
    ∃ sn' aC' s', Inv p Z call yh b ρ0 I0 s0 w0 ops base val obj aF sF listed rest sn' aC' s' (without E i) (i :: done) ρ I c w := by
  obtain ⟨hi, nd⟩ := List.nodup_cons.1 h.nd
  have hlt := h.lt i (by simp)
  have fin : ∀ sn' aC' s', Sit p b ρ0 I0 s0 w0 ops.toList base val obj rest aC' s' (without E i) ρ I c w → Tr (AProg.of p) call yh ops.toList (Region.before ops).toList base val obj rest sn' aC' s' aF sF →
      Inv p Z call yh b ρ0 I0 s0 w0 ops base val obj aF sF listed rest sn' aC' s' (without E i) (i :: done) ρ I c w := fun sn' aC' s' hs ht =>
    ⟨hs, ht, (canonOk_cons h.ok).2, nd, fun j hj => h.lt j (by simp [hj]), fun j hj => by
      rcases List.mem_cons.1 hj with rfl | hj
      · exact ⟨hlt, hi⟩
      · exact ⟨(h.don j hj).1, fun hm => (h.don j hj).2 (by simp [hm])⟩, fun j hj => by
      rw [h.lst j hj]
      by_cases e : j = i
      · subst e; simp [hE, hi]
      · rw [without_ne e]; simp [e], h.closed, h.size, h.z⟩
  cases h.tr with
  | skip _ o _ _ _ _ _ _ ho hw hv hob ht => exact ⟨_, _, _, fin _ _ _ (by rw [← hv]; exact h.sit.pop hE hi ho (.inl ⟨rfl, hob⟩) hlt) ht⟩
  | act _ o _ _ _ a' _ s' _ _ ho hw ha hs ht => have := h.sit.still i o hE ho; rw [ha] at this; cases this
  | read _ o _ _ _ _ s2 _ _ ho hw ha hr he hu hob ht => exact ⟨_, _, _, fin _ _ _ (h.sit.pop hE hi ho (.inl ⟨rfl, hob⟩) hlt) ht⟩
  | pure _ o _ _ _ _ _ _ ho hw ha he hob ht => exact ⟨_, _, _, fin _ _ _ (h.sit.pop hE hi ho (.inl ⟨rfl, hob⟩) hlt) ht⟩
  | make _ o _ _ _ _ _ _ ob ho hw ha he hob ht => exact ⟨_, _, _, fin _ _ _ (h.sit.pop hE hi ho (.inr ⟨ob, hob, rfl⟩) hlt) ht⟩

theorem Inv.norm : ∀ (L : List Nat) (sn : Snaps) (aC : AAct) (s : AS) (E : Nat → Bool) (done : List Nat), Inv p Z call yh b ρ0 I0 s0 w0 ops base val obj aF sF listed L sn aC s E done ρ I c w →
    ∃ L' sn' aC' s' E' done', Inv p Z call yh b ρ0 I0 s0 w0 ops base val obj aF sF listed L' sn' aC' s' E' done' ρ I c w ∧ ∀ i rest, L' = i :: rest → E' i = false
  | [], sn, aC, s, E, done, h => ⟨[], sn, aC, s, E, done, h, fun _ _ e => by cases e⟩
  | i :: rest, sn, aC, s, E, done, h => by
    cases hE : E i with
    | false => exact ⟨i :: rest, sn, aC, s, E, done, h, fun _ _ e => by cases e; exact hE⟩
    | true =>
      obtain ⟨sn', aC', s', h'⟩ := h.pop hE
      exact Inv.norm rest sn' aC' s' _ _ h'

theorem getD_listed {listed : Array Bool} {i j : Nat} (hi : i < listed.size) : (listed.setIfInBounds i true).getD j false = true ↔ (j = i ∨ listed.getD j false = true) := by
  simp only [Array.getD_eq_getD_getElem?, Array.getElem?_setIfInBounds]
  by_cases e : i = j
  · subst e; simp [hi]
  · have : ¬ j = i := fun h => e h.symm
    simp [e, this]

/-- What is listed once more. -/
theorem Inv.more {i : Nat} {o : Oper} {ρ' : Emb} {I' : Fix} {c' : Act} {w' : World} (h : Inv p Z call yh b ρ0 I0 s0 w0 ops base val obj aF sF listed L sn aC s E done ρ I c w) (hi : i ∈ L) (ho : ops.toList[i]? = some o)
    (hedge : ∀ e ∈ o.after.toList, Region.binds .any e = true → listed.getD e.on false = true)
    (hs : Sit p b ρ0 I0 s0 w0 ops.toList base val obj L aC s (withE E i) ρ' I' c' w') (hz : Z ρ' I') :
    Inv p Z call yh b ρ0 I0 s0 w0 ops base val obj aF sF (listed.setIfInBounds i true) L sn aC s (withE E i) done ρ' I' c' w' := by
  have hil : i < listed.size := by rw [h.size]; simpa using h.lt i hi
  refine ⟨hs, h.tr, h.ok, h.nd, h.lt, h.don, fun j hj => ?_, fun j o' hj ho' e he hb => ?_, by simpa using h.size, hz⟩
  · rw [getD_listed hil, h.lst j hj]
    by_cases e : j = i
    · subst e; simp [withE_self]
    · rw [withE_ne e]; simp [e]
  · rw [getD_listed hil] at hj ⊢
    rcases hj with rfl | hj
    · rw [ho] at ho'; cases ho'
      exact .inr (hedge e he hb)
    · exact .inr (h.closed j o' hj ho' e he hb)

end Go.AM
