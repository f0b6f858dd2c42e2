/- Regions that draw their order: a place that is done early. -/
import Derived.Test.YtppdanlhccpajaaGreatDoorAmDraw5
set_option linter.unusedSimpArgs false
set_option linter.unusedVariables false
set_option linter.unusedSectionVars false
namespace Go.AM

def withE (E : Nat → Bool) (i : Nat) : Nat → Bool := fun j => E j || Nat.beq j i

theorem withE_self {E : Nat → Bool} {i : Nat} : withE E i i = true := by simp [withE]
theorem withE_ne {E : Nat → Bool} {i j : Nat} (h : j ≠ i) : withE E i j = E j := by
  have : Nat.beq j i = false := by rw [beqF]; exact h
  simp [withE, this]
theorem withE_true {E : Nat → Bool} {i j : Nat} (h : withE E i j = true) : E j = true ∨ j = i := by
  by_cases e : j = i
  · exact .inr e
  · rw [withE_ne e] at h; exact .inl h

theorem early_with_none {base : Nat} {E : Nat → Bool} {obj : Nat → Option AObj} {i : Nat} (h : obj i = none) : early base (withE E i) obj = early base E obj := by
  funext id
  unfold early
  by_cases hb : base ≤ id
  · by_cases hi : id - base = i
    · rw [hi, h]; simp
    · rw [withE_ne hi]
  · simp [hb]

theorem beside_with {base : Nat} {E : Nat → Bool} {obj : Nat → Option AObj} {i : Nat} {s : AS} {ob : AObj} (hob : obj i = some ob) (hn : s.get (base + i) = none) :
    beside (s.put (base + i) ob).get (early base E obj) = beside s.get (early base (withE E i) obj) := by
  funext id
  unfold beside
  rw [AS.get_put]
  by_cases hid : id = base + i
  · subst hid
    rw [if_pos rfl, hn]
    simp [early, withE_self, hob]
  · rw [if_neg hid]
    cases s.get id with
    | some o => rfl
    | none =>
      simp only
      unfold early
      by_cases hb : base ≤ id
      · have : id - base ≠ i := by omega
        rw [withE_ne this]
      · simp [hb]

theorem Act.put_defers' (c : Act) (d : Option Tmp) (x : Value) : (c.put d x).defers = c.defers := by cases d <;> rfl

theorem TR.put {ρ : Emb} {I : Fix} {t : ATmps} {c : Act} (h : TR ρ I t c.tmps) (d : Option Tmp) {v : AV} {x : Value} (hv : VR ρ I v x) : TR ρ I (match d with | some d => t.set d v | none => t) (c.put d x).tmps := by
  cases d with
  | none => exact h
  | some d => exact h.set d hv

/-- A place is done early: the way stands beside all that is there. -/
theorem Sit.early {p : Program} {b : Nat} {ρ0 ρ ρ' : Emb} {I0 I I' : Fix} {s0 s : AS} {w0 w w' : World} {ops : List Oper} {base : Nat} {val : Nat → AV} {obj : Nat → Option AObj} {i : Nat} {L : List Nat} {aC : AAct} {E : Nat → Bool} {c : Act} {x : Value}
    (h : Sit p b ρ0 I0 s0 w0 ops base val obj L aC s E ρ I c w) (fr0 : ∀ id, base ≤ id → ρ0 id = none) (hL : ∀ j, j ∈ L → j < ops.length) (hi : i ∈ L) (hE : E i = false) {o : Oper} (ho : ops[i]? = some o) (hact : acts o.op = false)
    (hdst : ∀ j d, E j = true → o.dst = some d → dstOf ops j ≠ some d)
    (hm : Moved ρ I (beside s.get (Go.AM.early base E obj)) w (base + i) (base + i + 1) ρ' I' (beside s.get (Go.AM.early base (withE E i) obj)) w') (hv : VR ρ' I' (val i) x) :
    Sit p b ρ0 I0 s0 w0 ops base val obj L aC s (withE E i) ρ' I' (c.put o.dst x) w' := by
  have hlt : i < ops.length := hL i hi
  have hroom := h.room
  have hnew : ∀ id, id ≠ base + i → ρ id = none → ρ' id = none := fun id hid hn => by
    cases e : ρ' id with
    | none => rfl
    | some k => have := hm.new id (by rw [e]; simp) hn; omega
  refine ⟨fun j hj => ?_, fun j o' hj ho' => ?_, ?_, by rw [Act.put_defers']; exact h.dr.mono hm.ext hm.fix, hm.sr, fun j hj hf => ?_, h.gap, ⟨fun id hid => hnew id (by omega) (h.fresh.1 id hid), h.fresh.2⟩, h.room, ?_, h.stay, Nat.le_trans h.lb hm.size⟩
  · rcases withE_true hj with e | rfl
    · exact h.sub j e
    · exact hi
  · rcases withE_true hj with e | rfl
    · exact h.still j o' e ho'
    · rw [ho] at ho'; cases ho'; exact hact
  · obtain ⟨t, tr, tm⟩ := h.tmps
    have hn : (match o.dst with | some d => t.set d (val i) | none => t).n = t.n := by cases o.dst <;> simp [ATmps.n_set]
    have hgetD : ∀ d, (match o.dst with | some d => t.set d (val i) | none => t).get d = if o.dst = some d ∧ d < t.n then val i else t.get d := fun d => by
      cases hd0 : o.dst with
      | none => simp
      | some d0 =>
        simp only [ATmps.get_set, Option.some.injEq]
        by_cases e : d = d0
        · subst e; simp
        · have : ¬ d0 = d := fun h => e h.symm
          simp [e, this]
    refine ⟨_, TR.put (tr.mono hm.ext hm.fixLe) o.dst hv, hn.trans tm.n, fun d hd => ?_, fun d j hd hj hdj => ?_, fun d hno => ?_⟩
    · rw [hn] at hd
      rw [hgetD, if_neg (fun hc : o.dst = some d ∧ d < t.n => absurd hc.2 (Nat.not_lt.2 hd))]; exact tm.far d hd
    · rw [hn] at hd
      rw [hgetD]
      rcases withE_true hj with e | rfl
      · rw [if_neg fun h => hdst j d e h.1 hdj]; exact tm.done d j hd e hdj
      · have : o.dst = some d := by simpa [dstOf, ho] using hdj
        rw [if_pos ⟨this, hd⟩]
    · have h1 : ¬ o.dst = some d := by
        have := hno i withE_self
        simpa [dstOf, ho] using this
      rw [hgetD, if_neg fun h => h1 h.1]
      exact tm.else_ d fun j hj => hno j (by rw [withE_ne (fun e => by subst e; rw [hE] at hj; cases hj)]; exact hj)
  · have hji : j ≠ i := fun e => by subst e; rw [withE_self] at hf; cases hf
    rw [withE_ne hji] at hf
    exact hnew _ (by omega) (h.off j hj hf)
  · refine Moved.join (mid := s.next) (by omega) (by omega) (Nat.le_refl _) fr0 (fun id hid hn => ?_) h.moved hm
    rw [beside_right (h.stay id hid hn)]
    unfold Go.AM.early
    rw [if_neg]
    rintro ⟨h1, h2⟩
    have := hL _ (h.sub _ h2)
    omega

end Go.AM
