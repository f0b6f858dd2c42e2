/- Ways one after the other whose numbers are not in a row; equality of values as the abstract machine asks for it. -/
import Derived.Test.YtppdanlhccpajaaGreatDoorAmDraw2
set_option linter.unusedSimpArgs false
set_option linter.unusedVariables false
set_option linter.unusedSectionVars false
namespace Go.AM

variable {ρ : Emb} {I : Fix}

theorem Moved.join {ρ1 ρ2 : Emb} {I1 I2 : Fix} {H H1 H2 : Nat → Option AObj} {w w1 w2 : World} {lo mid hi lo2 hi2 : Nat} (h1 : lo ≤ lo2) (h2 : hi2 ≤ hi) (h3 : mid ≤ hi)
    (free : ∀ id, lo ≤ id → ρ id = none) (stay : Stay lo mid H H1)
    (a : Moved ρ I H w lo mid ρ1 I1 H1 w1) (b : Moved ρ1 I1 H1 w1 lo2 hi2 ρ2 I2 H2 w2) : Moved ρ I H w lo hi ρ2 I2 H2 w2 := by
  have live : ∀ id h, ρ1 id = some h → H1 id ≠ none → w.heap.size ≤ h.block ∨ ∃ j k, ρ j = some k ∧ H j ≠ none ∧ k.block = h.block := by
    intro id h hr hl
    cases hρ : ρ id with
    | none => exact a.home id h hr hρ
    | some k =>
      have := a.ext id k hρ
      rw [hr] at this; cases this
      refine .inr ⟨id, h, hρ, fun hn => hl (stay id (.inl ?_) hn), rfl⟩
      rcases Nat.lt_or_ge id lo with h | h
      · exact h
      · rw [free id h] at hρ; cases hρ
  refine ⟨b.sr, a.ext.trans b.ext, ?_, fun b' o h => b.fix b' o (a.fix b' o h), ?_, ?_, ?_, Nat.le_trans a.size b.size, b.os.trans a.os, b.tape.trans a.tape, b.output.trans a.output⟩
  · intro id h2 h0
    cases h1 : ρ1 id with
    | none => have := b.new id h2 h1; omega
    | some k => have := a.new id (by rw [h1]; simp) h0; omega
  · intro b' h2 h0
    cases h1 : I1 b' with
    | none => exact Nat.le_trans a.size (b.newfix b' h2 h1)
    | some o => exact a.newfix b' (by rw [h1]; simp) h0
  · intro id h h2 h0
    cases h1 : ρ1 id with
    | none =>
      rcases b.home id h h2 h1 with hb | ⟨j, k, hj, hl, he⟩
      · exact .inl (Nat.le_trans a.size hb)
      · rw [← he]; exact live j k hj hl
    | some k =>
      have := b.ext id k h1
      rw [h2] at this; cases this
      exact a.home id h h1 h0
  · intro b' hb hf
    rw [b.frame b' (Nat.lt_of_lt_of_le hb a.size) ?_, a.frame b' hb hf]
    intro id h hr hl he
    rcases live id h hr hl with h1 | ⟨j, k, hj, hjl, hk⟩
    · omega
    · exact hf j k hj hjl (hk.trans he)

/-- A heap that says less, and the same of what is embedded. -/
theorem SR.sub {H H' : Nat → Option AObj} {w : World} (h : SR ρ I H w) (hl : ∀ id o, ρ id ≠ none → H' id = some o → H id = some o) : SR ρ I H' w where
  fix := h.fix
  obj := fun id k o hr ho => h.obj id k o hr (hl id o (by rw [hr]; simp) ho)
  apart := fun i j a b hij hi hj h1 h2 => h.apart i j a b hij hi hj
    (by cases e : H' i with | none => exact absurd e h1 | some o => rw [hl i o (by rw [hi]; simp) e]; simp)
    (by cases e : H' j with | none => exact absurd e h2 | some o => rw [hl j o (by rw [hj]; simp) e]; simp)
  free := fun id k hr h1 => h.free id k hr (by cases e : H' id with | none => exact absurd e h1 | some o => rw [hl id o (by rw [hr]; simp) e]; simp)

theorem sameAll_eq {f : AV → AV → Bool} (hf : ∀ x y, f x y = true → x = y) : ∀ (xs ys : List AV), sameAll f xs ys = true → xs = ys
  | [], [], _ => rfl
  | [], _ :: _, h => by simp [sameAll] at h
  | _ :: _, [], h => by simp [sameAll] at h
  | x :: xs, y :: ys, h => by
    simp only [sameAll, Bool.and_eq_true] at h
    rw [hf x y h.1, sameAll_eq hf xs ys h.2]

theorem same_eq : ∀ (d : Nat) (x y : AV), same d x y = true → x = y
  | 0, _, _, h => by simp [same] at h
  | d + 1, x, y, h => by
    have ih := same_eq d
    unfold same at h
    split at h
    all_goals try simp only [Bool.and_eq_true, decide_eq_true_eq, beq_iff_eq, Nat.beq_eq_true_eq] at h
    · rw [h.1, h.2]
    · rw [h]
    · rw [h]
    · rw [h]
    · rw [ih _ _ h.1, Nat.eq_of_beq_eq_true h.2]
    · rw [h.1.1, Nat.eq_of_beq_eq_true h.1.2, h.2]
    · rw [Nat.eq_of_beq_eq_true h.1, sameAll_eq ih _ _ h.2]
    · rw [h]
    · rw [h.1.1, sameAll_eq ih _ _ h.1.2, sameAll_eq ih _ _ h.2]
    · rfl
    · rw [Nat.eq_of_beq_eq_true (n := _) h.1, ih _ _ h.2]
    · rfl
    · rw [sameAll_eq ih _ _ h]
    · rw [sameAll_eq ih _ _ h]
    · cases h

theorem alike_eq {x y : AV} (h : alike x y = true) : x = y := by
  unfold alike at h
  rw [Bool.or_eq_true] at h
  rcases h with h | h
  · exact same_eq _ _ _ h
  · exact @of_decide_eq_true _ (Classical.propDecidable _) h
theorem alike_refl (x : AV) : alike x x = true := by
  unfold alike
  rw [Bool.or_eq_true]
  exact .inr (@decide_eq_true _ (Classical.propDecidable _) rfl)

end Go.AM
