/- A way beside objects that it does not know. -/
import Derived.Test.YtppdanlhccpajaaGreatDoorAmDraw1
set_option linter.unusedSimpArgs false
set_option linter.unusedVariables false
set_option linter.unusedSectionVars false
namespace Go.AM

variable {ρ : Emb} {I : Fix}

/-- Two heaps beside each other. -/
def beside (H G : Nat → Option AObj) : Nat → Option AObj := fun id => match H id with | some o => some o | none => G id

theorem beside_left {H G : Nat → Option AObj} {id : Nat} (h : H id ≠ none) : beside H G id = H id := by
  unfold beside; cases e : H id with
  | none => exact absurd e h
  | some o => rfl
theorem beside_right {H G : Nat → Option AObj} {id : Nat} (h : H id = none) : beside H G id = G id := by unfold beside; rw [h]
theorem beside_some {H G : Nat → Option AObj} {id : Nat} {o : AObj} (h : beside H G id = some o) : H id = some o ∨ (H id = none ∧ G id = some o) := by
  unfold beside at h
  cases e : H id with
  | none => rw [e] at h; exact .inr ⟨rfl, h⟩
  | some o' => rw [e] at h; exact .inl h
theorem beside_ne {H G : Nat → Option AObj} {id : Nat} (h : beside H G id ≠ none) : H id ≠ none ∨ (H id = none ∧ G id ≠ none) := by
  cases e : H id with
  | none => rw [beside_right e] at h; exact .inr ⟨rfl, h⟩
  | some o => exact .inl (by simp)

/-- THE FRAME: what a way does, it does beside G too, if H has none of G's numbers, and the way makes none of them. -/
theorem Moved.beside {H H' G : Nat → Option AObj} {w w' : World} {lo hi : Nat} {ρ' : Emb} {I' : Fix} (sr : SR ρ I (beside H G) w)
    (hG : ∀ id, G id ≠ none → H id = none ∧ (id < lo ∨ hi ≤ id)) (free : ∀ id, lo ≤ id → id < hi → ρ id = none) (stay : Stay lo hi H H')
    (m : Moved ρ I H w lo hi ρ' I' H' w') : Moved ρ I (beside H G) w lo hi ρ' I' (beside H' G) w' := by
  -- what is G's
  have side : ∀ id, G id ≠ none → H id = none ∧ H' id = none ∧ ρ id = ρ' id := fun id hg => by
    obtain ⟨hh, ho⟩ := hG id hg
    refine ⟨hh, stay id ho hh, ?_⟩
    cases e : ρ id with
    | some k => exact (m.ext id k e).symm
    | none =>
      cases e2 : ρ' id with
      | none => rfl
      | some k => have := m.new id (by rw [e2]; simp) e; omega
  have live : ∀ id, H id ≠ none → Go.AM.beside H G id ≠ none := fun id h => by rw [beside_left h]; exact h
  have gobj : ∀ id k o, ρ id = some k → G id = some o → ObjAt ρ I w k o ∧ ∀ j q, ρ j = some q → H j ≠ none → q.block ≠ k.block := fun id k o hr ho => by
    have hg : G id ≠ none := by rw [ho]; simp
    have hh := (side id hg).1
    refine ⟨sr.obj id k o hr (by rw [beside_right hh]; exact ho), fun j q hj hl => ?_⟩
    have hji : j ≠ id := fun e => by subst e; exact hl hh
    exact sr.apart j id q k hji hj hr (live j hl) (by rw [beside_right hh]; exact hg)
  -- an object of the way's own stands in a block that is new, or in one of H's
  have own : ∀ id k, ρ' id = some k → H' id ≠ none → w.heap.size ≤ k.block ∨ ∃ j q, ρ j = some q ∧ H j ≠ none ∧ q.block = k.block := fun id k hr hl => by
    cases e : ρ id with
    | none => exact m.home id k hr e
    | some q =>
      have := m.ext id q e
      rw [hr] at this; cases this
      refine .inr ⟨id, k, e, fun hn => hl (stay id ?_ hn), rfl⟩
      rcases Nat.lt_or_ge id lo with h | h
      · exact .inl h
      · rcases Nat.lt_or_ge id hi with h2 | h2
        · rw [free id h h2] at e; cases e
        · exact .inr h2
  have part : ∀ i j h k, ρ' i = some h → ρ' j = some k → H' i ≠ none → (H' j = none ∧ G j ≠ none) → h.block ≠ k.block := fun i j h k hi hj h1 h2 => by
    have hq := (side j h2.2).2.2
    rw [hj] at hq
    cases ho : G j with
    | none => exact absurd ho h2.2
    | some o =>
      obtain ⟨oa, hap⟩ := gobj j k o hq ho
      rcases own i h hi h1 with hb | ⟨x, y, hx, hl, he⟩
      · have := oa.lt; omega
      · rw [← he]; exact hap x y hx hl
  refine ⟨⟨m.sr.fix, fun id k o hr ho => ?_, fun i j h k hij hi hj h1 h2 => ?_, fun id k hr hl => ?_⟩, m.ext, m.new, m.fix, m.newfix, fun id k h1 h2 => ?_, fun x hx hf => ?_, m.size, m.os, m.tape, m.output⟩
  · rcases beside_some ho with h | ⟨_, h⟩
    · exact m.sr.obj id k o hr h
    · have hq := (side id (by rw [h]; simp)).2.2
      rw [hr] at hq
      obtain ⟨oa, hap⟩ := gobj id k o hq h
      exact oa.mono m.ext m.fixLe (m.frame k.block oa.lt hap)
  · rcases beside_ne h1 with a | a <;> rcases beside_ne h2 with b | b
    · exact m.sr.apart i j h k hij hi hj a b
    · exact part i j h k hi hj a b
    · exact (part j i k h hj hi b a).symm
    · obtain ⟨hi0, _, hq1⟩ := side i a.2
      obtain ⟨hj0, _, hq2⟩ := side j b.2
      rw [hi] at hq1
      rw [hj] at hq2
      exact sr.apart i j h k hij hq1 hq2 (by rw [beside_right hi0]; exact a.2) (by rw [beside_right hj0]; exact b.2)
  · rcases beside_ne hl with a | a
    · exact m.sr.free id k hr a
    · obtain ⟨h0, _, hq⟩ := side id a.2
      rw [hr] at hq
      have hIn := sr.free id k hq (by rw [beside_right h0]; exact a.2)
      cases e : I' k.block with
      | none => rfl
      | some o =>
        have := m.newfix k.block (by rw [e]; simp) hIn
        cases ho : G id with
        | none => exact absurd ho a.2
        | some o => have := (gobj id k o hq ho).1.lt; omega
  · rcases m.home id k h1 h2 with h | ⟨j, q, hj, hl, he⟩
    · exact .inl h
    · exact .inr ⟨j, q, hj, live j hl, he⟩
  · exact m.frame x hx fun id k hr hl => hf id k hr (live id hl)

/-- A way goes by the heap as far as it is embedded. -/
theorem Moved.congr {H H1 H' H1' : Nat → Option AObj} {w w' : World} {lo hi : Nat} {ρ' : Emb} {I' : Fix} (m : Moved ρ I H w lo hi ρ' I' H' w')
    (h : ∀ id, ρ id ≠ none → H1 id = H id) (h' : ∀ id, ρ' id ≠ none → H1' id = H' id) : Moved ρ I H1 w lo hi ρ' I' H1' w' := by
  have e : ∀ id k, ρ id = some k → H1 id = H id := fun id k hr => h id (by rw [hr]; simp)
  have e' : ∀ id k, ρ' id = some k → H1' id = H' id := fun id k hr => h' id (by rw [hr]; simp)
  refine ⟨⟨m.sr.fix, fun id k o hr ho => m.sr.obj id k o hr (by rw [← e' id k hr]; exact ho), fun i j a b hij hi hj h1 h2 => m.sr.apart i j a b hij hi hj (by rw [← e' i a hi]; exact h1) (by rw [← e' j b hj]; exact h2),
    fun id k hr hl => m.sr.free id k hr (by rw [← e' id k hr]; exact hl)⟩, m.ext, m.new, m.fix, m.newfix, fun id k h1 h2 => ?_, fun x hx hf => ?_, m.size, m.os, m.tape, m.output⟩
  · rcases m.home id k h1 h2 with h | ⟨j, q, hj, hl, he⟩
    · exact .inl h
    · exact .inr ⟨j, q, hj, by rw [e j q hj]; exact hl, he⟩
  · exact m.frame x hx fun id k hr hl => hf id k hr (by rw [e id k hr]; exact hl)

end Go.AM
