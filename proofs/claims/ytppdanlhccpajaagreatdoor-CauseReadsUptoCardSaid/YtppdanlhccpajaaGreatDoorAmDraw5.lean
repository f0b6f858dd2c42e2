/- Regions that draw their order: what the masks say; the situation on the way. -/
import Derived.Test.YtppdanlhccpajaaGreatDoorAmDraw4
set_option linter.unusedSimpArgs false
set_option linter.unusedVariables false
set_option linter.unusedSectionVars false
namespace Go.AM

theorem mask_listed {l : List Oper} {bef : List Nat} (hm : maskOk l bef = true) (Lp : Nat → Prop) (hcl : ∀ i o, Lp i → l[i]? = some o → ∀ e ∈ o.after.toList, Region.binds .any e = true → Lp e.on) :
    ∀ (i : Nat) (o : Oper), l[i]? = some o → (∀ e ∈ o.after.toList, Region.binds .any e = true → Lp e.on) → ∀ j, j < l.length → (bef.getD i 0).testBit j = true → Lp j := by
  intro i
  induction i using Nat.strongRecOn with
  | _ i ih =>
    intro o ho hdep j hj hb
    have hi : i < l.length := (List.getElem?_eq_some_iff.1 ho).1
    unfold maskOk at hm
    rw [List.all_eq_true] at hm
    have h1 := hm i (List.mem_range.2 hi)
    rw [List.all_eq_true] at h1
    have h2 := h1 j (List.mem_range.2 hj)
    rw [hb, ho] at h2
    simp only [Bool.not_true, Bool.false_or, List.any_eq_true, Bool.and_eq_true, Bool.or_eq_true, decide_eq_true_eq] at h2
    obtain ⟨e, he, ⟨hbind, hlt⟩, hor⟩ := h2
    have hon := hdep e he hbind
    rcases hor with h | h
    · rw [← Nat.eq_of_beq_eq_true h]; exact hon
    · have : e.on < l.length := by omega
      exact ih e.on hlt l[e.on] (List.getElem?_eq_getElem this) (hcl e.on _ hon (List.getElem?_eq_getElem this)) j hj h

/-- The objects of the places that are done early. -/
def early (base : Nat) (E : Nat → Bool) (obj : Nat → Option AObj) : Nat → Option AObj := fun id => if base ≤ id ∧ E (id - base) = true then obj (id - base) else none

/-- The temporaries: those of the canonical run, but for what is done early. -/
structure Tmp1 (ops : List Oper) (val : Nat → AV) (E : Nat → Bool) (aC t : ATmps) : Prop where
  n : t.n = aC.n
  far : ∀ d : Nat, t.n ≤ d → t.get d = aC.get d
  done : ∀ (d : Nat) j, d < t.n → E j = true → dstOf ops j = some d → t.get d = val j
  else_ : ∀ d : Nat, (∀ j, E j = true → dstOf ops j ≠ some d) → t.get d = aC.get d

/-- The situation on the way: L is left of the canonical order, of it the places of E are done early. -/
structure Sit (p : Program) (b : Nat) (ρ0 : Emb) (I0 : Fix) (s0 : AS) (w0 : World) (ops : List Oper) (base : Nat) (val : Nat → AV) (obj : Nat → Option AObj)
    (L : List Nat) (aC : AAct) (s : AS) (E : Nat → Bool) (ρ : Emb) (I : Fix) (c : Act) (w : World) : Prop where
  sub : ∀ j, E j = true → j ∈ L
  still : ∀ j o, E j = true → ops[j]? = some o → acts o.op = false
  tmps : ∃ t : ATmps, TR ρ I t c.tmps ∧ Tmp1 ops val E aC.tmps t
  dr : DR p b ρ I aC.defers aC.marks c.defers
  sr : SR ρ I (beside s.get (early base E obj)) w
  off : ∀ j, j ∈ L → E j = false → ρ (base + j) = none
  gap : ∀ j, j ∈ L → s.get (base + j) = none
  fresh : Fresh ρ s
  room : base + ops.length ≤ s.next
  moved : Moved ρ0 I0 s0.get w0 base s.next ρ I (beside s.get (early base E obj)) w
  stay : Stay base s.next s0.get s.get
  lb : b ≤ w.heap.size

def without (E : Nat → Bool) (i : Nat) : Nat → Bool := fun j => E j && !Nat.beq j i

theorem without_true {E : Nat → Bool} {i j : Nat} (h : without E i j = true) : E j = true ∧ j ≠ i := by
  unfold without at h
  simp only [Bool.and_eq_true, Bool.not_eq_true'] at h
  exact ⟨h.1, fun e => by subst e; simp at h⟩
theorem without_ne {E : Nat → Bool} {i j : Nat} (h : j ≠ i) : without E i j = E j := by
  have : Nat.beq j i = false := by rw [beqF]; exact h
  simp [without, this]
theorem without_self {E : Nat → Bool} {i : Nat} : without E i i = false := by simp [without]

theorem early_none {base : Nat} {E : Nat → Bool} {obj : Nat → Option AObj} {i : Nat} (h : obj i = none) : early base (without E i) obj = early base E obj := by
  funext id
  unfold early
  by_cases hb : base ≤ id
  · by_cases hi : id - base = i
    · rw [hi, h]; simp
    · rw [without_ne hi]
  · simp [hb]

theorem beside_made {base : Nat} {E : Nat → Bool} {obj : Nat → Option AObj} {i : Nat} {s : AS} {ob : AObj} (hE : E i = true) (hob : obj i = some ob) (hn : s.get (base + i) = none) :
    beside (s.put (base + i) ob).get (early base (without E i) obj) = beside s.get (early base E obj) := by
  funext id
  unfold beside
  rw [AS.get_put]
  by_cases hid : id = base + i
  · subst hid
    rw [if_pos rfl, hn]
    simp [early, hE, hob]
  · rw [if_neg hid]
    cases s.get id with
    | some o => rfl
    | none =>
      simp only
      unfold early
      by_cases hb : base ≤ id
      · have : id - base ≠ i := by omega
        rw [without_ne this]
      · simp [hb]

theorem AAct.put_get (a : AAct) (d : Option Tmp) (v : AV) (k : Nat) : (a.put d v).tmps.get k = if d = some k ∧ k < a.tmps.n then v else a.tmps.get k := by
  cases d with
  | none => simp [AAct.put]
  | some d =>
    simp only [AAct.put, ATmps.get_set, Option.some.injEq]
    by_cases e : k = d
    · subst e; simp
    · have : ¬ d = k := fun h => e h.symm
      simp [e, this]
theorem AAct.put_n (a : AAct) (d : Option Tmp) (v : AV) : (a.put d v).tmps.n = a.tmps.n := by
  cases d with
  | none => rfl
  | some d => simp [AAct.put, ATmps.n_set]
theorem AAct.put_defers (a : AAct) (d : Option Tmp) (v : AV) : (a.put d v).defers = a.defers ∧ (a.put d v).marks = a.marks := by cases d <;> exact ⟨rfl, rfl⟩

theorem Sit.pop {p : Program} {b : Nat} {ρ0 ρ : Emb} {I0 I : Fix} {s0 s s' : AS} {w0 w : World} {ops : List Oper} {base : Nat} {val : Nat → AV} {obj : Nat → Option AObj} {i : Nat} {rest : List Nat} {aC : AAct} {E : Nat → Bool} {c : Act}
    (h : Sit p b ρ0 I0 s0 w0 ops base val obj (i :: rest) aC s E ρ I c w) (hE : E i = true) (hn : i ∉ rest) {o : Oper} (ho : ops[i]? = some o)
    (hs : (s' = s ∧ obj i = none) ∨ ∃ ob, obj i = some ob ∧ s' = s.put (base + i) ob) (hlt : i < ops.length) :
    Sit p b ρ0 I0 s0 w0 ops base val obj rest (aC.put o.dst (val i)) s' (without E i) ρ I c w := by
  have hnext : s'.next = s.next := by rcases hs with ⟨rfl, _⟩ | ⟨ob, _, rfl⟩ <;> rfl
  have hheap : beside s'.get (early base (without E i) obj) = beside s.get (early base E obj) := by
    rcases hs with ⟨rfl, hob⟩ | ⟨ob, hob, rfl⟩
    · rw [early_none hob]
    · exact beside_made hE hob (h.gap i (by simp))
  have hget : ∀ id, id ≠ base + i → s'.get id = s.get id := fun id hid => by
    rcases hs with ⟨rfl, _⟩ | ⟨ob, _, rfl⟩
    · rfl
    · rw [AS.get_put, if_neg hid]
  refine ⟨fun j hj => ?_, fun j o hj => h.still j o (without_true hj).1, ?_, ?_, by rw [hheap]; exact h.sr, fun j hj hf => ?_, fun j hj => ?_, ?_, by rw [hnext]; exact h.room, by rw [hheap, hnext]; exact h.moved, ?_, h.lb⟩
  · obtain ⟨h1, h2⟩ := without_true hj
    rcases List.mem_cons.1 (h.sub j h1) with e | e
    · exact absurd e h2
    · exact e
  · obtain ⟨t, tr, tm⟩ := h.tmps
    refine ⟨t, tr, ?_, ?_, fun d j hd hj => tm.done d j hd (without_true hj).1, fun d hno => ?_⟩
    · rw [AAct.put_n]; exact tm.n
    · intro d hd
      rw [AAct.put_get, if_neg (fun hc : o.dst = some d ∧ d < aC.tmps.n => by have h1 := tm.n; have h2 := hc.2; omega)]
      exact tm.far d hd
    rw [AAct.put_get]
    by_cases e : o.dst = some d ∧ d < aC.tmps.n
    · rw [if_pos e]
      exact tm.done d i (by rw [tm.n]; exact e.2) hE (by simp [dstOf, ho, e.1])
    · rw [if_neg e]
      by_cases hd : t.n ≤ d
      · exact tm.far d hd
      · have hlt2 : d < aC.tmps.n := by rw [← tm.n]; exact Nat.lt_of_not_le hd
        have e1 : o.dst ≠ some d := fun h1 => e ⟨h1, hlt2⟩
        refine tm.else_ d fun j hj => ?_
        by_cases hji : j = i
        · subst hji; simpa [dstOf, ho] using e1
        · exact hno j (by rw [without_ne hji]; exact hj)
  · rw [(AAct.put_defers _ _ _).1, (AAct.put_defers _ _ _).2]; exact h.dr
  · have hji : j ≠ i := fun e => hn (e ▸ hj)
    rw [without_ne hji] at hf
    exact h.off j (by simp [hj]) hf
  · have hji : j ≠ i := fun e => hn (e ▸ hj)
    rw [hget _ (by omega)]; exact h.gap j (by simp [hj])
  · refine ⟨fun id hid => h.fresh.1 id (by rw [← hnext]; exact hid), fun id hid => ?_⟩
    have := h.room
    rw [hnext] at hid
    rw [hget id (by omega)]; exact h.fresh.2 id hid
  · intro id hid hnone
    rw [hnext] at hid
    have := h.room
    rw [hget id (by omega)]; exact h.stay id hid hnone

end Go.AM
