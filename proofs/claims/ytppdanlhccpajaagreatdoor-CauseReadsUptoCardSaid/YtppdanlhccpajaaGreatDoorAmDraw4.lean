/- Regions that draw their order: the canonical run as a trace. -/
import Derived.Test.YtppdanlhccpajaaGreatDoorAmDraw3
set_option linter.unusedSimpArgs false
set_option linter.unusedVariables false
set_option linter.unusedSectionVars false
namespace Go.AM

/-- The canonical run, step by step: what each place yields, and the object that it makes. -/
inductive Tr (P : AProg) (call : CallF) (yh : YieldF) (ops : List Oper) (bef : List Nat) (base : Nat) (val : Nat → AV) (obj : Nat → Option AObj) : List Nat → Snaps → AAct → AS → AAct → AS → Prop
  | nil (sn : Snaps) (a : AAct) (s : AS) : Tr P call yh ops bef base val obj [] sn a s a s
  | skip (i : Nat) (o : Oper) (rest : List Nat) (sn : Snaps) (a : AAct) (s : AS) (aF : AAct) (sF : AS) (ho : ops[i]? = some o) (hw : awanted ops a.tmps o = false) (hv : val i = aundef) (hob : obj i = none)
      (h : Tr P call yh ops bef base val obj rest sn (a.put o.dst aundef) s aF sF) : Tr P call yh ops bef base val obj (i :: rest) sn a s aF sF
  | act (i : Nat) (o : Oper) (rest : List Nat) (sn : Snaps) (a a' : AAct) (s s' : AS) (aF : AAct) (sF : AS) (ho : ops[i]? = some o) (hw : awanted ops a.tmps o = true) (ha : acts o.op = true)
      (hs : step1 P call yh a s o = some (a', s')) (h : Tr P call yh ops bef base val obj rest ((i, s) :: sn) a' s' aF sF) : Tr P call yh ops bef base val obj (i :: rest) sn a s aF sF
  | read (i : Nat) (o : Oper) (rest : List Nat) (sn : Snaps) (a : AAct) (s s2 : AS) (aF : AAct) (sF : AS) (ho : ops[i]? = some o) (hw : awanted ops a.tmps o = true) (ha : acts o.op = false) (hr : reads o.op = true)
      (he : evOp P a.tmps s o = some (.val (val i) s2)) (hu : unturned P a.tmps o (bef.getD i 0) (val i) sn = true) (hob : obj i = none)
      (h : Tr P call yh ops bef base val obj rest sn (a.put o.dst (val i)) s aF sF) : Tr P call yh ops bef base val obj (i :: rest) sn a s aF sF
  | pure (i : Nat) (o : Oper) (rest : List Nat) (sn : Snaps) (a : AAct) (s : AS) (aF : AAct) (sF : AS) (ho : ops[i]? = some o) (hw : awanted ops a.tmps o = true) (ha : acts o.op = false)
      (he : ∀ s', evOp P a.tmps s' o = some (.val (val i) s')) (hob : obj i = none)
      (h : Tr P call yh ops bef base val obj rest sn (a.put o.dst (val i)) s aF sF) : Tr P call yh ops bef base val obj (i :: rest) sn a s aF sF
  | make (i : Nat) (o : Oper) (rest : List Nat) (sn : Snaps) (a : AAct) (s : AS) (aF : AAct) (sF : AS) (ob : AObj) (ho : ops[i]? = some o) (hw : awanted ops a.tmps o = true) (ha : acts o.op = false)
      (he : ∀ s' : AS, s'.next = base + i → evOp P a.tmps s' o = some (.val (val i) (s'.new ob).2)) (hob : obj i = some ob)
      (h : Tr P call yh ops bef base val obj rest sn (a.put o.dst (val i)) (s.put (base + i) ob) aF sF) : Tr P call yh ops bef base val obj (i :: rest) sn a s aF sF

/-- What a trace says of places that are not in it is of no account. -/
theorem Tr.congr {P : AProg} {call : CallF} {yh : YieldF} {ops : List Oper} {bef : List Nat} {base : Nat} {val val' : Nat → AV} {obj obj' : Nat → Option AObj} {L : List Nat} {sn : Snaps} {a aF : AAct} {s sF : AS}
    (h : Tr P call yh ops bef base val obj L sn a s aF sF) (hv : ∀ i ∈ L, val' i = val i ∧ obj' i = obj i) : Tr P call yh ops bef base val' obj' L sn a s aF sF := by
  induction h with
  | nil sn a s => exact .nil sn a s
  | skip i o rest sn a s aF sF ho hw hv' hob h ih =>
    exact .skip i o rest sn a s aF sF ho hw ((hv i (by simp)).1.trans hv') ((hv i (by simp)).2.trans hob) (ih fun j hj => hv j (by simp [hj]))
  | act i o rest sn a a' s s' aF sF ho hw ha hs h ih => exact .act i o rest sn a a' s s' aF sF ho hw ha hs (ih fun j hj => hv j (by simp [hj]))
  | read i o rest sn a s s2 aF sF ho hw ha hr he hu hob h ih =>
    have e := (hv i (by simp)).1
    exact .read i o rest sn a s s2 aF sF ho hw ha hr (by rw [e]; exact he) (by rw [e]; exact hu) ((hv i (by simp)).2.trans hob) (by rw [e]; exact ih fun j hj => hv j (by simp [hj]))
  | pure i o rest sn a s aF sF ho hw ha he hob h ih =>
    have e := (hv i (by simp)).1
    exact .pure i o rest sn a s aF sF ho hw ha (by rw [e]; exact he) ((hv i (by simp)).2.trans hob) (by rw [e]; exact ih fun j hj => hv j (by simp [hj]))
  | make i o rest sn a s aF sF ob ho hw ha he hob h ih =>
    have e := (hv i (by simp)).1
    exact .make i o rest sn a s aF sF ob ho hw ha (by rw [e]; exact he) ((hv i (by simp)).2.trans hob) (by rw [e]; exact ih fun j hj => hv j (by simp [hj]))

theorem Tr.of {P : AProg} {call : CallF} {yh : YieldF} {ops : List Oper} {bef : List Nat} {base : Nat} : ∀ (L : List Nat) (sn : Snaps) (a aF : AAct) (s sF : AS), L.Nodup →
    evDraw P call yh ops bef base L sn a s = some (aF, sF) → ∃ val obj, Tr P call yh ops bef base val obj L sn a s aF sF
  | [], sn, a, aF, s, sF, _, h => by
    simp only [evDraw, Option.some.injEq, Prod.mk.injEq] at h
    obtain ⟨rfl, rfl⟩ := h
    exact ⟨fun _ => aundef, fun _ => none, .nil _ _ _⟩
  | i :: rest, sn, a, aF, s, sF, hn, h => by
    obtain ⟨hi, hn'⟩ := List.nodup_cons.1 hn
    have up : ∀ (v : AV) (ob : Option AObj) (val : Nat → AV) (obj : Nat → Option AObj) (sn' : Snaps) (a' : AAct) (s' : AS), Tr P call yh ops bef base val obj rest sn' a' s' aF sF →
        Tr P call yh ops bef base (fun j => if j = i then v else val j) (fun j => if j = i then ob else obj j) rest sn' a' s' aF sF := fun v ob val obj sn' a' s' h => h.congr fun j hj => by
      have : j ≠ i := fun e => hi (e ▸ hj)
      simp [this]
    simp only [evDraw] at h
    cases ho : ops[i]? with
    | none => rw [ho] at h; cases h
    | some o =>
      rw [ho] at h
      simp only at h
      cases hw : awanted ops a.tmps o with
      | false =>
        rw [hw] at h
        simp only [Bool.false_eq_true, if_false] at h
        obtain ⟨val, obj, ht⟩ := Tr.of rest sn _ aF s sF hn' h
        exact ⟨_, _, .skip i o rest sn a s aF sF ho hw (by simp) (by simp) (up aundef none val obj _ _ _ ht)⟩
      | true =>
        rw [hw] at h
        simp only [if_true] at h
        cases ha : acts o.op with
        | true =>
          rw [ha] at h
          simp only [if_true] at h
          cases e : step1 P call yh a s o with
          | none => rw [e] at h; cases h
          | some r =>
            obtain ⟨a', s'⟩ := r
            rw [e] at h
            obtain ⟨val, obj, ht⟩ := Tr.of rest _ _ aF s' sF hn' h
            exact ⟨val, obj, .act i o rest sn a a' s s' aF sF ho hw ha e ht⟩
        | false =>
          rw [ha] at h
          simp only [Bool.false_eq_true, if_false] at h
          cases hr : reads o.op with
          | true =>
            rw [hr] at h
            simp only [if_true] at h
            split at h
            · rename_i v s2 e
              split at h
              · rename_i hu
                obtain ⟨val, obj, ht⟩ := Tr.of rest sn _ aF s sF hn' h
                have e1 : (if i = i then v else val i) = v := if_pos rfl
                exact ⟨fun j => if j = i then v else val j, fun j => if j = i then none else obj j, .read i o rest sn a s s2 aF sF ho hw ha hr (by rw [e1]; exact e) (by rw [e1]; exact hu) (if_pos rfl) (by rw [e1]; exact up v none val obj _ _ _ ht)⟩
              · cases h
            · cases h
          | false =>
            rw [hr] at h
            simp only [Bool.false_eq_true, if_false] at h
            split at h
            · rename_i v s2 e
              obtain ⟨val, obj, ht⟩ := Tr.of rest sn _ aF _ sF hn' h
              rcases evOp_shape (P := P) (t := a.tmps) ha hr with ⟨X, hX⟩ | ⟨Y, hY⟩
              · rw [hX] at e
                cases X with
                | none => cases e
                | some x =>
                  simp only [Option.map_some, Option.some.injEq, ARes.val.injEq] at e
                  obtain ⟨rfl, rfl⟩ := e
                  have e1 : (if i = i then x else val i) = x := if_pos rfl
                  exact ⟨fun j => if j = i then x else val j, fun j => if j = i then none else obj j, .pure i o rest sn a s aF sF ho hw ha (by rw [e1]; exact hX) (if_pos rfl) (by rw [e1]; exact up x none val obj _ _ _ ht)⟩
              · rw [hY] at e
                cases hy : Y (base + i) with
                | none => simp only at e; rw [hy] at e; cases e
                | some y =>
                  simp only at e
                  rw [hy] at e
                  simp only [Option.map_some, Option.some.injEq, ARes.val.injEq] at e
                  obtain ⟨rfl, rfl⟩ := e
                  have e1 : (if i = i then y.1 else val i) = y.1 := if_pos rfl
                  exact ⟨fun j => if j = i then y.1 else val j, fun j => if j = i then some y.2 else obj j, .make i o rest sn a s aF sF y.2 ho hw ha (fun s' hs' => by simp only [e1]; rw [hY, hs', hy]; rfl) (if_pos rfl) (by rw [e1]; exact up y.1 (some y.2) val obj _ _ _ ht)⟩
            · cases h

end Go.AM
