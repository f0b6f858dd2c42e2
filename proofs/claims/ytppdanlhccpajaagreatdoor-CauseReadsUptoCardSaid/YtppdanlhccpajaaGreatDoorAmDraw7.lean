/- Regions that draw their order: the middle of the canonical run; a place that acts. -/
import Derived.Test.YtppdanlhccpajaaGreatDoorAmDraw6
set_option linter.unusedSimpArgs false
set_option linter.unusedVariables false
set_option linter.unusedSectionVars false
namespace Go.AM

/-- A step with other temporaries. -/
theorem step1_tmps {P : AProg} {call : CallF} {yh : YieldF} {a a' : AAct} {s s' : AS} {o : Oper} (h : step1 P call yh a s o = some (a', s')) :
    ∃ v ds, a' = ({ a with defers := ds } : AAct).put o.dst v ∧ ∀ t, (∀ x ∈ o.op.operands, aeval t x = aeval a.tmps x) →
      step1 P call yh { a with tmps := t } s o = some (({ a with tmps := t, defers := ds } : AAct).put o.dst v, s') := by
  unfold step1 at h
  have key : ∀ t, (∀ x ∈ o.op.operands, aeval t x = aeval a.tmps x) → evOp P t s o = evOp P a.tmps s o := fun t ht => evOp_tmps ht
  cases e : evOp P a.tmps s o with
  | none => rw [e] at h; cases h
  | some r =>
    rw [e] at h
    cases r with
    | val v s1 => cases h; exact ⟨v, a.defers, rfl, fun t ht => by unfold step1; simp only [key t ht, e]⟩
    | skip s1 => cases h; exact ⟨aundef, a.defers, rfl, fun t ht => by unfold step1; simp only [key t ht, e]⟩
    | enter f args =>
      simp only at h
      cases e2 : call f args s with
      | none => rw [e2] at h; cases h
      | some r =>
        obtain ⟨v, s1⟩ := r
        rw [e2] at h; cases h
        exact ⟨v, a.defers, rfl, fun t ht => by unfold step1; simp only [key t ht, e, e2]⟩
    | yield y args =>
      simp only at h
      cases e2 : yh y args s with
      | none => rw [e2] at h; cases h
      | some r =>
        obtain ⟨v, s1⟩ := r
        rw [e2] at h; cases h
        exact ⟨v, a.defers, rfl, fun t ht => by unfold step1; simp only [key t ht, e, e2]⟩
    | defer f args => cases h; exact ⟨aundef, (f, args) :: a.defers, rfl, fun t ht => by unfold step1; simp only [key t ht, e]⟩
    | recover => cases h

theorem AAct.put_tmps_congr {a b : AAct} (h : a.tmps = b.tmps) (d : Option Tmp) (v : AV) : (a.put d v).tmps = (b.put d v).tmps := by
  cases d with
  | none => exact h
  | some d => simp only [AAct.put, h]

/-- One step of a trace. -/
theorem Tr.step {P : AProg} {call : CallF} {yh : YieldF} {ops : List Oper} {bef : List Nat} {base : Nat} {val : Nat → AV} {obj : Nat → Option AObj} {i : Nat} {rest : List Nat} {sn : Snaps} {a aF : AAct} {s sF : AS}
    (h : Tr P call yh ops bef base val obj (i :: rest) sn a s aF sF) :
    ∃ o v a' s' sn', ops[i]? = some o ∧ a'.tmps = (a.put o.dst v).tmps ∧ Tr P call yh ops bef base val obj rest sn' a' s' aF sF ∧ (acts o.op = false → v = val i) ∧
      ((acts o.op = true ∧ sn' = (i, s) :: sn) ∨ (sn' = sn ∧ s'.next = s.next ∧ (s' = s ∨ ∃ ob, obj i = some ob ∧ s' = s.put (base + i) ob))) := by
  cases h with
  | skip _ o _ _ _ _ _ _ ho hw hv hob h => exact ⟨o, aundef, _, s, sn, ho, rfl, h, fun _ => hv.symm, .inr ⟨rfl, rfl, .inl rfl⟩⟩
  | act _ o _ _ _ a' _ s' _ _ ho hw ha hs h =>
    obtain ⟨v, ds, e, _⟩ := step1_tmps hs
    subst e
    exact ⟨o, v, ({ a with defers := ds } : AAct).put o.dst v, s', _, ho, AAct.put_tmps_congr (a := { a with defers := ds }) (b := a) rfl _ _, h, fun hc => by rw [ha] at hc; (cases hc), .inl ⟨ha, rfl⟩⟩
  | read _ o _ _ _ _ s2 _ _ ho hw ha hr he hu hob h => exact ⟨o, val i, _, s, sn, ho, rfl, h, fun _ => rfl, .inr ⟨rfl, rfl, .inl rfl⟩⟩
  | pure _ o _ _ _ _ _ _ ho hw ha he hob h => exact ⟨o, val i, _, s, sn, ho, rfl, h, fun _ => rfl, .inr ⟨rfl, rfl, .inl rfl⟩⟩
  | make _ o _ _ _ _ _ _ ob ho hw ha he hob h => exact ⟨o, val i, _, _, sn, ho, rfl, h, fun _ => rfl, .inr ⟨rfl, rfl, .inr ⟨ob, hob, rfl⟩⟩⟩

/-- A state that is another one, but for objects of some places. -/
def Near (base : Nat) (obj : Nat → Option AObj) (L1 : List Nat) (s s2 : AS) : Prop := ∀ id, s2.get id = s.get id ∨ ∃ j, j ∈ L1 ∧ id = base + j ∧ s2.get id = obj j ∧ obj j ≠ none

theorem Near.refl {base : Nat} {obj : Nat → Option AObj} {L1 : List Nat} {s : AS} : Near base obj L1 s s := fun _ => .inl rfl

structure Mid (ops : List Oper) (base : Nat) (val : Nat → AV) (obj : Nat → Option AObj) (L1 : List Nat) (sn : Snaps) (a : AAct) (s : AS) (sn1 : Snaps) (a1 : AAct) (s1 : AS) : Prop where
  n : a1.tmps.n = a.tmps.n
  far : ∀ d : Nat, a.tmps.n ≤ d → a1.tmps.get d = a.tmps.get d
  kept : ∀ d : Nat, (∀ j ∈ L1, dstOf ops j ≠ some d) → a1.tmps.get d = a.tmps.get d
  done : ∀ (d j : Nat), j ∈ L1 → (∀ o, ops[j]? = some o → acts o.op = false) → dstOf ops j = some d → d < a.tmps.n → (∀ k ∈ L1, k ≠ j → dstOf ops k ≠ some d) → a1.tmps.get d = val j
  state : ∃ s2, Near base obj L1 s s2 ∧ (s2 = s1 ∨ ∃ k o, k ∈ L1 ∧ ops[k]? = some o ∧ acts o.op = true ∧ (k, s2) ∈ sn1)
  snaps : ∀ x ∈ sn, x ∈ sn1

theorem Tr.mid {P : AProg} {call : CallF} {yh : YieldF} {ops : List Oper} {bef : List Nat} {base : Nat} {val : Nat → AV} {obj : Nat → Option AObj} {L2 : List Nat} {aF : AAct} {sF : AS} :
    ∀ (L1 : List Nat) (sn : Snaps) (a : AAct) (s : AS), (L1 ++ L2).Nodup → Tr P call yh ops bef base val obj (L1 ++ L2) sn a s aF sF →
      ∃ sn1 a1 s1, Tr P call yh ops bef base val obj L2 sn1 a1 s1 aF sF ∧ Mid ops base val obj L1 sn a s sn1 a1 s1
  | [], sn, a, s, _, h => ⟨sn, a, s, h, rfl, fun _ _ => rfl, fun _ _ => rfl, fun _ _ hj => absurd hj List.not_mem_nil, ⟨s, Near.refl, .inl rfl⟩, fun _ hx => hx⟩
  | i :: L1, sn, a, s, hn, h => by
    obtain ⟨hi, hn'⟩ := List.nodup_cons.1 hn
    obtain ⟨o, v, a', s', sn', ho, hat, ht, hv, hs⟩ := Tr.step h
    obtain ⟨sn1, a1, s1, ht1, m⟩ := Tr.mid L1 sn' a' s' hn' ht
    have hget : ∀ k : Nat, a'.tmps.get k = if o.dst = some k ∧ k < a.tmps.n then v else a.tmps.get k := fun k => by rw [hat, AAct.put_get]
    have hnn : a'.tmps.n = a.tmps.n := by rw [hat, AAct.put_n]
    have hd : dstOf ops i = o.dst := by simp [dstOf, ho]
    refine ⟨sn1, a1, s1, ht1, m.n.trans hnn, fun d hdn => ?_, fun d hno => ?_, fun d j hj hst hdj hdn huniq => ?_, ?_, fun x hx => m.snaps x ?_⟩
    · rw [m.far d (by rw [hnn]; exact hdn), hget d, if_neg]
      exact fun hc => absurd hc.2 (Nat.not_lt.2 hdn)
    · rw [m.kept d fun j hj => hno j (by simp [hj]), hget d, if_neg]
      exact fun hc => hno i (by simp) (hd.trans hc.1)
    · rcases List.mem_cons.1 hj with rfl | hj'
      · rw [m.kept d fun k hk => huniq k (by simp [hk]) (fun e => by subst e; exact hi (by simp [hk])), hget d, if_pos ⟨hd.symm.trans hdj, hdn⟩]
        exact hv (hst o ho)
      · exact m.done d j hj' hst hdj (by rw [hnn]; exact hdn) fun k hk => huniq k (by simp [hk])
    · rcases hs with ⟨hact, rfl⟩ | ⟨rfl, _, hs⟩
      · exact ⟨s, Near.refl, .inr ⟨i, o, by simp, ho, hact, m.snaps _ (by simp)⟩⟩
      · obtain ⟨s2, hnear, hor⟩ := m.state
        refine ⟨s2, fun id => ?_, ?_⟩
        · rcases hnear id with e | ⟨j, hj, e1, e2, e3⟩
          · rcases hs with rfl | ⟨ob, hob, rfl⟩
            · exact .inl e
            · rw [AS.get_put] at e
              by_cases hid : id = base + i
              · rw [if_pos hid] at e
                exact .inr ⟨i, by simp, hid, by rw [e, hob], by rw [hob]; simp⟩
              · rw [if_neg hid] at e
                exact .inl e
          · exact .inr ⟨j, by simp [hj], e1, e2, e3⟩
        · rcases hor with e | ⟨k, o', hk, h1, h2, h3⟩
          · exact .inl e
          · exact .inr ⟨k, o', by simp [hk], h1, h2, h3⟩
    · rcases hs with ⟨_, rfl⟩ | ⟨rfl, _⟩
      · simp [hx]
      · exact hx

/-- What 'canonOk' says of a place. -/
structure At (l : List Oper) (bef : List Nat) (done : List Nat) (i : Nat) (L2 : List Nat) (o : Oper) : Prop where
  edges : ∀ e ∈ o.after.toList, Region.binds .any e = true → e.on ∈ done
  act : acts o.op = true → ∀ j ∈ done, (bef.getD i 0).testBit j = true
  prev : ∀ j ∈ done, ∀ d, dstOf l j = some d → d ∈ namesOf l o → (bef.getD i 0).testBit j = true ∧ o.dst ≠ some d
  next : ∀ j ∈ L2, ∀ d, dstOf l j = some d → d ∉ namesOf l o
  new : i ∉ done

theorem canonOk_cons {l : List Oper} {bef : List Nat} {done : List Nat} {i : Nat} {L2 : List Nat} (h : canonOk l bef done (i :: L2) = true) :
    (∃ o, l[i]? = some o ∧ At l bef done i L2 o) ∧ canonOk l bef (i :: done) L2 = true := by
  simp only [canonOk, Bool.and_eq_true] at h
  obtain ⟨⟨h1, h2⟩, h3⟩ := h
  refine ⟨?_, h3⟩
  cases ho : l[i]? with
  | none => rw [ho] at h1; cases h1
  | some o =>
    rw [ho] at h1
    simp only [Bool.and_eq_true, List.all_eq_true, Bool.or_eq_true, Bool.not_eq_true', decide_eq_true_eq] at h1
    obtain ⟨⟨⟨ha, hb⟩, hc⟩, hd⟩ := h1
    refine ⟨o, rfl, fun e he hbind => ?_, fun hact j hj => ?_, fun j hj d hdj hmem => ?_, fun j hj d hdj hmem => ?_, ?_⟩
    · rcases ha e he with h | h
      · rw [hbind] at h; cases h
      · simpa using h
    · rcases hb with h | h
      · rw [hact] at h; cases h
      · exact h j hj
    · have := hc j hj
      rw [hdj] at this
      simp only [Bool.or_eq_true, Bool.not_eq_true', Bool.and_eq_true, decide_eq_true_eq] at this
      rcases this with h | h
      · rw [List.contains_eq_mem, decide_eq_false_iff_not] at h
        exact absurd hmem h
      · exact h
    · have := hd j hj
      rw [hdj] at this
      simp only [Bool.not_eq_true'] at this
      rw [List.contains_eq_mem, decide_eq_false_iff_not] at this
      exact this hmem
    · simp only [Bool.not_eq_true'] at h2
      rw [List.contains_eq_mem, decide_eq_false_iff_not] at h2
      exact h2

theorem canonOk_at {l : List Oper} {bef : List Nat} {i : Nat} {L2 : List Nat} : ∀ (L1 done : List Nat), canonOk l bef done (L1 ++ i :: L2) = true → ∃ o, l[i]? = some o ∧ At l bef (L1.reverse ++ done) i L2 o
  | [], done, h => (canonOk_cons h).1
  | j :: L1, done, h => by
    have := canonOk_at L1 (j :: done) (canonOk_cons h).2
    simpa using this

/-- No two places write one temporary. -/
theorem canonOk_uniq {l : List Oper} {bef : List Nat} : ∀ (L done : List Nat), canonOk l bef done L = true → ∀ j k, j ∈ L → k ∈ L → j ≠ k → ∀ d, dstOf l j = some d → dstOf l k ≠ some d
  | [], _, _, _, _, hj, _, _, _, _ => absurd hj List.not_mem_nil
  | i :: L, done, h, j, k, hj, hk, hne, d, hdj => by
    obtain ⟨⟨o, ho, at_⟩, h2⟩ := canonOk_cons h
    have mem : dstOf l i = some d → d ∈ namesOf l o := fun e => by
      have : o.dst = some d := by simpa [dstOf, ho] using e
      simp [namesOf, this]
    rcases List.mem_cons.1 hj with rfl | hj' <;> rcases List.mem_cons.1 hk with rfl | hk'
    · exact absurd rfl hne
    · exact fun e => at_.next k hk' d e (mem hdj)
    · exact fun e => at_.next j hj' d hdj (mem e)
    · exact canonOk_uniq L (i :: done) h2 j k hj' hk' hne d hdj

/-- A place that acts, at the head of what is left. -/
theorem Sit.head {p : Program} {b : Nat} {ρ0 ρ ρ' : Emb} {I0 I I' : Fix} {s0 s s' : AS} {w0 w w' : World} {ops : List Oper} {base : Nat} {val : Nat → AV} {obj : Nat → Option AObj} {i : Nat} {rest : List Nat} {aC : AAct} {E : Nat → Bool} {c c' : Act} {o : Oper} {v : AV}
    {ds : List (FuncId × List AV)} {t : ATmps}
    (h : Sit p b ρ0 I0 s0 w0 ops base val obj (i :: rest) aC s E ρ I c w) (fr0 : ∀ id, base ≤ id → ρ0 id = none) (hL : ∀ j, j ∈ i :: rest → j < ops.length) (hE : E i = false)
    (hdst : ∀ j d, E j = true → o.dst = some d → dstOf ops j ≠ some d) (tm : Tmp1 ops val E aC.tmps t)
    (went : Went ρ I s w s' ρ' I' w') (ar : AR p b ρ' I' (({ aC with tmps := t, defers := ds } : AAct).put o.dst v) c') :
    Sit p b ρ0 I0 s0 w0 ops base val obj rest (({ aC with defers := ds } : AAct).put o.dst v) s' E ρ' I' c' w' := by
  have hroom := h.room
  have hgrow := went.grows.1
  have hG : ∀ id, Go.AM.early base E obj id ≠ none → s.get id = none ∧ (id < s.next ∨ s'.next ≤ id) := fun id hid => by
    unfold Go.AM.early at hid
    split at hid
    · rename_i hc
      obtain ⟨hb, he⟩ := hc
      have e : base + (id - base) = id := by omega
      have hj := h.sub _ he
      have h2 := h.gap _ hj
      rw [e] at h2
      have := hL _ hj
      exact ⟨h2, .inl (by omega)⟩
    · exact absurd rfl hid
  have m2 := Moved.beside h.sr hG (fun id h1 _ => h.fresh.1 id h1) went.grows.2 went.moved
  refine ⟨fun j hj => ?_, h.still, ?_, ?_, m2.sr, fun j hj hf => ?_, fun j hj => ?_, went.fresh h.fresh, by omega, ?_, ?_, went.lb h.lb⟩
  · rcases List.mem_cons.1 (h.sub j hj) with rfl | e
    · rw [hE] at hj; cases hj
    · exact e
  · have e1 : ∀ d : Nat, ((({ aC with tmps := t, defers := ds } : AAct).put o.dst v)).tmps.get d = if o.dst = some d ∧ d < t.n then v else t.get d := fun d => AAct.put_get _ _ _ _
    have e2 : ∀ d : Nat, ((({ aC with defers := ds } : AAct).put o.dst v)).tmps.get d = if o.dst = some d ∧ d < aC.tmps.n then v else aC.tmps.get d := fun d => AAct.put_get _ _ _ _
    have n1 : ((({ aC with tmps := t, defers := ds } : AAct).put o.dst v)).tmps.n = t.n := AAct.put_n _ _ _
    have n2 : ((({ aC with defers := ds } : AAct).put o.dst v)).tmps.n = aC.tmps.n := AAct.put_n _ _ _
    refine ⟨_, ar.tr, by rw [n1, n2]; exact tm.n, fun d hd => ?_, fun d j hd hj hdj => ?_, fun d hno => ?_⟩
    · rw [e1, e2, if_neg, if_neg]
      · exact tm.far d (by rw [n1] at hd; exact hd)
      · rw [n1, tm.n] at hd; exact fun hc => absurd hc.2 (Nat.not_lt.2 hd)
      · rw [n1] at hd; exact fun hc => absurd hc.2 (Nat.not_lt.2 hd)
    · rw [e1, if_neg fun hc => hdst j d hj hc.1 hdj]
      exact tm.done d j (by rw [n1] at hd; exact hd) hj hdj
    · rw [e1, e2, ← tm.n]
      split
      · rfl
      · exact tm.else_ d hno
  · have := ar.dr
    rw [(AAct.put_defers _ _ _).1, (AAct.put_defers _ _ _).2] at this ⊢
    exact this
  · have hlt := hL j (by simp [hj])
    have h1 := h.off j (by simp [hj]) hf
    cases e : ρ' (base + j) with
    | none => rfl
    | some k => have := went.moved.new (base + j) (by rw [e]; simp) h1; omega
  · have hlt := hL j (by simp [hj])
    exact went.grows.2 _ (.inl (by omega)) (h.gap j (by simp [hj]))
  · refine Moved.trans (mid := s.next) (by omega) (by omega) (fun id h1 _ => fr0 id h1) (fun id hid hn => ?_) h.moved m2
    rw [beside_right (h.stay id hid hn)]
    unfold Go.AM.early
    rw [if_neg]
    rintro ⟨h1, h2⟩
    have := hL _ (h.sub _ h2)
    omega
  · exact Stay.trans (by omega) hgrow h.stay went.grows.2

end Go.AM
