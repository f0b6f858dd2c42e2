/- The end of an activation: deferred calls, results; and calls. -/
import Derived.Test.YtppdanlhccpajaaGreatDoorAmCode
import Derived.Recover
import Derived.RangeFuncLeaves
import Derived.RangeFuncRecord
set_option linter.unusedSimpArgs false
set_option linter.unusedVariables false
set_option linter.unusedSectionVars false
namespace Go.AM

variable {p : Program} {b : Nat} {ρ : Emb} {I : Fix}

def resSem (tmps : Array Value) : ResultVar → Sem Value
  | .tmp t => pure (tmps.getD t undef)
  | .cell a t => do loadVar t (← asAddr (tmps.getD a undef))

theorem VR.addr_of {a : AV} {z : Value} {s : AS} {ty : TypeId} {v : AV} (hv : aload (AProg.of p) s ty a = some v) (ha : VR ρ I a z) : ∃ ad, z = .pointer (some ad) := by
  unfold aload at hv
  split at hv
  · cases ha with | ptr _ hm hh => exact ⟨_, rfl⟩
  · cases ha with | iptr => exact ⟨_, rfl⟩
  · cases hv

theorem result_sound {t : ATmps} {tmps : Array Value} {s : AS} {w : World} (tr : TR ρ I t tmps) (sr : SR ρ I s.get w) {r : ResultVar} {v : AV} (hv : results1 (AProg.of p) t s r = some v) :
    ∃ x, (resSem tmps r).run p w = .ok x w ∧ VR ρ I v x := by
  cases r with
  | tmp i =>
    simp only [results1, Option.some.injEq] at hv
    subst hv
    exact ⟨_, rfl, tr.at_ i⟩
  | cell a ty =>
    simp only [results1] at hv
    have ha := tr.at_ a
    obtain ⟨x, hx, hvx⟩ := aload_sound hv sr ha
    refine ⟨x, ?_, hvx⟩
    obtain ⟨ad, had⟩ := VR.addr_of hv ha
    show (do loadVar ty (← asAddr (tmps.getD a undef)) : Sem Value).run p w = _
    rw [had] at hx ⊢
    simpa [Instr.loadAt, Instr.sureAddr, asAddr] using hx

theorem results1_sound {t : ATmps} {tmps : Array Value} {s : AS} {w : World} (tr : TR ρ I t tmps) (sr : SR ρ I s.get w) : ∀ (l : List ResultVar) (vs : List AV), mapOpt (results1 (AProg.of p) t s) l = some vs →
    ∃ xs, (l.mapM (resSem tmps)).run p w = .ok xs w ∧ VRL ρ I vs xs
  | [], vs, h => by simp [mapOpt] at h; subst h; exact ⟨[], rfl, VRL.nil⟩
  | r :: l, vs, h => by
    simp only [mapOpt, Option.bind_eq_bind, Option.bind_eq_some_iff] at h
    obtain ⟨v, hv, vs', hvs, h⟩ := h
    simp only [Option.some.injEq] at h; subst h
    obtain ⟨xs, hxs, hl⟩ := results1_sound tr sr l vs' hvs
    obtain ⟨x, hx, hvx⟩ := result_sound tr sr hv
    refine ⟨x :: xs, ?_, VRL.cons hvx hl⟩
    rw [List.mapM_cons]
    simp only [Sem.run_bind, Sem.run_pure]
    rw [hx]
    simp only [Result.andThen_ok]
    rw [hxs]
    rfl

theorem results_eq (fn : Func) (tmps : Array Value) : results fn tmps = (do
    let vs ← fn.results.mapM (resSem tmps)
    pure (if h : vs.size = 1 then vs[0] else .tuple vs)) := by
  unfold results
  congr 1

theorem results_sound {fn : Func} {t : ATmps} {tmps : Array Value} {s : AS} {w : World} {v : AV} (h : aresults (AProg.of p) fn t s = some v) (tr : TR ρ I t tmps) (sr : SR ρ I s.get w) :
    ∃ x, (results fn tmps).run p w = .ok x w ∧ VR ρ I v x := by
  unfold aresults at h
  simp only [Option.map_eq_some_iff] at h
  obtain ⟨vs, hvs, rfl⟩ := h
  obtain ⟨xs, hxs, hl⟩ := results1_sound tr sr _ _ hvs
  refine ⟨if h : xs.toArray.size = 1 then xs.toArray[0] else .tuple xs.toArray, ?_, ?_⟩
  · rw [results_eq]
    rw [Array.mapM_eq_mapM_toList]
    simp only [Sem.run_bind, Sem.run_map]
    rw [hxs]
    rfl
  · unfold tupled
    split
    · rename_i v
      obtain ⟨x, r, rfl, hx, hr⟩ := hl.inv_cons
      have := hr.inv_nil; subst this
      simpa using hx
    · rename_i hne
      have hsz : ¬ xs.toArray.size = 1 := by
        intro h1
        have h2 : vs.length = 1 := by rw [hl.1]; simpa using h1
        obtain ⟨v, rfl⟩ := List.length_eq_one_iff.1 h2
        exact hne v rfl
      rw [dif_neg hsz]
      exact VR.tuple_iff.2 ⟨_, rfl, by simpa using hl⟩

/-! deferred functions -/
def CodeStepS (p : Program) (a : AAct) (s : AS) (ae : AExit) (a' : AAct) (s' : AS) (wp : (Exit → Act → List Frame → World → Prop) → Act → List Frame → World → Prop) : Prop :=
  ∀ (b : Nat) (ρ : Emb) (I : Fix) (c : Act) (cs : List Frame) (w : World), AR p b ρ I a c → recoverD cs = none → SR ρ I s.get w → Fresh ρ s → ∀ (Q : Exit → Act → List Frame → World → Prop),
      (∀ ρ' I' c' w', Went ρ I s w s' ρ' I' w' → AR p b ρ' I' a' c' → Q ae.exit' c' cs w') → wp Q c cs w

theorem evOpsD_sound {call : CallF} (hc : CallOk p (fun _ _ => True) call) {ops : Array Oper} : ∀ (rest : List Oper) (k : Nat) (a a' : AAct) (s s' : AS), ops.toList.drop k = rest →
    evOpsD (AProg.of p) call ops.toList rest a s = some (a', s') → CodeStepS p a s .normal a' s' (fun Q c cs w => wpOpsS p ops Q (List.range' k rest.length) c cs w)
  | [], k, a, a', s, s', _, h => by
    simp only [evOpsD, Option.some.injEq, Prod.mk.injEq] at h
    obtain ⟨rfl, rfl⟩ := h
    exact fun b ρ I c cs w ar _ sr fr Q hq => hq ρ I c w (Went.refl sr) ar
  | o :: rest, k, a, a', s, s', hd, h => by
    have hk : ops[k]? = some o := by
      have : (ops.toList.drop k)[0]? = some o := by rw [hd]; rfl
      simpa using this
    have hd' : ops.toList.drop (k + 1) = rest := by
      rw [← List.drop_drop, hd]; rfl
    simp only [evOpsD] at h
    intro b ρ I c cs w ar hrec sr fr Q hq
    simp only [List.length_cons, List.range'_succ, wpOpsS, hk]
    rw [awanted_eq ar.tr o]
    split at h
    · rename_i hw
      rw [if_pos hw]
      cases e : stepD (AProg.of p) call a s o with
      | none => rw [e] at h; cases h
      | some r =>
        obtain ⟨a1, s1⟩ := r
        rw [e] at h
        simp only at h
        have next : ∀ ρ1 I1 c1 w1, Went ρ I s w s1 ρ1 I1 w1 → AR p b ρ1 I1 a1 c1 → wpOpsS p ops Q (List.range' (k + 1) rest.length) c1 cs w1 := fun ρ1 I1 c1 w1 m1 ar1 =>
          evOpsD_sound hc rest (k + 1) a1 a' s1 s' hd' h b ρ1 I1 c1 cs w1 ar1 hrec m1.sr (m1.fresh fr) Q fun ρ2 I2 c2 w2 m2 ar2 => hq ρ2 I2 c2 w2 (Went.trans fr m1 m2) ar2
        unfold stepD at e
        cases e2 : evOp (AProg.of p) a.tmps s o with
        | none => rw [e2] at e; cases e
        | some r =>
          rw [e2] at e
          have ok := evOp_sound e2 ar.tr sr (fun id h1 _ => fr.1 id h1)
          cases r with
          | val v s2 =>
            cases e
            obtain ⟨g1, g2, x, w', ρ', I', hrun, hm, hvx⟩ := ok
            rw [hrun]
            exact next ρ' I' _ w' ⟨⟨g1, g2⟩, hm⟩ ((hm.ar ar).put _ hvx)
          | skip s2 =>
            cases e
            obtain ⟨g1, g2, w', ρ', I', hrun, hm⟩ := ok
            rw [hrun]
            exact next ρ' I' _ w' ⟨⟨g1, g2⟩, hm⟩ ((hm.ar ar).put _ VR.undef)
          | enter f args =>
            simp only at e
            cases e3 : call f args s with
            | none => rw [e3] at e; cases e
            | some vs =>
              obtain ⟨v, s2⟩ := vs
              rw [e3] at e; cases e
              obtain ⟨vs, hrun, hl⟩ := ok
              rw [hrun]
              refine Calls.mono (hc f args s v s1 e3 ρ I w vs sr fr trivial hl) ?_
              rintro e4 w' ⟨x, ρ', I', rfl, hm, hv⟩
              exact next ρ' I' _ w' hm ((hm.ar ar).put _ hv)
          | recover =>
            cases e
            have hrun : (execOp c.eval o).run p w = .ok .recover w := ok
            rw [hrun]
            simp only [hrec]
            exact next ρ I _ w (Went.refl sr) (ar.put _ .nilIface)
          | defer f args => cases e
          | yield y args => cases e
    · rename_i hw
      rw [if_neg hw]
      exact evOpsD_sound hc rest (k + 1) _ a' s s' hd' h b ρ I _ cs w (ar.put _ VR.undef) hrec sr fr Q hq

theorem evCodeD_sound {call : CallF} (hc : CallOk p (fun _ _ => True) call) : ∀ (x : Code) (a a' : AAct) (s s' : AS) (ae : AExit), evCodeD (AProg.of p) call x a s = some (ae, a', s') →
    CodeStepS p a s ae a' s' (fun Q c cs w => x.wpS p Q c cs w)
  | .skip, a, a', s, s', ae, h => by
    simp only [evCodeD, Option.some.injEq, Prod.mk.injEq] at h
    obtain ⟨rfl, rfl, rfl⟩ := h
    exact fun b ρ I c cs w ar _ sr fr Q hq => wpS_of_wp (wp_skip (hq ρ I c w (Went.refl sr) ar))
  | .ret, a, a', s, s', ae, h => by
    simp only [evCodeD, Option.some.injEq, Prod.mk.injEq] at h
    obtain ⟨rfl, rfl, rfl⟩ := h
    exact fun b ρ I c cs w ar _ sr fr Q hq => wpS_of_wp (wp_ret (hq ρ I c w (Went.refl sr) ar))
  | .region id ops draw, a, a', s, s', ae, h => by
    simp only [evCodeD] at h
    split at h
    · cases h
    · split at h
      case h_2 => cases h
      rename_i a1 s1 e
      simp only [Option.some.injEq, Prod.mk.injEq] at h
      obtain ⟨rfl, rfl, rfl⟩ := h
      intro b ρ I c cs w ar hrec sr fr Q hq
      refine wpS_region ?_
      rw [List.range_eq_range']
      exact evOpsD_sound hc ops.toList 0 a a1 s s1 rfl e b ρ I c cs w ar hrec sr fr Q hq
  | .seq x y, a, a', s, s', ae, h => by
    simp only [evCodeD] at h
    cases e : evCodeD (AProg.of p) call x a s with
    | none => rw [e] at h; cases h
    | some r =>
      obtain ⟨ae1, a1, s1⟩ := r
      rw [e] at h
      intro b ρ I c cs w ar hrec sr fr Q hq
      refine wpS_seq (evCodeD_sound hc x _ _ _ _ _ e b ρ I c cs w ar hrec sr fr _ fun ρ1 I1 c1 w1 m1 ar1 => ?_)
      cases ae1 with
      | normal => exact evCodeD_sound hc y _ _ _ _ _ h b ρ1 I1 c1 cs w1 ar1 hrec m1.sr (m1.fresh fr) Q fun ρ2 I2 c2 w2 m2 ar2 => hq ρ2 I2 c2 w2 (Went.trans fr m1 m2) ar2
      | exit id =>
        simp only [Option.some.injEq, Prod.mk.injEq] at h
        obtain ⟨rfl, rfl, rfl⟩ := h
        exact hq ρ1 I1 c1 w1 m1 ar1
      | ret =>
        simp only [Option.some.injEq, Prod.mk.injEq] at h
        obtain ⟨rfl, rfl, rfl⟩ := h
        exact hq ρ1 I1 c1 w1 m1 ar1
  | .cond cnd x y, a, a', s, s', ae, h => by
    simp only [evCodeD] at h
    intro b ρ I c cs w ar hrec sr fr Q hq
    split at h
    · rename_i hb
      exact wpS_cond (t := true) ((aeval_sound ar.tr hb).bool_inv) (evCodeD_sound hc x _ _ _ _ _ h b ρ I c cs w ar hrec sr fr Q hq)
    · rename_i hb
      exact wpS_cond (t := false) ((aeval_sound ar.tr hb).bool_inv) (evCodeD_sound hc y _ _ _ _ _ h b ρ I c cs w ar hrec sr fr Q hq)
    · cases h
  | .block _ _, a, a', s, s', ae, h => by simp [evCodeD] at h
  | .loop _, a, a', s, s', ae, h => by simp [evCodeD] at h
  | .exit _, a, a', s, s', ae, h => by simp [evCodeD] at h
  | .rangeFunc .., a, a', s, s', ae, h => by simp [evCodeD] at h
  | .scope _, a, a', s, s', ae, h => by simp [evCodeD] at h
  | .label _, a, a', s, s', ae, h => by simp [evCodeD] at h
  | .goto _, a, a', s, s', ae, h => by simp [evCodeD] at h
  | .refuse _, a, a', s, s', ae, h => by simp [evCodeD] at h

theorem initGo_n : ∀ (args : List AV) (i : Nat) (t : ATmps), (initGo args i t).n = t.n
  | [], _, _ => rfl
  | a :: args, i, t => by rw [initGo, initGo_n args, ATmps.n_set]

theorem initGo_get : ∀ (args : List AV) (i : Nat) (t : ATmps) (j : Nat), i + args.length ≤ t.n → (initGo args i t).get j = if j < i then t.get j else match args[j - i]? with | some v => v | none => t.get j
  | [], i, t, j, _ => by simp [initGo]
  | a :: args, i, t, j, h => by
    simp only [List.length_cons] at h
    rw [initGo, initGo_get args (i + 1) _ j (by rw [ATmps.n_set]; omega), ATmps.get_set]
    by_cases h1 : j < i
    · rw [if_pos (by omega), if_pos h1, if_neg (by omega)]
    · rw [if_neg h1]
      by_cases h2 : j = i
      · subst h2
        rw [if_pos (by omega), if_pos ⟨rfl, by omega⟩]
        simp
      · rw [if_neg (by omega)]
        have h3 : j - i = (j - (i + 1)) + 1 := by omega
        rw [h3, List.getElem?_cons_succ]
        rw [if_neg (by omega)]

theorem initTmps_tr {n : Nat} {args : List AV} {vs : Array Value} (hl : VRL ρ I args vs.toList) : TR ρ I (initTmps n args) (vs ++ Array.replicate (n - vs.size) undef) := by
  have hlen : args.length = vs.size := by rw [hl.1]; simp
  refine ⟨?_, fun j => ?_⟩
  · unfold initTmps
    rw [initGo_n]
    simp [ATmps.new]
    omega
  · unfold initTmps
    rw [initGo_get _ _ _ _ (by simp [ATmps.new]; omega)]
    simp only [Nat.not_lt_zero, if_false, Nat.sub_zero]
    rw [Array.getD_eq_getD_getElem?, Array.getElem?_append]
    split
    · rename_i v hv
      obtain ⟨x, hx, hvx⟩ := hl.at hv
      have hlt : j < vs.size := by
        have := (List.getElem?_eq_some_iff.1 hv).1; omega
      rw [if_pos hlt]
      have : vs[j]? = some x := by simpa using hx
      rw [this]; exact hvx
    · rename_i hv
      have hge : vs.size ≤ j := by
        have := List.getElem?_eq_none_iff.1 hv; omega
      rw [if_neg (by omega)]
      have : (Array.replicate (n - vs.size) undef)[j - vs.size]?.getD undef = undef := by
        rw [Array.getElem?_replicate]
        split <;> rfl
      rw [this, ATmps.get_new]
      exact VR.undef

theorem ar_init {n : Nat} {args : List AV} {vs : Array Value} (hl : VRL ρ I args vs.toList) :
    AR p b ρ I { tmps := initTmps n args, defers := [], marks := 0 } { tmps := vs ++ Array.replicate (n - vs.size) undef, defers := [] } :=
  ⟨initTmps_tr hl, .nil⟩

theorem DR.nil_inv {m : Nat} {ds : List Deferred} (h : DR p b ρ I [] 0 ds) : ds = [] := by cases h; rfl

/-- The deferred calls of an activation that returns. -/
theorem runDefers_sound {call : CallF} (hc : CallOk p (fun _ _ => True) call) {fn : Func} {tmps : Array Value} {R : Ending → World → Prop} : ∀ (l : List (FuncId × List AV)) (ds : List Deferred) (s s' : AS) (ρ : Emb) (I : Fix) (w : World),
    runDefers (AProg.of p) call l s = some s' → DR p b ρ I l 0 ds → SR ρ I s.get w → Fresh ρ s →
      (∀ ρ' I' w', Went ρ I s w s' ρ' I' w' → ∃ v, (results fn tmps).run p w' = .ok v w' ∧ R (.returned v) w') → Leaves p fn tmps R ds .returning w
  | [], ds, s, s', ρ, I, w, h, dr, sr, fr, hk => by
    simp only [runDefers, Option.some.injEq] at h
    subst h
    have := DR.nil_inv (m := 0) dr
    subst this
    exact hk ρ I w (Went.refl sr)
  | (f, args) :: l, ds, s, s', ρ, I, w, h, dr, sr, fr, hk => by
    cases dr with
    | cons _ _ _ _ d ds vs ht hd hv dr =>
      simp only [runDefers] at h
      split at h
      case h_2 => cases h
      rename_i fd hfd
      split at h
      case h_2 => cases h
      rename_i c hbody
      split at h
      case h_2 => cases h
      rename_i a1 s1 e
      split at h
      case h_2 => cases h
      rename_i v1 hres
      obtain ⟨fv, cap, htar⟩ := ht
      refine ⟨by simp, fv, cap, f, vs, htar, hd w, ?_⟩
      refine callsD_of_wpS (AProg.fn_of hfd) hbody fun c₀ cs hu => ?_
      have hrec : recoverD (c₀ :: cs) = none := by simp [recoverD, hu]
      -- how it came to its end
      have hend : ∃ ae, evCodeD (AProg.of p) call c { tmps := initTmps fd.ntmps args, defers := [], marks := 0 } s = some (ae, a1, s1) ∧ (ae = .normal ∨ ae = .ret) ∧ a1.defers = [] ∧ a1.marks = 0 := by
        generalize evCodeD (AProg.of p) call c { tmps := initTmps fd.ntmps args, defers := [], marks := 0 } s = r at e
        unfold endsD at e
        split at e
        · split at e
          · rename_i hcond
            simp only [Option.some.injEq, Prod.mk.injEq] at e
            obtain ⟨rfl, rfl⟩ := e
            rw [Bool.and_eq_true] at hcond
            exact ⟨_, rfl, .inl rfl, by simpa using hcond.1, Nat.eq_of_beq_eq_true hcond.2⟩
          · cases e
        · split at e
          · rename_i hcond
            simp only [Option.some.injEq, Prod.mk.injEq] at e
            obtain ⟨rfl, rfl⟩ := e
            rw [Bool.and_eq_true] at hcond
            exact ⟨_, rfl, .inr rfl, by simpa using hcond.1, Nat.eq_of_beq_eq_true hcond.2⟩
          · cases e
        · cases e
      obtain ⟨ae, he, hae, hdef, hmk⟩ := hend
      refine evCodeD_sound hc c _ _ _ _ _ he b ρ I _ (c₀ :: cs) w (ar_init hv) hrec sr fr _ fun ρ1 I1 c1 w1 m1 ar1 => ?_
      have hc1 : c1.defers = [] := by
        have := ar1.dr
        rw [hdef, hmk] at this
        exact DR.nil_inv (m := 0) this
      obtain ⟨x, hx, _⟩ := results_sound hres ar1.tr m1.sr
      have hrest : Leaves p fn tmps R ds (settle .returning) w1 :=
        runDefers_sound hc l ds s1 s' ρ1 I1 w1 h (dr.mono m1.moved.ext m1.moved.fix) m1.sr (m1.fresh fr) fun ρ2 I2 w2 m2 => hk ρ2 I2 w2 (Went.trans fr m1 m2)
      rcases hae with rfl | rfl
      · exact ⟨hc1, .returning, by rw [← hu], x, hx, hrest⟩
      · exact ⟨hc1, .returning, by rw [← hu], x, hx, hrest⟩

/-! marks -/
def Fix.drop (I : Fix) (D : Nat) : Fix := fun x => if x = D then none else I x

theorem DR.drop {D : Nat} : ∀ {m : Nat} {ds : List Deferred}, DR p b ρ I [] m ds → (∀ d ∈ ds, d.target ≠ .collected D) → DR p b ρ (I.drop D) [] m ds := by
  intro m ds h
  generalize hl : ([] : List (FuncId × List AV)) = l at h
  induction h with
  | nil => intro _; exact .nil
  | mark l m ds D' hb hI hn h ih =>
    intro hd
    subst hl
    have hne : D' ≠ D := fun e => hd _ (List.mem_cons_self ..) (by rw [e])
    exact .mark [] m ds D' hb (by simp [Fix.drop, hne, hI]) hn (ih rfl fun d hd' => hd d (List.mem_cons_of_mem _ hd'))
  | cons f args l m d ds vs ht hd hv h ih => cases hl

theorem Went.take {s0 s : AS} {w0 w : World} {ρ0 : Emb} {I0 : Fix} {D : Nat} (sr0 : SR ρ0 I0 s0.get w0) (m : Went ρ0 I0 s0 w0 s ρ I w) {o0 : Obj} (o1 : Obj) (hD : I D = some o0) (hnc : ∀ c e f, o0 ≠ .cells c e f) (hb : w0.heap.size ≤ D) :
    Went ρ0 I0 s0 w0 s ρ (I.drop D) (w.putObj D o1) := by
  have sr := m.sr
  have hlt : D < w.heap.size := (Array.getElem?_eq_some_iff.1 (sr.fix _ _ hD)).1
  have hother : ∀ x, x ≠ D → (w.putObj D o1).heap[x]? = w.heap[x]? := fun x hx => by
    simp [World.putObj, Array.getElem?_setIfInBounds, Ne.symm hx]
  have hle : FixLe I (I.drop D) := fun x c e f h => by
    have : x ≠ D := fun he => by subst he; rw [hD] at h; cases h; exact hnc _ _ _ rfl
    simp [Fix.drop, this, h]
  refine ⟨m.grows, ⟨⟨?_, ?_, sr.apart, ?_⟩, m.moved.ext, m.moved.new, ?_, ?_, m.moved.home, ?_, ?_, m.moved.os, m.moved.tape, m.moved.output⟩⟩
  · intro x o h
    have hx : x ≠ D := fun e => by subst e; simp [Fix.drop] at h
    rw [hother x hx]
    exact sr.fix x o (by simpa [Fix.drop, hx] using h)
  · intro id h o hr ho
    have hx : h.block ≠ D := fun e => by
      have := sr.free id h hr (by rw [ho]; simp)
      rw [e, hD] at this; cases this
    exact (sr.obj id h o hr ho).mono (Ext.refl _) hle (hother _ hx)
  · intro id h hr hl
    have := sr.free id h hr hl
    simp only [Fix.drop]
    split
    · rfl
    · exact this
  · intro x o h
    have hx : x ≠ D := fun e => by
      have := (Array.getElem?_eq_some_iff.1 (sr0.fix x o h)).1
      omega
    simp only [Fix.drop, if_neg hx]
    exact m.moved.fix x o h
  · intro x h h0
    refine m.moved.newfix x ?_ h0
    intro e
    apply h
    simp only [Fix.drop]
    split
    · rfl
    · exact e
  · intro x hx hf
    rw [hother x (by omega)]
    exact m.moved.frame x hx hf
  · simp only [World.putObj, Array.size_setIfInBounds]
    exact m.moved.size

theorem leaves_marks {fn : Func} {tmps : Array Value} {R : Ending → World → Prop} {s0 s : AS} {w0 : World} {ρ0 : Emb} {I0 : Fix} (sr0 : SR ρ0 I0 s0.get w0) {n : Nat} :
    ∀ (m : Nat) (ds : List Deferred) (ρ : Emb) (I : Fix) (w : World), DR p w0.heap.size ρ I [] m ds → Went ρ0 I0 s0 w0 s ρ I w →
      (∀ I' w', FixLe I I' → Went ρ0 I0 s0 w0 s ρ I' w' → ∃ v, (results fn tmps).run p w' = .ok v w' ∧ R (.returned v) w') → LeavesInM Fence.wide n p fn tmps R ds .returning w := by
  intro m
  induction m with
  | zero =>
    intro ds ρ I w h hw hk
    have := DR.nil_inv (m := 0) h
    subst this
    exact hk I w (FixLe.refl _) hw
  | succ m ih =>
    intro ds ρ I w h hw hk
    cases h with
    | mark _ _ ds D hb hI hn h =>
      refine ⟨by simp, .inl ⟨D, w.putObj D (.deferred none), rfl, run_takeDeferred (hw.sr.fix _ _ hI), ?_⟩⟩
      refine ih ds ρ (I.drop D) _ (h.drop hn) (Went.take sr0 hw _ hI (by simp) hb) fun I' w' hle hw' => hk I' w' (FixLe.trans (fun x c e f h => ?_) hle) hw'
      have : x ≠ D := fun e => by subst e; rw [hI] at h; cases h
      simp [Fix.drop, this, h]

/-- One call, its callees by an evaluator that is sound. -/
noncomputable def evCall1 (P : AProg) (fuel : Nat) (call : CallY) : CallY := fun yh f args s =>
    match P.fn f with
    | some fn =>
      match fn.body with
      | some c =>
        match evCode P call fuel yh c { tmps := initTmps fn.ntmps args, defers := [], marks := 0 } s with
        | some (.normal, a, s) => leave P (call fun _ _ _ => none) fn a s
        | some (.ret, a, s) => leave P (call fun _ _ _ => none) fn a s
        | _ => none
      | none => none
    | none => none

theorem evCall_succ (P : AProg) (fuel n : Nat) : evCall P fuel (n + 1) = evCall1 P fuel (evCall P fuel n) := rfl

theorem evCall1_sound (hd : DrawSound p) (hr : RangeSound p) (hok : ∀ (f : FuncId) (fn : Func) (c : Code), p.funcs[f]? = some fn → fn.body = some c → codeOk c = true) (fuel : Nat) {call : CallY} (ih : CallsOk p call) :
    CallsOk p (evCall1 (AProg.of p) fuel call) := fun Z yh hZ hy f args s v s' h => by
    have hnone : CallOk p (fun _ _ => True) (call fun _ _ _ => none) := ih _ _ keeps_true yieldOk_none
    intro ρ I w vs sr fr hz hl
    simp only [evCall1] at h
    split at h
    case h_2 => cases h
    rename_i fn hfn
    split at h
    case h_2 => cases h
    rename_i c hbody
    have hf := AProg.fn_of hfn
    have main : ∃ ae a s1, (ae = .normal ∨ ae = .ret) ∧ evCode (AProg.of p) call fuel yh c { tmps := initTmps fn.ntmps args, defers := [], marks := 0 } s = some (ae, a, s1) ∧
        leave (AProg.of p) (call fun _ _ _ => none) fn a s1 = some (v, s') := by
      split at h
      · rename_i a s1 e; exact ⟨_, a, s1, .inl rfl, e, h⟩
      · rename_i a s1 e; exact ⟨_, a, s1, .inr rfl, e, h⟩
      · cases h
    obtain ⟨ae, a, s1, hae, he, hleave⟩ := main
    have hcode := evCode_sound hd hr ih fuel c (hok f fn c hf hbody) Z hZ yh hy none 0 (.inl rfl) _ _ _ _ _ he w.heap.size ρ I _ w (ar_init hl) (Nat.le_refl _) sr fr hz
    unfold leave at hleave
    split at hleave
    case isFalse => cases hleave
    rename_i hcond
    split at hleave
    case h_2 => cases hleave
    rename_i s2 hrun
    split at hleave
    case h_2 => cases hleave
    rename_i v2 hres
    simp only [Option.some.injEq, Prod.mk.injEq] at hleave
    obtain ⟨rfl, rfl⟩ := hleave
    by_cases hm : a.marks = 0
    · refine calls_of_wp_defers hf hbody (wpIn_wide (n := 0)|>.1 (hcode (bodyPostD p fn (Owed p ρ I s s2 w v2)) fun ρ1 I1 c1 w1 m1 ar1 => ?_))
      have hdr : DR p w.heap.size ρ1 I1 a.defers 0 c1.defers := by have := ar1.dr; rwa [hm] at this
      have : Leaves p fn c1.tmps (Owed p ρ I s s2 w v2) c1.defers .returning w1 :=
        runDefers_sound hnone a.defers c1.defers s1 s2 ρ1 I1 w1 hrun hdr m1.sr (m1.fresh fr) fun ρ2 I2 w2 m2 => by
          obtain ⟨x, hx, hv⟩ := results_sound hres (m2.ar ar1).tr m2.sr
          exact ⟨x, hx, x, ρ2, I2, rfl, Went.trans fr m1 m2, hv⟩
      rcases hae with rfl | rfl <;> exact this
    · have hdef : a.defers = [] := by
        rw [Bool.or_eq_true] at hcond
        rcases hcond with h | h
        · exact absurd (Nat.eq_of_beq_eq_true h) hm
        · simpa using h
      rw [hdef] at hrun
      simp only [runDefers, Option.some.injEq] at hrun
      subst hrun
      refine (callsIn_wide (n := 0)).1 (callsIn_of_wp_marks hf hbody trivial (hcode (bodyPostM Fence.wide 0 p fn (Owed p ρ I s s1 w v2)) fun ρ1 I1 c1 w1 m1 ar1 => ?_))
      have hdr : DR p w.heap.size ρ1 I1 [] a.marks c1.defers := by have := ar1.dr; rwa [hdef] at this
      have : LeavesInM Fence.wide 0 p fn c1.tmps (Owed p ρ I s s1 w v2) c1.defers .returning w1 :=
        leaves_marks sr a.marks c1.defers ρ1 I1 w1 hdr m1 fun I' w' hle m2 => by
          obtain ⟨x, hx, hv⟩ := results_sound hres (ar1.tr.mono (Ext.refl _) hle) m2.sr
          exact ⟨x, hx, x, ρ1, I', rfl, m2, hv⟩
      rcases hae with rfl | rfl <;> exact this

/-- Calls. -/
theorem evCall_sound (hd : DrawSound p) (hr : RangeSound p) (hok : ∀ (f : FuncId) (fn : Func) (c : Code), p.funcs[f]? = some fn → fn.body = some c → codeOk c = true) (fuel : Nat) :
    ∀ n, CallsOk p (evCall (AProg.of p) fuel n)
  | 0 => fun Z yh hZ hy f args s v s' h => by simp [evCall] at h
  | n + 1 => by rw [evCall_succ]; exact evCall1_sound hd hr hok fuel (evCall_sound hd hr hok fuel n)

end Go.AM
