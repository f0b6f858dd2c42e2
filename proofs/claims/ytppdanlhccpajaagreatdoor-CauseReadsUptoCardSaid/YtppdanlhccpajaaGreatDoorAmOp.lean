/- One operation: what the abstract machine says of it, the model does. -/
import Derived.Test.YtppdanlhccpajaaGreatDoorAmMem4
import Derived.Test.YtppdanlhccpajaaGreatDoorAmMem8
import Derived.Test.YtppdanlhccpajaaGreatDoorAmMem11
set_option linter.unusedSimpArgs false
set_option linter.unusedVariables false
set_option linter.unusedSectionVars false
namespace Go.AM

variable {p : Program} {ρ : Emb} {I : Fix}

theorem mapOpt_ev {t : ATmps} {a : Act} (h : TR ρ I t a.tmps) : ∀ (xs : List Operand) (vs : List AV), mapOpt (aeval t) xs = some vs → VRL ρ I vs (xs.map a.eval)
  | [], vs, e => by simp [mapOpt] at e; subst e; exact VRL.nil
  | x :: xs, vs, e => by
    simp only [mapOpt, Option.bind_eq_bind, Option.bind_eq_some_iff] at e
    obtain ⟨v, hv, vs', hvs, e⟩ := e
    simp only [Option.some.injEq] at e; subst e
    exact VRL.cons (aeval_sound h hv) (mapOpt_ev h xs vs' hvs)

theorem PR.nil : PR ρ I [] [] := ⟨rfl, fun _ _ _ h => by simp at h⟩
theorem PR.cons {i : Nat} {a : AV} {v : Value} {as : List (Nat × AV)} {vs : List (Nat × Value)} (h : VR ρ I a v) (hs : PR ρ I as vs) : PR ρ I ((i, a) :: as) ((i, v) :: vs) :=
  ⟨by simp [hs.1], fun j x y hx hy => by
    cases j with
    | zero => simp at hx hy; subst hx; subst hy; exact ⟨rfl, h⟩
    | succ j => exact hs.2 j x y (by simpa using hx) (by simpa using hy)⟩

theorem mapOpt_parts {t : ATmps} {a : Act} (h : TR ρ I t a.tmps) : ∀ (xs : List (Nat × Operand)) (vs : List (Nat × AV)),
    mapOpt (fun (i, x) => (aeval t x).map fun v => (i, v)) xs = some vs → PR ρ I vs (xs.map fun (i, x) => (i, a.eval x))
  | [], vs, e => by simp [mapOpt] at e; subst e; exact PR.nil
  | (i, x) :: xs, vs, e => by
    simp only [mapOpt, Option.bind_eq_bind, Option.bind_eq_some_iff, Option.map_eq_some_iff] at e
    obtain ⟨iv, ⟨v, hv, rfl⟩, vs', hvs, e⟩ := e
    simp only [Option.some.injEq] at e; subst e
    exact PR.cons (aeval_sound h hv) (mapOpt_parts h xs vs' hvs)

def ARes.hi (s : AS) : ARes → Nat
  | .val _ s' => s'.next
  | .skip s' => s'.next
  | _ => s.next

/-- What is owed for a result. -/
def OpOk (p : Program) (ρ : Emb) (I : Fix) (s : AS) (w : World) (m : Sem Next) : ARes → Prop
  | .val v s' => s.next ≤ s'.next ∧ Stay s.next s'.next s.get s'.get ∧ ∃ x w' ρ' I', m.run p w = .ok (.value x) w' ∧ Moved ρ I s.get w s.next s'.next ρ' I' s'.get w' ∧ VR ρ' I' v x
  | .skip s' => s.next ≤ s'.next ∧ Stay s.next s'.next s.get s'.get ∧ ∃ w' ρ' I', m.run p w = .ok .skip w' ∧ Moved ρ I s.get w s.next s'.next ρ' I' s'.get w'
  | .enter f args => ∃ vs : Array Value, m.run p w = .ok (.enter f vs) w ∧ VRL ρ I args vs.toList
  | .defer f args => ∃ (d : Deferred) (vs : Array Value), m.run p w = .ok (.defer d) w ∧ (∃ fv cap, d.target = .fn fv cap) ∧ (∀ w, (invoke d.target d.args).run p w = .ok (.enter f vs) w) ∧ VRL ρ I args vs.toList
  | .yield y args => ∃ (h : Home) (vs : Array Value), ρ y = some h ∧ m.run p w = (Instr.yield h.block vs).run p w ∧ VRL ρ I args vs.toList
  | .recover => m.run p w = .ok .recover w

theorem OpOk.v {s s' : AS} {w : World} {sem : Sem Value} {v : AV} (h : ValOk p ρ I s w sem v s') : OpOk p ρ I s w (do pure (.value (← sem))) (.val v s') := by
  obtain ⟨h1, h2, x, w', ρ', I', hr, hm, hv⟩ := h
  exact ⟨h1, h2, x, w', ρ', I', by simp [hr], hm, hv⟩

theorem OpOk.s {s : AS} {w : World} {sem : Sem Value} {v : AV} (sr : SR ρ I s.get w) (h : ∃ y, sem.run p w = .ok y w ∧ VR ρ I v y) : OpOk p ρ I s w (do pure (.value (← sem))) (.val v s) := by
  obtain ⟨y, hy, hv⟩ := h
  exact OpOk.v (ValOk.same sr hy hv)

theorem OpOk.u {s s' : AS} {w : World} {sem : Sem Unit} (h : s'.next = s.next ∧ Stay s.next s.next s.get s'.get ∧ ∃ w', sem.run p w = .ok () w' ∧ Moved ρ I s.get w s.next s.next ρ I s'.get w') : OpOk p ρ I s w (do sem; pure .skip) (.skip s') := by
  obtain ⟨h1, h2, w', hr, hm⟩ := h
  refine ⟨by omega, by rw [h1]; exact h2, w', ρ, I, by simp [hr], by rw [h1]; exact hm⟩

theorem callee_sound {v : AV} {x : Value} {args as : List AV} {argv : Array Value} {g : FuncId} (h : callee (AProg.of p) v args = some (g, as)) (hx : VR ρ I v x) (ha : VRL ρ I args argv.toList) (w : World) :
    ∃ (d : Deferred) (vs : Array Value), (Deferred.ofValue x argv).run p w = .ok d w ∧ (∃ fv cap, d.target = .fn fv cap) ∧ (∀ w, (invoke d.target d.args).run p w = .ok (.enter g vs) w) ∧ VRL ρ I as vs.toList := by
  unfold callee at h
  split at h
  case h_2 => cases h
  rename_i f first captured
  split at h
  case h_2 => cases h
  rename_i fn hfn
  split at h
  case isFalse => cases h
  rename_i hb
  cases h
  cases hx with
  | func _ _ _ vs ws _ hl hm hv hw =>
    refine ⟨_, vs ++ argv ++ ws, rfl, ⟨_, _, rfl⟩, fun w => ?_, ?_⟩
    · have hf := AProg.fn_of hfn
      have h1 : ¬ fn.name = "runtime.NumGoroutine" := hb.2
      cases e : fn.body with
      | none => rw [e] at hb; simp at hb
      | some _ => simp [invoke, callFunc, hf, h1, e]
    · simp only [Array.toList_append]
      exact (VRL.append (VRL.append ⟨by simpa using hl, fun i c x h k => hv i c x h (by simpa using k)⟩ ha) ⟨by simpa using hm, fun i c x h k => hw i c x h (by simpa using k)⟩)

theorem VRL.single {x : AV} {l : Array Value} (h : VRL ρ I [x] l.toList) : ∃ y, l = #[y] ∧ VR ρ I x y := by
  obtain ⟨y, r, he, hx, hr⟩ := h.inv_cons
  have := hr.inv_nil; subst this
  exact ⟨y, by apply Array.ext'; simpa using he, hx⟩
theorem VRL.two {x y : AV} {l : Array Value} (h : VRL ρ I [x, y] l.toList) : ∃ a b, l = #[a, b] ∧ VR ρ I x a ∧ VR ρ I y b := by
  obtain ⟨a, r, he, hx, hr⟩ := h.inv_cons
  obtain ⟨b, r2, he2, hy, hr2⟩ := hr.inv_cons
  have := hr2.inv_nil; subst this; subst he2
  exact ⟨a, b, by apply Array.ext'; simpa using he, hx, hy⟩

theorem VR.nilIface_inv {x : Value} (h : VR ρ I .nilIface x) : x = .nilIface := by cases h; rfl
theorem run_equal_nil {xt : TypeId} {ms : Array (String × TypeId)} {w : World} (hms : p.underlying xt = some (.interface ms)) : ∀ D, (Op.equalIn (D + 1) xt .nilIface .nilIface).run p w = .ok true w := by
  intro D
  simp [Op.equalIn, run_underlying' hms]

theorem nilLit_inv {t : TypeId} {x y : Operand} {a b : AV} (h : nilLit (AProg.of p) t x y a b = true) :
    a = .nilIface ∧ b = .nilIface ∧ (∃ ms, p.underlying t = some (.interface ms)) ∧ ((∃ c, x = .const c) ∨ ∃ c, y = .const c) := by
  unfold nilLit at h
  split at h
  case h_2 => cases h
  rw [Bool.and_eq_true, Bool.or_eq_true] at h
  refine ⟨rfl, rfl, ?_, ?_⟩
  · have h := h.1
    split at h
    · rename_i i hi
      obtain ⟨f, _, _, _, hk, _⟩ := ti_info hi
      split at h
      · rename_i b hb
        rw [hk] at hb
        obtain ⟨ms, hms, _⟩ := kind_iface hb
        exact ⟨ms, hms⟩
      · cases h
    · cases h
  · rcases h.2 with h | h
    · split at h
      · exact .inl ⟨_, rfl⟩
      · cases h
    · split at h
      · exact .inr ⟨_, rfl⟩
      · cases h

theorem optOp {t : ATmps} {a : Act} (tr : TR ρ I t a.tmps) {x : Option Operand} {v : Option AV}
    (h : aopt t x = some v) : VRO ρ I v (x.map a.eval) := by
  cases x with
  | none => simp [aopt] at h; subst h; trivial
  | some x =>
    simp only [aopt, Option.map_eq_some_iff] at h
    obtain ⟨v, hv, rfl⟩ := h
    exact aeval_sound tr hv

set_option maxHeartbeats 4000000 in
theorem evOp_sound {t : ATmps} {s : AS} {o : Oper} {r : ARes} {a : Act} {w : World} (h : evOp (AProg.of p) t s o = some r) (tr : TR ρ I t a.tmps) (sr : SR ρ I s.get w)
    (hfree : ∀ id, s.next ≤ id → id < r.hi s → ρ id = none) : OpOk p ρ I s w (execOp a.eval o) r := by
  unfold evOp at h
  simp only at h
  unfold execOp
  simp only
  split at h
  · rename_i x ho
    simp only [ho]
    simp only [Option.map_eq_some_iff] at h
    obtain ⟨v, hv, rfl⟩ := h
    exact ⟨Nat.le_refl _, Stay.refl _ _ _, _, w, ρ, I, rfl, Moved.refl sr, aeval_sound tr hv⟩
  · rename_i x ho
    simp only [ho]
    simp only [Option.map_eq_some_iff] at h
    obtain ⟨v, hv, rfl⟩ := h
    exact ⟨Nat.le_refl _, Stay.refl _ _ _, _, w, ρ, I, rfl, Moved.refl sr, aeval_sound tr hv⟩
  · rename_i c x y ho
    simp only [ho]
    simp only [Option.bind_eq_bind, Option.bind_eq_some_iff] at h
    obtain ⟨b, hb, h⟩ := h
    have hvb := aeval_sound tr hb
    clear hb
    split at h
    case h_2 => cases h
    rename_i c1
    simp only [Option.map_eq_some_iff] at h
    obtain ⟨v, hv, rfl⟩ := h
    rw [hvb.bool_inv]
    cases c1
    · exact ⟨Nat.le_refl _, Stay.refl _ _ _, _, w, ρ, I, by simp [asBool], Moved.refl sr, aeval_sound tr hv⟩
    · exact ⟨Nat.le_refl _, Stay.refl _ _ _, _, w, ρ, I, by simp [asBool], Moved.refl sr, aeval_sound tr hv⟩
  · rename_i e ho
    simp only [ho]
    simp only [Option.bind_eq_bind, Option.bind_eq_some_iff] at h
    obtain ⟨j, hj, z, hz, h⟩ := h
    split at h
    case isTrue => cases h
    rename_i hlen
    cases h
    obtain ⟨f, x, hf, hfz, hzx⟩ := zero_of (ρ := ρ) (I := I) hj hz
    have hn : ρ s.next = none := hfree s.next (Nat.le_refl _) (by show s.next < s.next + 1; omega)
    obtain ⟨hr, hm⟩ := alloc_var (p := p) sr hn (t := e) hzx
    exact OpOk.v ⟨by simp [AS.next_new], stay_new _ _, _, _, _, _, by simp [Instr.alloc, run_zeroValue' hf hfz, hr], hm, ptr_new _ _ _ _⟩
  · rename_i e x ho
    simp only [ho]
    simp only [Option.bind_eq_bind, Option.bind_eq_some_iff] at h
    obtain ⟨v, hv, h⟩ := h
    cases h
    have hn : ρ s.next = none := hfree s.next (Nat.le_refl _) (by show s.next < s.next + 1; omega)
    obtain ⟨hr, hm⟩ := alloc_var (p := p) sr hn (t := e) (aeval_sound tr hv)
    exact OpOk.v ⟨by simp [AS.next_new], stay_new _ _, _, _, _, _, by simp [Instr.box, hr], hm, ptr_new _ _ _ _⟩
  · rename_i ty parts ho
    simp only [ho]
    simp only [Option.bind_eq_bind, Option.bind_eq_some_iff, Option.map_eq_some_iff] at h
    obtain ⟨ps, hps, v, hv, rfl⟩ := h
    have := mapOpt_parts tr _ _ hps
    exact OpOk.s sr (abuild_sound hv (by simpa using this))
  · rename_i ty len parts ho
    simp only [ho]
    simp only [Option.bind_eq_bind, Option.bind_eq_some_iff, Option.map_eq_some_iff] at h
    obtain ⟨ps, hps, ⟨v, s'⟩, hv, rfl⟩ := h
    have := mapOpt_parts tr _ _ hps
    exact OpOk.v (abuildSlice_sound hv sr (by simpa using this) hfree)
  · rename_i ty x ho
    simp only [ho]
    simp only [Option.bind_eq_bind, Option.bind_eq_some_iff, Option.map_eq_some_iff] at h
    obtain ⟨b, hb, v, hv, rfl⟩ := h
    exact OpOk.s sr (aload_sound hv sr (aeval_sound tr hb))
  · rename_i ty x y ho
    simp only [ho]
    simp only [Option.bind_eq_bind, Option.bind_eq_some_iff, Option.map_eq_some_iff] at h
    obtain ⟨b, hb, c, hc, s', hs, rfl⟩ := h
    exact OpOk.u (astore_sound hs sr (aeval_sound tr hb) (aeval_sound tr hc))
  · rename_i x ho
    simp only [ho]
    simp only [Option.bind_eq_bind, Option.bind_eq_some_iff] at h
    obtain ⟨b, hb, h⟩ := h
    have hvb := aeval_sound tr hb
    clear hb
    generalize a.eval x = av at hvb
    split at h
    · cases h
      refine ⟨Nat.le_refl _, Stay.refl _ _ _, av, w, ρ, I, ?_, Moved.refl sr, hvb⟩
      cases hvb; simp
    · cases h
      refine ⟨Nat.le_refl _, Stay.refl _ _ _, av, w, ρ, I, ?_, Moved.refl sr, hvb⟩
      cases hvb; simp
    · cases h
      refine ⟨Nat.le_refl _, Stay.refl _ _ _, av, w, ρ, I, ?_, Moved.refl sr, hvb⟩
      cases hvb; simp
    · cases h
  · rename_i op xt x y pos ho
    simp only [ho]
    simp only [Option.bind_eq_bind, Option.bind_eq_some_iff] at h
    obtain ⟨b, hb, c, hc, h⟩ := h
    have hb := aeval_sound tr hb
    have hc := aeval_sound tr hc
    split at h
    · rename_i hnl
      obtain ⟨rfl, rfl, ⟨ms, hms⟩, hconst⟩ := nilLit_inv hnl
      have hx : a.eval x = .nilIface := hb.nilIface_inv
      have hy : a.eval y = .nilIface := hc.nilIface_inv
      rw [hx, hy]
      have hg : ∀ op, (eqGuard op xt x y .nilIface .nilIface).run p w = .ok () w := by
        intro op
        rcases hconst with ⟨c, rfl⟩ | ⟨c, rfl⟩ <;> cases op <;> simp [eqGuard]
      have heq : (Op.equal xt .nilIface .nilIface).run p w = .ok true w := run_equal_nil hms 9999
      split at h
      · cases h
        exact ⟨Nat.le_refl _, Stay.refl _ _ _, .bool true, w, ρ, I, by simp [hg, binOp, heq], Moved.refl sr, .bool _⟩
      · cases h
        exact ⟨Nat.le_refl _, Stay.refl _ _ _, .bool false, w, ρ, I, by simp [hg, binOp, heq], Moved.refl sr, .bool _⟩
      · cases h
    · simp only [Option.map_eq_some_iff] at h
      obtain ⟨v, hv, rfl⟩ := h
      have hg := run_eqGuard (p := p) (x := x) (y := y) (w := w) hv hb hc
      obtain ⟨z, hz, hvz⟩ := abin_sound hv sr hb hc
      exact ⟨Nat.le_refl _, Stay.refl _ _ _, z, w, ρ, I, by simp [hg, hz], Moved.refl sr, hvz⟩
  · rename_i op ty x ho
    simp only [ho]
    simp only [Option.bind_eq_bind, Option.bind_eq_some_iff, Option.map_eq_some_iff] at h
    obtain ⟨b, hb, v, hv, rfl⟩ := h
    exact OpOk.s sr (aun_sound hv (aeval_sound tr hb) w)
  · rename_i t1 t2 x ho
    simp only [ho]
    simp only [Option.bind_eq_bind, Option.bind_eq_some_iff, Option.map_eq_some_iff] at h
    obtain ⟨b, hb, v, hv, rfl⟩ := h
    exact OpOk.v (aconvert_sound hv sr (aeval_sound tr hb))
  · rename_i t1 x ho
    simp only [ho]
    simp only [Option.bind_eq_bind, Option.bind_eq_some_iff, Option.map_eq_some_iff] at h
    obtain ⟨b, hb, v, hv, rfl⟩ := h
    exact OpOk.s sr (amakeInterface_sound hv (aeval_sound tr hb))
  · rename_i fn first captured ho
    simp only [ho]
    simp only [Option.bind_eq_bind, Option.bind_eq_some_iff] at h
    obtain ⟨b, hb, c, hc, h⟩ := h
    split at h
    · cases h
    rename_i hfn
    cases h
    have hb := mapOpt_ev tr _ _ hb
    have hc := mapOpt_ev tr _ _ hc
    refine OpOk.s sr ⟨.func fn (first.map a.eval) (captured.map a.eval), rfl, .func _ _ _ _ _ ?_ ?_ ?_ ?_ ?_⟩
    · intro l e; exact hfn l e
    · simpa using hb.1
    · simpa using hc.1
    · intro i c x h1 h2; exact hb.2 i c x h1 (by simpa using h2)
    · intro i c x h1 h2; exact hc.2 i c x h1 (by simpa using h2)
  · rename_i ty r ho
    simp only [ho]
    split at h
    · cases h
    · cases h
      have hn : ρ s.next = none := hfree s.next (Nat.le_refl _) (by show s.next < s.next + 1; omega)
      refine OpOk.v ⟨by simp [AS.next_new], stay_new _ _, _, _, _, _, by simp [Instr.makeMap, newObj]; rfl, Moved.alloc sr hn (.map []) (.map #[] 0) ⟨w.heap.size, 0, 0, 0⟩ rfl sr.fix_lt ?_, .map _ _ (Emb.add_self _ _ _)⟩
      exact ⟨#[], 0, by simp, rfl, by simp⟩
  · rename_i ty l c ho
    simp only [ho]
    simp only [Option.bind_eq_bind, Option.bind_eq_some_iff, Option.map_eq_some_iff] at h
    obtain ⟨b, hb, d, hd, ⟨v, s'⟩, hv, rfl⟩ := h
    exact OpOk.v (amakeSlice_sound hv sr (aeval_sound tr hb) (aeval_sound tr hd) hfree)
  · rename_i ty x lo hi mx ho
    simp only [ho]
    simp only [Option.bind_eq_bind, Option.bind_eq_some_iff, Option.map_eq_some_iff] at h
    obtain ⟨lo1, hlo, hi1, hhi, mx1, hmx, b, hb, v, hv, rfl⟩ := h
    exact OpOk.s sr (aslice_sound hv (aeval_sound tr hb) (optOp tr hlo) (optOp tr hhi) (optOp tr hmx) w)
  · rename_i ty x f ho
    simp only [ho]
    simp only [Option.bind_eq_bind, Option.bind_eq_some_iff, Option.map_eq_some_iff] at h
    obtain ⟨b, hb, v, hv, rfl⟩ := h
    exact OpOk.s sr (afieldAddr_sound hv (aeval_sound tr hb) w)
  · rename_i ty x f ho
    simp only [ho]
    simp only [Option.bind_eq_bind, Option.bind_eq_some_iff, Option.map_eq_some_iff] at h
    obtain ⟨b, hb, v, hv, rfl⟩ := h
    exact OpOk.s sr (afield_sound hv (aeval_sound tr hb) w)
  · rename_i ty x i ho
    simp only [ho]
    simp only [Option.bind_eq_bind, Option.bind_eq_some_iff, Option.map_eq_some_iff] at h
    obtain ⟨b, hb, c, hc, v, hv, rfl⟩ := h
    exact OpOk.s sr (aindexAddr_sound hv (aeval_sound tr hb) (aeval_sound tr hc) w)
  · rename_i ty x i ho
    simp only [ho]
    simp only [Option.bind_eq_bind, Option.bind_eq_some_iff, Option.map_eq_some_iff] at h
    obtain ⟨b, hb, c, hc, v, hv, rfl⟩ := h
    exact OpOk.s sr (aindex_sound hv (aeval_sound tr hb) (aeval_sound tr hc) w)
  · rename_i ty x i ok ho
    simp only [ho]
    simp only [Option.bind_eq_bind, Option.bind_eq_some_iff, Option.map_eq_some_iff] at h
    obtain ⟨b, hb, c, hc, v, hv, rfl⟩ := h
    exact OpOk.s sr (alookup_sound hv sr (aeval_sound tr hb) (aeval_sound tr hc))
  · rename_i ty m k x ho
    simp only [ho]
    simp only [Option.bind_eq_bind, Option.bind_eq_some_iff, Option.map_eq_some_iff] at h
    obtain ⟨b, hb, c, hc, d, hd, s', hs, rfl⟩ := h
    exact OpOk.u (amapUpdate_sound hs sr (aeval_sound tr hb) (aeval_sound tr hc) (aeval_sound tr hd))
  · rename_i ty m k x ho
    simp only [ho]
    simp only [Option.bind_eq_bind, Option.bind_eq_some_iff, Option.map_eq_some_iff] at h
    obtain ⟨b, hb, c, hc, d, hd, s', hs, rfl⟩ := h
    exact OpOk.u (amapUpdate_sound hs sr (aeval_sound tr hb) (aeval_sound tr hc) (aeval_sound tr hd))
  · rename_i x xt ty ok ho
    simp only [ho]
    simp only [Option.bind_eq_bind, Option.bind_eq_some_iff, Option.map_eq_some_iff] at h
    obtain ⟨b, hb, v, hv, rfl⟩ := h
    exact OpOk.s sr (atypeAssert_sound hv (aeval_sound tr hb))
  · rename_i x i ho
    simp only [ho]
    simp only [Option.bind_eq_bind, Option.bind_eq_some_iff] at h
    obtain ⟨b, hb, h⟩ := h
    have hvb := aeval_sound tr hb
    clear hb
    split at h
    case h_2 => cases h
    rename_i vs
    simp only [Option.map_eq_some_iff] at h
    obtain ⟨v, hv, rfl⟩ := h
    obtain ⟨ws, hw, hl⟩ := VR.tuple_iff.1 hvb
    rw [hw]
    obtain ⟨y, hy, hvy⟩ := hl.at hv
    have hy' : ws[i]? = some y := by simpa using hy
    exact OpOk.s sr ⟨y, by simp [Instr.extract, hy'], hvy⟩
  · rename_i c ho
    simp only [ho]
    simp only [Option.bind_eq_bind, Option.bind_eq_some_iff] at h
    obtain ⟨args, hargs, h⟩ := h
    have hargs := mapOpt_ev tr _ _ hargs
    rw [← Array.toList_map] at hargs
    split at h
    · rename_i f hcal
      simp only [Option.bind_eq_some_iff] at h
      obtain ⟨fv, hf, h⟩ := h
      have hfv := aeval_sound tr hf
      clear hf
      simp only [resolve, hcal]
      split at h
      · rename_i y
        cases h
        cases e : a.eval f with
        | func fn vs ws =>
          rw [e] at hfv
          cases hfv with
          | func _ _ _ _ _ hfn => exact absurd rfl (hfn y)
          | yield _ hm hh => exact ⟨hm, c.args.map a.eval, hh, by simp [Deferred.ofValue, invoke], hargs⟩
        | _ => rw [e] at hfv; cases hfv
      · simp only [Option.bind_eq_some_iff] at h
        obtain ⟨⟨g, as⟩, hg, h⟩ := h
        cases h
        obtain ⟨d, vs, h1, _, h2, h3⟩ := callee_sound hg hfv hargs w
        exact ⟨vs, by simp [h1, h2], h3⟩
    · rename_i hcal
      simp only [resolve, hcal]
      split at h
      case h_2 => cases h
      rename_i x
      simp only [Option.map_eq_some_iff] at h
      obtain ⟨v, hv, rfl⟩ := h
      obtain ⟨y, hy, hvy⟩ := hargs.single
      rw [hy]
      simpa [invoke, builtin] using OpOk.s sr (alenOp_sound (ty := o.type) hv sr hvy)
    · rename_i hcal
      simp only [resolve, hcal]
      split at h
      case h_2 => cases h
      rename_i x
      simp only [Option.map_eq_some_iff] at h
      obtain ⟨v, hv, rfl⟩ := h
      obtain ⟨y, hy, hvy⟩ := hargs.single
      rw [hy]
      simpa [invoke, builtin] using OpOk.s sr (acapOp_sound (ty := o.type) (w := w) hv hvy)
    · rename_i hcal
      simp only [resolve, hcal]
      split at h
      case h_2 => cases h
      rename_i x y
      split at h
      case isFalse => cases h
      rename_i h2
      simp only [Option.map_eq_some_iff] at h
      obtain ⟨⟨v, s'⟩, hv, rfl⟩ := h
      obtain ⟨xv, yv, hy, hvx, hvy⟩ := hargs.two
      rw [hy]
      simpa [invoke, builtin] using OpOk.v (aappend_sound (ty := o.type) hv sr hvx hvy hfree h2)
    · rename_i hcal
      simp only [resolve, hcal]
      simp only [Option.map_eq_some_iff] at h
      obtain ⟨v, hv, rfl⟩ := h
      have := aminmax_sound (p := p) (ats := c.argTypes) (ty := o.type) (w := w) hv hargs
      simpa [invoke, builtin] using OpOk.s sr this
    · rename_i hcal
      simp only [resolve, hcal]
      simp only [Option.map_eq_some_iff] at h
      obtain ⟨v, hv, rfl⟩ := h
      have := aminmax_sound (p := p) (ats := c.argTypes) (ty := o.type) (w := w) hv hargs
      simpa [invoke, builtin] using OpOk.s sr this
    · rename_i hcal
      simp only [resolve, hcal]
      cases h
      simp [OpOk, invoke, builtin]
    · cases h
  · rename_i c ho
    simp only [ho]
    simp only [Option.bind_eq_bind, Option.bind_eq_some_iff] at h
    obtain ⟨args, hargs, h⟩ := h
    have hargs := mapOpt_ev tr _ _ hargs
    rw [← Array.toList_map] at hargs
    split at h
    case h_2 => cases h
    rename_i f hcal
    simp only [Option.bind_eq_some_iff] at h
    obtain ⟨fv, hf, ⟨g, as⟩, hg, h⟩ := h
    cases h
    simp only [resolve, hcal]
    obtain ⟨d, vs, h1, h0, h2, h3⟩ := callee_sound hg (aeval_sound tr hf) hargs w
    exact ⟨d, vs, by simp [h1], h0, h2, h3⟩
  · cases h

end Go.AM
