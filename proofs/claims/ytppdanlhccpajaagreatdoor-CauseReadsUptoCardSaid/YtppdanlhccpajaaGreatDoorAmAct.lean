/- Activations, and one operation within the calculus. -/
import Derived.Test.YtppdanlhccpajaaGreatDoorAmOp
import Derived.RangeFuncCalls
import Derived.OrdersIn
set_option linter.unusedSimpArgs false
set_option linter.unusedVariables false
set_option linter.unusedSectionVars false
namespace Go.AM

variable {p : Program} {b : Nat} {ρ : Emb} {I : Fix}

def fen (ro : Option Nat) : Fence := { Fence.wide with round := ro }

/-- Deferred calls, and the marks of loops that came to their end. -/
inductive DR (p : Program) (b : Nat) (ρ : Emb) (I : Fix) : List (FuncId × List AV) → Nat → List Deferred → Prop
  | nil : DR p b ρ I [] 0 []
  | mark (l : List (FuncId × List AV)) (m : Nat) (ds : List Deferred) (D : Nat) (hb : b ≤ D) (hI : I D = some (.deferred (some []))) (hn : ∀ d ∈ ds, d.target ≠ .collected D) (h : DR p b ρ I l m ds) :
      DR p b ρ I l (m + 1) ({ target := .collected D, args := #[] } :: ds)
  | cons (f : FuncId) (args : List AV) (l : List (FuncId × List AV)) (m : Nat) (d : Deferred) (ds : List Deferred) (vs : Array Value)
      (ht : ∃ fv cap, d.target = .fn fv cap) (hd : ∀ w, (invoke d.target d.args).run p w = .ok (.enter f vs) w) (hv : VRL ρ I args vs.toList) (h : DR p b ρ I l m ds) : DR p b ρ I ((f, args) :: l) m (d :: ds)

structure AR (p : Program) (b : Nat) (ρ : Emb) (I : Fix) (a : AAct) (c : Act) : Prop where
  tr : TR ρ I a.tmps c.tmps
  dr : DR p b ρ I a.defers a.marks c.defers

/-- What is not made yet is embedded nowhere, and is no object. -/
def Fresh (ρ : Emb) (s : AS) : Prop := (∀ id, s.next ≤ id → ρ id = none) ∧ ∀ id, s.next ≤ id → s.get id = none

/-- What the surroundings know of embedding and pins, and go on knowing. -/
def Keeps (Z : Emb → Fix → Prop) : Prop := ∀ ρ I ρ' I', Ext ρ ρ' → (∀ b o, I b = some o → I' b = some o) → Z ρ I → Z ρ' I'

def Grows (s s' : AS) : Prop := s.next ≤ s'.next ∧ Stay s.next s'.next s.get s'.get

theorem Grows.refl (s : AS) : Grows s s := ⟨Nat.le_refl _, Stay.refl _ _ _⟩
theorem Grows.trans {s s1 s2 : AS} (a : Grows s s1) (b : Grows s1 s2) : Grows s s2 := ⟨Nat.le_trans a.1 b.1, Stay.trans a.1 b.1 a.2 b.2⟩

/-- A step's way from state to state. -/
structure Went (ρ : Emb) (I : Fix) (s : AS) (w : World) (s' : AS) (ρ' : Emb) (I' : Fix) (w' : World) : Prop where
  grows : Grows s s'
  moved : Moved ρ I s.get w s.next s'.next ρ' I' s'.get w'

theorem Went.refl {s : AS} {w : World} (sr : SR ρ I s.get w) : Went ρ I s w s ρ I w := ⟨Grows.refl _, Moved.refl sr⟩

theorem Went.trans {s s1 s2 : AS} {w w1 w2 : World} {ρ1 ρ2 : Emb} {I1 I2 : Fix} (fr : Fresh ρ s) (a : Went ρ I s w s1 ρ1 I1 w1) (b : Went ρ1 I1 s1 w1 s2 ρ2 I2 w2) : Went ρ I s w s2 ρ2 I2 w2 :=
  ⟨a.grows.trans b.grows, Moved.trans a.grows.1 b.grows.1 (fun id h _ => fr.1 id h) a.grows.2 a.moved b.moved⟩

theorem Went.sr {s s' : AS} {w w' : World} {ρ' : Emb} {I' : Fix} (m : Went ρ I s w s' ρ' I' w') : SR ρ' I' s'.get w' := m.moved.sr

def Owed (p : Program) (ρ : Emb) (I : Fix) (s s' : AS) (w : World) (v : AV) (e : Ending) (w' : World) : Prop :=
  ∃ x ρ' I', e = .returned x ∧ Went ρ I s w s' ρ' I' w' ∧ VR ρ' I' v x

def CallOk (p : Program) (Z : Emb → Fix → Prop) (call : CallF) : Prop := ∀ f args s v s', call f args s = some (v, s') →
    ∀ (ρ : Emb) (I : Fix) (w : World) (vs : Array Value), SR ρ I s.get w → Fresh ρ s → Z ρ I → VRL ρ I args vs.toList → Calls p f vs w (Owed p ρ I s s' w v)

def YieldOk (p : Program) (Z : Emb → Fix → Prop) (yh : YieldF) : Prop := ∀ y args s v s', yh y args s = some (v, s') →
    ∀ (ρ : Emb) (I : Fix) (w : World) (h : Home) (vs : Array Value), ρ y = some h → SR ρ I s.get w → Fresh ρ s → Z ρ I → VRL ρ I args vs.toList →
      ∃ l f tmps assign body, (Instr.yield h.block vs).run p w = .ok (.round l f tmps assign body) w ∧
        ∀ n, RoundIn Fence.wide n p l f tmps assign body w (Owed p ρ I s s' w v)

theorem DR.mono {ρ' : Emb} {I' : Fix} (hρ : Ext ρ ρ') (hI : ∀ b o, I b = some o → I' b = some o) {l : List (FuncId × List AV)} {m : Nat} {ds : List Deferred} (h : DR p b ρ I l m ds) : DR p b ρ' I' l m ds := by
  induction h with
  | nil => exact .nil
  | mark l m ds D hb hD hn h ih => exact .mark l m ds D hb (hI _ _ hD) hn ih
  | cons f args l m d ds vs ht hd hv h ih => exact .cons f args l m d ds vs ht hd (hv.mono hρ (fun b _ _ _ h => hI b _ h)) ih

theorem AR.mono {ρ' : Emb} {I' : Fix} (hρ : Ext ρ ρ') (hI : ∀ b o, I b = some o → I' b = some o) {a : AAct} {c : Act} (h : AR p b ρ I a c) : AR p b ρ' I' a c :=
  ⟨h.tr.mono hρ (fun b _ _ _ h => hI b _ h), h.dr.mono hρ hI⟩

theorem AR.put {a : AAct} {c : Act} (h : AR p b ρ I a c) (d : Option Tmp) {v : AV} {x : Value} (hv : VR ρ I v x) : AR p b ρ I (a.put d v) (c.put d x) := by
  cases d with
  | none => exact h
  | some d => exact ⟨h.tr.set d hv, h.dr⟩

theorem Moved.ar {H H' : Nat → Option AObj} {w w' : World} {lo hi : Nat} {ρ' : Emb} {I' : Fix} (m : Moved ρ I H w lo hi ρ' I' H' w') {a : AAct} {c : Act} (h : AR p b ρ I a c) : AR p b ρ' I' a c :=
  h.mono m.ext m.fix

theorem Moved.fresh {H H' : Nat → Option AObj} {w w' : World} {lo hi : Nat} {ρ' : Emb} {I' : Fix} (m : Moved ρ I H w lo hi ρ' I' H' w') (hle : lo ≤ hi) (h : ∀ id, lo ≤ id → ρ id = none) : ∀ id, hi ≤ id → ρ' id = none := fun id hid => by
  cases e : ρ' id with
  | none => rfl
  | some k => have := m.new id (by rw [e]; simp) (h id (by omega)); omega

/-- An operation that stands in no round, or is no defer statement. -/
def noDeferOp (o : Oper) : Bool := match o.op with | .defer _ => false | _ => true

theorem semAt_fen {ro : Option Nat} {o : Oper} (h : ro = none ∨ noDeferOp o = true) (f : Operand → Value) : o.semAt ro f = execOp f o := by
  rcases h with rfl | h
  · rfl
  · apply Oper.semAt_eq
    intro c e
    simp [noDeferOp, e] at h

theorem calls_fen {ro : Option Nat} {n : Nat} {f : FuncId} {args : Array Value} {w : World} {R : Ending → World → Prop} (h : Calls p f args w R) : CallsIn (fen ro) n p f args w R :=
  (callsIn_wide (n := n)).2 h
theorem round_fen {ro : Option Nat} {n : Nat} {l : Nat} {f : FuncId} {tmps : Array Value} {assign body : Code} {w : World} {R : Ending → World → Prop} (h : RoundIn Fence.wide n p l f tmps assign body w R) :
    RoundIn (fen ro) n p l f tmps assign body w R := h

theorem VR.bool_of {v : AV} {b : Bool} (h : VR ρ I v (.bool b)) : v = .bool b := by cases h; rfl

theorem ayielded_eq {ops : Array Oper} {t : ATmps} {tmps : Array Value} (h : TR ρ I t tmps) (j : Nat) : yielded ops tmps j = ayielded ops.toList t j := by
  unfold ayielded yielded
  have e : ops.toList[j]? = ops[j]? := by simp
  rw [e]
  cases hd : (ops[j]?).bind (·.dst) with
  | none => rfl
  | some d =>
    simp only [Option.bind_some]
    have hv := h.at_ d
    rw [Array.getD_eq_getD_getElem?] at hv
    cases hx : tmps[d]? with
    | none =>
      rw [hx] at hv
      cases hg : t.get d with
      | bool b => rw [hg] at hv; cases hv
      | _ => rfl
    | some x =>
      rw [hx] at hv
      simp only [Option.getD_some] at hv
      cases x with
      | bool b => rw [hv.bool_of]
      | _ =>
        cases hg : t.get d with
        | bool b => rw [hg] at hv; cases hv
        | _ => rfl

theorem awanted_eq {ops : Array Oper} {t : ATmps} {tmps : Array Value} (h : TR ρ I t tmps) (o : Oper) : Region.wanted o (yielded ops tmps) = awanted ops.toList t o := by
  unfold Region.wanted awanted
  cases hg : o.guard with
  | none => rfl
  | some jw =>
    obtain ⟨j, want⟩ := jw
    simp only [ayielded_eq h j]
    cases ayielded ops.toList t j with
    | none => rfl
    | some b => cases b <;> cases want <;> rfl

/-- One operation, within the calculus. -/
theorem opOk_wpIn {ro : Option Nat} {n : Nat} {o : Oper} {c : Act} {s : AS} {w : World} {r : ARes} {Q : Exit → Act → World → Prop} {K : Act → World → Prop}
    (hro : ro = none ∨ noDeferOp o = true) (ok : OpOk p ρ I s w (execOp c.eval o) r) (hv : ∀ v s', r = .val v s' → ∀ x w' ρ' I', Moved ρ I s.get w s.next s'.next ρ' I' s'.get w' → VR ρ' I' v x → K (c.put o.dst x) w')
    (hs : ∀ s', r = .skip s' → ∀ w' ρ' I', Moved ρ I s.get w s.next s'.next ρ' I' s'.get w' → K (c.put o.dst undef) w')
    (he : ∀ f args, r = .enter f args → ∀ vs : Array Value, VRL ρ I args vs.toList → Calls p f vs w (fun e w' => ∃ x, e = .returned x ∧ K (c.put o.dst x) w'))
    (hd : ∀ f args, r = .defer f args → ro = none → ∀ (d : Deferred) (vs : Array Value), (∃ fv cap, d.target = .fn fv cap) → (∀ w, (invoke d.target d.args).run p w = .ok (.enter f vs) w) → VRL ρ I args vs.toList → K ({ c with defers := d :: c.defers }.put o.dst undef) w)
    (hy : ∀ y args, r = .yield y args → ∀ (h : Home) (vs : Array Value), ρ y = some h → VRL ρ I args vs.toList → ∃ l f tmps assign body, (Instr.yield h.block vs).run p w = .ok (.round l f tmps assign body) w ∧
        ∀ n, RoundIn Fence.wide n p l f tmps assign body w (fun e w' => ∃ x, e = .returned x ∧ K (c.put o.dst x) w'))
    (hr : r ≠ .recover) (hdef : ∀ f args, r = .defer f args → ∃ c, o.op = .defer c) : o.wpIn (fen ro) n p c w K Q := by
  refine ⟨fun _ _ => trivial, ?_⟩
  rw [show (fen ro).round = ro from rfl, semAt_fen hro]
  cases r with
  | val v s' =>
    obtain ⟨_, _, x, w', ρ', I', hrun, hm, hvx⟩ := ok
    rw [hrun]
    exact hv v s' rfl x w' ρ' I' hm hvx
  | skip s' =>
    obtain ⟨_, _, w', ρ', I', hrun, hm⟩ := ok
    rw [hrun]
    exact hs s' rfl w' ρ' I' hm
  | enter f args =>
    obtain ⟨vs, hrun, hl⟩ := ok
    rw [hrun]
    refine ⟨(fun h => by simp [fen, Fence.wide] at h), calls_fen (Calls.mono (he f args rfl vs hl) ?_)⟩
    rintro e w' ⟨x, rfl, hk⟩
    exact hk
  | defer f args =>
    obtain ⟨d, vs, hrun, htar, hinv, hl⟩ := ok
    rw [hrun]
    have : ro = none := by
      rcases hro with h | h
      · exact h
      · obtain ⟨c, hc⟩ := hdef f args rfl
        simp [noDeferOp, hc] at h
    exact hd f args rfl this d vs htar hinv hl
  | yield y args =>
    obtain ⟨h, vs, hy1, hrun, hl⟩ := ok
    obtain ⟨l, f, tmps, assign, body, hrun2, hround⟩ := hy y args rfl h vs hy1 hl
    rw [hrun, hrun2]
    refine ⟨(fun h => by simp [fen, Fence.wide] at h), round_fen (RoundIn.mono (hround _) ?_)⟩
    rintro e w' ⟨x, rfl, hk⟩
    exact hk
  | recover => exact absurd rfl hr

theorem evOp_defer {P : AProg} {t : ATmps} {s : AS} {o : Oper} {f : FuncId} {args : List AV} (h : evOp P t s o = some (.defer f args)) : ∃ c, o.op = .defer c := by
  cases ho : o.op with
  | defer c => exact ⟨c, rfl⟩
  | call c =>
    exfalso
    simp only [evOp, ho, Option.bind_eq_bind, Option.bind_eq_some_iff] at h
    obtain ⟨args, _, h⟩ := h
    split at h
    · simp only [Option.bind_eq_some_iff] at h
      obtain ⟨fv, _, h⟩ := h
      split at h
      · cases h
      · simp only [Option.bind_eq_some_iff] at h
        obtain ⟨⟨g, as⟩, _, h⟩ := h
        cases h
    all_goals first
      | (cases h; done)
      | (simp only [Option.map_eq_some_iff] at h; obtain ⟨_, _, h⟩ := h; cases h; done)
      | (split at h
         · first
           | (simp only [Option.map_eq_some_iff] at h; obtain ⟨_, _, h⟩ := h; cases h; done)
           | (split at h
              · simp only [Option.map_eq_some_iff] at h; obtain ⟨_, _, h⟩ := h; cases h
              · cases h)
         · cases h)
  | pick c x y =>
    exfalso
    simp only [evOp, ho, Option.bind_eq_bind, Option.bind_eq_some_iff] at h
    obtain ⟨_, _, h⟩ := h
    split at h
    · simp only [Option.map_eq_some_iff] at h; obtain ⟨_, _, h⟩ := h; cases h
    · cases h
  | extract x i =>
    exfalso
    simp only [evOp, ho, Option.bind_eq_bind, Option.bind_eq_some_iff] at h
    obtain ⟨_, _, h⟩ := h
    split at h
    · simp only [Option.map_eq_some_iff] at h; obtain ⟨_, _, h⟩ := h; cases h
    · cases h
  | binOp op xt x y yt =>
    exfalso
    cases op
    all_goals
      simp only [evOp, ho, Option.bind_eq_bind, Option.bind_eq_some_iff] at h
      obtain ⟨_, _, _, _, h⟩ := h
      split at h
      · first
        | (cases h; done)
        | (simp only [Option.map_eq_some_iff] at h; obtain ⟨_, _, h⟩ := h; cases h)
      · simp only [Option.map_eq_some_iff] at h; obtain ⟨_, _, h⟩ := h; cases h
  | _ =>
    exfalso
    simp only [evOp, ho, Option.bind_eq_bind, Option.bind_eq_some_iff, Option.map_eq_some_iff] at h
    first
      | (cases h; done)
      | (obtain ⟨_, _, h⟩ := h; cases h; done)
      | (obtain ⟨_, _, _, _, h⟩ := h; cases h; done)
      | (obtain ⟨_, _, _, _, _, _, h⟩ := h; cases h; done)
      | (obtain ⟨_, _, _, _, _, _, _, _, h⟩ := h; cases h; done)
      | (obtain ⟨_, _, _, _, _, _, _, _, _, _, h⟩ := h; cases h; done)
      | (obtain ⟨_, _, h⟩ := h; split at h <;> first | (cases h; done) | (obtain ⟨_, _, h⟩ := h; cases h; done))
      | (obtain ⟨_, _, _, _, h⟩ := h; split at h <;> first | (cases h; done) | (obtain ⟨_, _, h⟩ := h; cases h; done) | (split at h <;> first | (cases h; done) | (obtain ⟨_, _, h⟩ := h; cases h; done)))
      | (split at h <;> first | (cases h; done) | (obtain ⟨_, _, h⟩ := h; cases h; done))

theorem Went.ar {s s' : AS} {w w' : World} {ρ' : Emb} {I' : Fix} (m : Went ρ I s w s' ρ' I' w') {a : AAct} {c : Act} (h : AR p b ρ I a c) : AR p b ρ' I' a c := m.moved.ar h
theorem Went.lb {s s' : AS} {w w' : World} {ρ' : Emb} {I' : Fix} (m : Went ρ I s w s' ρ' I' w') (h : b ≤ w.heap.size) : b ≤ w'.heap.size := Nat.le_trans h m.moved.size
theorem Went.fresh {s s' : AS} {w w' : World} {ρ' : Emb} {I' : Fix} (m : Went ρ I s w s' ρ' I' w') (h : Fresh ρ s) : Fresh ρ' s' :=
  ⟨m.moved.fresh m.grows.1 h.1, fun id hid => m.grows.2 id (.inr hid) (h.2 id (Nat.le_trans m.grows.1 hid))⟩
theorem Went.z {Z : Emb → Fix → Prop} (hZ : Keeps Z) {s s' : AS} {w w' : World} {ρ' : Emb} {I' : Fix} (m : Went ρ I s w s' ρ' I' w') (h : Z ρ I) : Z ρ' I' := hZ _ _ _ _ m.moved.ext m.moved.fix h

/-- What one step of an activation owes. -/
def StepOk (p : Program) (Z : Emb → Fix → Prop) (a : AAct) (s : AS) (a' : AAct) (s' : AS) (wp : (Act → World → Prop) → (Exit → Act → World → Prop) → Act → World → Prop) : Prop :=
  ∀ (b : Nat) (ρ : Emb) (I : Fix) (c : Act) (w : World), AR p b ρ I a c → SR ρ I s.get w → Fresh ρ s → Z ρ I → ∀ (K : Act → World → Prop) (Q : Exit → Act → World → Prop),
      (∀ ρ' I' c' w', Went ρ I s w s' ρ' I' w' → AR p b ρ' I' a' c' → K c' w') → wp K Q c w

theorem step1_sound {Z : Emb → Fix → Prop} {call : CallF} {yh : YieldF} {a a' : AAct} {s s' : AS} {o : Oper} {ro : Option Nat} {n : Nat} (h : step1 (AProg.of p) call yh a s o = some (a', s'))
    (hc : CallOk p (fun _ _ => True) call) (hy : YieldOk p Z yh) (hro : ro = none ∨ noDeferOp o = true) :
    StepOk p Z a s a' s' (fun K Q c w => o.wpIn (fen ro) n p c w K Q) := by
  intro b ρ I c w ar sr fr hz K Q hk
  unfold step1 at h
  cases e : evOp (AProg.of p) a.tmps s o with
  | none => rw [e] at h; cases h
  | some r =>
    rw [e] at h
    have ok := evOp_sound e ar.tr sr (fun id h1 _ => fr.1 id h1)
    cases r with
    | val v s1 =>
      cases h
      refine opOk_wpIn hro ok (fun v' s2 e2 x w' ρ' I' hm hv => ?_) (by rintro _ ⟨⟩) (by rintro _ _ ⟨⟩) (by rintro _ _ ⟨⟩) (by rintro _ _ ⟨⟩) (by rintro ⟨⟩) (by rintro _ _ ⟨⟩)
      cases e2
      exact hk ρ' I' _ w' ⟨⟨ok.1, ok.2.1⟩, hm⟩ ((hm.ar ar).put _ hv)
    | skip s1 =>
      cases h
      refine opOk_wpIn hro ok (by rintro _ _ ⟨⟩) (fun s2 e2 w' ρ' I' hm => ?_) (by rintro _ _ ⟨⟩) (by rintro _ _ ⟨⟩) (by rintro _ _ ⟨⟩) (by rintro ⟨⟩) (by rintro _ _ ⟨⟩)
      cases e2
      exact hk ρ' I' _ w' ⟨⟨ok.1, ok.2.1⟩, hm⟩ ((hm.ar ar).put _ VR.undef)
    | enter f args =>
      simp only at h
      cases e2 : call f args s with
      | none => rw [e2] at h; cases h
      | some vs =>
        obtain ⟨v, s1⟩ := vs
        rw [e2] at h; cases h
        refine opOk_wpIn hro ok (by rintro _ _ ⟨⟩) (by rintro _ ⟨⟩) (fun f2 args2 e3 vs hl => ?_) (by rintro _ _ ⟨⟩) (by rintro _ _ ⟨⟩) (by rintro ⟨⟩) (by rintro _ _ ⟨⟩)
        cases e3
        refine Calls.mono (hc f args s v s' e2 ρ I w vs sr fr trivial hl) ?_
        rintro e4 w' ⟨x, ρ', I', rfl, hm, hv⟩
        exact ⟨x, rfl, hk ρ' I' _ w' hm ((hm.ar ar).put _ hv)⟩
    | yield y args =>
      simp only at h
      cases e2 : yh y args s with
      | none => rw [e2] at h; cases h
      | some vs =>
        obtain ⟨v, s1⟩ := vs
        rw [e2] at h; cases h
        refine opOk_wpIn hro ok (by rintro _ _ ⟨⟩) (by rintro _ ⟨⟩) (by rintro _ _ ⟨⟩) (by rintro _ _ ⟨⟩) (fun y2 args2 e3 hm2 vs hyy hl => ?_) (by rintro ⟨⟩) (by rintro _ _ ⟨⟩)
        cases e3
        obtain ⟨l, f, tmps, assign, body, hrun, hround⟩ := hy y args s v s' e2 ρ I w hm2 vs hyy sr fr hz hl
        refine ⟨l, f, tmps, assign, body, hrun, fun n => RoundIn.mono (hround n) ?_⟩
        rintro e4 w' ⟨x, ρ', I', rfl, hm, hv⟩
        exact ⟨x, rfl, hk ρ' I' _ w' hm ((hm.ar ar).put _ hv)⟩
    | defer f args =>
      cases h
      refine opOk_wpIn hro ok (by rintro _ _ ⟨⟩) (by rintro _ ⟨⟩) (by rintro _ _ ⟨⟩) (fun f2 args2 e2 _ d vs htar hinv hl => ?_) (by rintro _ _ ⟨⟩) (by rintro ⟨⟩) (fun f2 args2 e2 => ?_)
      · cases e2
        refine hk ρ I _ w (Went.refl sr) ?_
        exact AR.put (a := { a with defers := (f, args) :: a.defers }) (c := { c with defers := d :: c.defers }) ⟨ar.tr, .cons _ _ _ _ _ _ vs htar hinv hl ar.dr⟩ _ VR.undef
      · exact evOp_defer e
    | recover => cases h

end Go.AM
