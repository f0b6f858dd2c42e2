/- Code: what the abstract machine says of it, the model does. -/
import Derived.Test.YtppdanlhccpajaaGreatDoorAmRegion
import Derived.RangeFuncIn
set_option linter.unusedSimpArgs false
set_option linter.unusedVariables false
set_option linter.unusedSectionVars false
namespace Go.AM

variable {p : Program}

def noDefers (ops : Array Oper) : Prop := ∀ o ∈ ops.toList, noDeferOp o = true

/-- What is owed for regions that draw their order (proved in AmDraw). -/
def DrawSound (p : Program) : Prop := ∀ (Z : Emb → Fix → Prop), Keeps Z → ∀ (call : CallF) (yh : YieldF), CallOk p (fun _ _ => True) call → YieldOk p Z yh →
  ∀ (ops : Array Oper) (ro : Option Nat) (n id : Nat) (a a' : AAct) (s s' : AS), drawOk ops = true → (ro = none ∨ noDefers ops) →
    evDraw (AProg.of p) call yh ops.toList (Region.before ops).toList s.next (canon ops) [] a { s with next := s.next + ops.size } = some (a', s') →
    CodeStep p Z a s .normal a' s' (fun Q c w => (Code.region id ops true).wpIn (fen ro) n p Q c w)

abbrev CallY := YieldF → CallF

def CallsOk (p : Program) (call : CallY) : Prop := ∀ (Z : Emb → Fix → Prop) (yh : YieldF), Keeps Z → YieldOk p Z yh → CallOk p Z (call yh)

def CodeSound (p : Program) (call : CallY) (fuel : Nat) (x : Code) : Prop := ∀ (Z : Emb → Fix → Prop), Keeps Z → ∀ (yh : YieldF), YieldOk p Z yh → ∀ (ro : Option Nat) (n : Nat), (ro = none ∨ plainCode x = true) →
  ∀ (a a' : AAct) (s s' : AS) (ae : AExit), evCode (AProg.of p) call fuel yh x a s = some (ae, a', s') → CodeStep p Z a s ae a' s' (fun Q c w => x.wpIn (fen ro) n p Q c w)

/-- What is owed for ranges over functions (proved in AmRange). -/
def RangeSound (p : Program) : Prop := ∀ (call : CallY) (fuel : Nat) (f : Operand) (params : Array Tmp) (assign body : Code), CallsOk p call → CodeSound p call fuel assign → CodeSound p call fuel body →
  plainCode assign = true → plainCode body = true → ∀ (Z : Emb → Fix → Prop), Keeps Z → ∀ (yh : YieldF), YieldOk p Z yh → ∀ (n : Nat) (a a' : AAct) (s s' : AS) (ae : AExit),
    evCode (AProg.of p) call fuel yh (.rangeFunc f params assign body) a s = some (ae, a', s') → CodeStep p Z a s ae a' s' (fun Q c w => (Code.rangeFunc f params assign body).wpIn (fen none) n p Q c w)

theorem keeps_true : Keeps (fun _ _ => True) := fun _ _ _ _ _ _ _ => trivial
theorem yieldOk_none {Z : Emb → Fix → Prop} : YieldOk p Z (fun _ _ _ => none) := fun _ _ _ _ _ h => by cases h

theorem noDeferOp_of {o : Oper} (h : (match o.op with | .defer _ => false | _ => true) = true) : noDeferOp o = true := h

theorem loop_sound {call : CallY} {fuel : Nat} {x : Code} (hx : CodeSound p call fuel x) {Z : Emb → Fix → Prop} (hZ : Keeps Z) {yh : YieldF} (hy : YieldOk p Z yh) {ro : Option Nat} {n : Nat} (hro : ro = none ∨ plainCode x = true) :
    ∀ (m : Nat) (a a' : AAct) (s s' : AS) (ae : AExit), loopN (evCode (AProg.of p) call fuel yh x) m a s = some (ae, a', s') →
      CodeStep p Z a s ae a' s' (fun Q c w => Code.roundsIn (fen ro) n p x Q m c w) ∧ ae ≠ .normal
  | 0, a, a', s, s', ae, h => by simp [loopN] at h
  | m + 1, a, a', s, s', ae, h => by
    simp only [loopN] at h
    cases e : evCode (AProg.of p) call fuel yh x a s with
    | none => rw [e] at h; cases h
    | some r =>
      obtain ⟨ae1, a1, s1⟩ := r
      rw [e] at h
      cases ae1 with
      | normal =>
        simp only at h
        obtain ⟨h2, hne⟩ := loop_sound hx hZ hy hro m a1 a' s1 s' ae h
        exact ⟨CodeStep.seq hZ (hx Z hZ yh hy ro n hro _ _ _ _ _ e) h2 (fun Q c w h => by rw [roundsIn_succ]; exact h), hne⟩
      | exit id =>
        simp only [Option.some.injEq, Prod.mk.injEq] at h
        obtain ⟨rfl, rfl, rfl⟩ := h
        refine ⟨fun b ρ I c w ar hb sr fr hz Q hq => ?_, by simp⟩
        show Code.wpIn (fen ro) n p x _ c w
        exact hx Z hZ yh hy ro n hro _ _ _ _ _ e b ρ I c w ar hb sr fr hz _ hq
      | ret =>
        simp only [Option.some.injEq, Prod.mk.injEq] at h
        obtain ⟨rfl, rfl, rfl⟩ := h
        refine ⟨fun b ρ I c w ar hb sr fr hz Q hq => ?_, by simp⟩
        show Code.wpIn (fen ro) n p x _ c w
        exact hx Z hZ yh hy ro n hro _ _ _ _ _ e b ρ I c w ar hb sr fr hz _ hq

theorem evCode_sound (hd : DrawSound p) (hr : RangeSound p) {call : CallY} (hc : CallsOk p call) (fuel : Nat) : ∀ (x : Code), codeOk x = true → CodeSound p call fuel x
  | .skip, _ => fun Z hZ yh hy ro n hro a a' s s' ae h => by
    simp only [evCode, Option.some.injEq, Prod.mk.injEq] at h
    obtain ⟨rfl, rfl, rfl⟩ := h
    exact CodeStep.refl fun Q c w h => wpIn_skip h
  | .exit id, _ => fun Z hZ yh hy ro n hro a a' s s' ae h => by
    simp only [evCode, Option.some.injEq, Prod.mk.injEq] at h
    obtain ⟨rfl, rfl, rfl⟩ := h
    exact CodeStep.refl fun Q c w h => wpIn_exit h
  | .ret, _ => fun Z hZ yh hy ro n hro a a' s s' ae h => by
    simp only [evCode, Option.some.injEq, Prod.mk.injEq] at h
    obtain ⟨rfl, rfl, rfl⟩ := h
    exact CodeStep.refl fun Q c w h => wpIn_ret h
  | .region id ops true, hok => fun Z hZ yh hy ro n hro a a' s s' ae h => by
    simp only [evCode] at h
    split at h
    case h_2 => cases h
    rename_i a1 s1 e
    simp only [Option.some.injEq, Prod.mk.injEq] at h
    obtain ⟨rfl, rfl, rfl⟩ := h
    refine hd Z hZ _ yh (hc _ _ keeps_true yieldOk_none) hy ops ro n id a a1 s s1 (by simpa [codeOk] using hok) (hro.imp (fun h => h) fun h o ho => ?_) e
    simp only [plainCode, List.all_eq_true] at h
    exact h o ho
  | .region id ops false, hok => fun Z hZ yh hy ro n hro a a' s s' ae h => by
    simp only [evCode] at h
    split at h
    case h_2 => cases h
    rename_i a1 s1 e
    simp only [Option.some.injEq, Prod.mk.injEq] at h
    obtain ⟨rfl, rfl, rfl⟩ := h
    have := evOps_sound hZ (hc _ _ keeps_true yieldOk_none) hy (n := n) (hro.imp (fun h => h) fun h o ho => by
      simp only [plainCode, List.all_eq_true] at h
      exact h o ho) ops.toList 0 a a1 s s1 rfl e
    intro b ρ I c w ar hb sr fr hz Q hq
    refine wpIn_region ?_
    rw [List.range_eq_range']
    exact this b ρ I c w ar hb sr fr hz Q hq
  | .seq x y, hok => fun Z hZ yh hy ro n hro a a' s s' ae h => by
    simp only [codeOk, Bool.and_eq_true] at hok
    have hrx : ro = none ∨ plainCode x = true := hro.imp (fun h => h) fun h => by rw [plainCode, Bool.and_eq_true] at h; exact h.1
    have hry : ro = none ∨ plainCode y = true := hro.imp (fun h => h) fun h => by rw [plainCode, Bool.and_eq_true] at h; exact h.2
    have hx := evCode_sound hd hr hc fuel x hok.1
    have hy' := evCode_sound hd hr hc fuel y hok.2
    simp only [evCode] at h
    cases e : evCode (AProg.of p) call fuel yh x a s with
    | none => rw [e] at h; cases h
    | some r =>
      obtain ⟨ae1, a1, s1⟩ := r
      rw [e] at h
      cases ae1 with
      | normal => exact CodeStep.seq hZ (hx Z hZ yh hy ro n hrx _ _ _ _ _ e) (hy' Z hZ yh hy ro n hry _ _ _ _ _ h) (fun Q c w h => wpIn_seq h)
      | exit id =>
        simp only [Option.some.injEq, Prod.mk.injEq] at h
        obtain ⟨rfl, rfl, rfl⟩ := h
        exact fun b ρ I c w ar hb sr fr hz Q hq => wpIn_seq (hx Z hZ yh hy ro n hrx _ _ _ _ _ e b ρ I c w ar hb sr fr hz _ hq)
      | ret =>
        simp only [Option.some.injEq, Prod.mk.injEq] at h
        obtain ⟨rfl, rfl, rfl⟩ := h
        exact fun b ρ I c w ar hb sr fr hz Q hq => wpIn_seq (hx Z hZ yh hy ro n hrx _ _ _ _ _ e b ρ I c w ar hb sr fr hz _ hq)
  | .cond cnd x y, hok => fun Z hZ yh hy ro n hro a a' s s' ae h => by
    simp only [codeOk, Bool.and_eq_true] at hok
    have hrx : ro = none ∨ plainCode x = true := hro.imp (fun h => h) fun h => by rw [plainCode, Bool.and_eq_true] at h; exact h.1
    have hry : ro = none ∨ plainCode y = true := hro.imp (fun h => h) fun h => by rw [plainCode, Bool.and_eq_true] at h; exact h.2
    have hx := evCode_sound hd hr hc fuel x hok.1
    have hy' := evCode_sound hd hr hc fuel y hok.2
    simp only [evCode] at h
    intro b ρ I c w ar hb sr fr hz Q hq
    split at h
    · rename_i hbo
      exact wpIn_cond_true ((aeval_sound ar.tr hbo).bool_inv) (hx Z hZ yh hy ro n hrx _ _ _ _ _ h b ρ I c w ar hb sr fr hz Q hq)
    · rename_i hbo
      exact wpIn_cond_false ((aeval_sound ar.tr hbo).bool_inv) (hy' Z hZ yh hy ro n hry _ _ _ _ _ h b ρ I c w ar hb sr fr hz Q hq)
    · cases h
  | .block id x, hok => fun Z hZ yh hy ro n hro a a' s s' ae h => by
    simp only [codeOk] at hok
    have hrx : ro = none ∨ plainCode x = true := hro.imp (fun h => h) fun h => by simpa only [plainCode] using h
    have hx := evCode_sound hd hr hc fuel x hok
    simp only [evCode] at h
    cases e : evCode (AProg.of p) call fuel yh x a s with
    | none => rw [e] at h; cases h
    | some r =>
      obtain ⟨ae1, a1, s1⟩ := r
      rw [e] at h
      cases ae1 with
      | normal =>
        simp only [Option.some.injEq, Prod.mk.injEq] at h
        obtain ⟨rfl, rfl, rfl⟩ := h
        exact fun b ρ I c w ar hb sr fr hz Q hq => wpIn_block (hx Z hZ yh hy ro n hrx _ _ _ _ _ e b ρ I c w ar hb sr fr hz _ hq)
      | exit j =>
        simp only at h
        split at h
        · rename_i hj
          have hj := Nat.eq_of_beq_eq_true hj
          subst hj
          simp only [Option.some.injEq, Prod.mk.injEq] at h
          obtain ⟨rfl, rfl, rfl⟩ := h
          refine fun b ρ I c w ar hb sr fr hz Q hq => wpIn_block (hx Z hZ yh hy ro n hrx _ _ _ _ _ e b ρ I c w ar hb sr fr hz _ fun ρ' I' c' w' m ar' => ?_)
          simp only [AExit.exit', Exit.inBlock, if_true]
          exact hq ρ' I' c' w' m ar'
        · rename_i hj
          simp only [Option.some.injEq, Prod.mk.injEq] at h
          obtain ⟨rfl, rfl, rfl⟩ := h
          refine fun b ρ I c w ar hb sr fr hz Q hq => wpIn_block (hx Z hZ yh hy ro n hrx _ _ _ _ _ e b ρ I c w ar hb sr fr hz _ fun ρ' I' c' w' m ar' => ?_)
          have : ¬ j = id := fun he => hj (by rw [he]; simp)
          simp only [AExit.exit', Exit.inBlock, if_neg this]
          exact hq ρ' I' c' w' m ar'
      | ret =>
        simp only [Option.some.injEq, Prod.mk.injEq] at h
        obtain ⟨rfl, rfl, rfl⟩ := h
        exact fun b ρ I c w ar hb sr fr hz Q hq => wpIn_block (hx Z hZ yh hy ro n hrx _ _ _ _ _ e b ρ I c w ar hb sr fr hz _ hq)
  | .loop x, hok => fun Z hZ yh hy ro n hro a a' s s' ae h => by
    simp only [codeOk] at hok
    have hrx : ro = none ∨ plainCode x = true := hro.imp (fun h => h) fun h => by simpa only [plainCode] using h
    simp only [evCode] at h
    have := (loop_sound (evCode_sound hd hr hc fuel x hok) hZ hy (n := n) hrx fuel a a' s s' ae h).1
    exact fun b ρ I c w ar hb sr fr hz Q hq => wpIn_loop_rounds fuel (this b ρ I c w ar hb sr fr hz Q hq)
  | .rangeFunc f params assign body, hok => fun Z hZ yh hy ro n hro a a' s s' ae h => by
    simp only [codeOk, Bool.and_eq_true] at hok
    have : ro = none := by
      rcases hro with h | h
      · exact h
      · simp [plainCode] at h
    subst this
    exact hr call fuel f params assign body hc (evCode_sound hd hr hc fuel assign hok.1.1.1) (evCode_sound hd hr hc fuel body hok.1.1.2) hok.1.2 hok.2 Z hZ yh hy n a a' s s' ae h
  | .scope _, _ => fun Z hZ yh hy ro n hro a a' s s' ae h => by simp [evCode] at h
  | .label _, _ => fun Z hZ yh hy ro n hro a a' s s' ae h => by simp [evCode] at h
  | .goto _, _ => fun Z hZ yh hy ro n hro a a' s s' ae h => by simp [evCode] at h
  | .refuse _, _ => fun Z hZ yh hy ro n hro a a' s s' ae h => by simp [evCode] at h

end Go.AM
