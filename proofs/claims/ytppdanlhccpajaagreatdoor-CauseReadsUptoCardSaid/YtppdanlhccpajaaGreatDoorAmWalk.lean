/- Walking by rewriting: what a piece of code comes to, with a continuation. -/
import Derived.Test.YtppdanlhccpajaaGreatDoorAmSound
set_option linter.unusedSimpArgs false
set_option linter.unusedVariables false
set_option linter.unusedSectionVars false
namespace Go.AM

def CQ (r : Option (AV × AS)) (Q : AV → AS → Prop) : Prop := match r with | some (v, s) => Q v s | none => False
theorem CQ_some (v : AV) (s : AS) (Q : AV → AS → Prop) : CQ (some (v, s)) Q = Q v s := rfl
theorem CQ.mono {r : Option (AV × AS)} {Q Q' : AV → AS → Prop} (h : CQ r Q) (k : ∀ v s, Q v s → Q' v s) : CQ r Q' := by
  unfold CQ at *; split at h
  · exact k _ _ h
  · exact h
theorem CQ.out {r : Option (AV × AS)} {Q : AV → AS → Prop} (h : CQ r Q) : ∃ v s, r = some (v, s) ∧ Q v s := by
  unfold CQ at h; split at h
  · exact ⟨_, _, rfl, h⟩
  · exact h.elim

def SC (P : AProg) (call : CallY) (fuel : Nat) (yh : YieldF) (c : Code) (a : AAct) (s : AS) (K : AExit → AAct → AS → Prop) : Prop :=
  match evCode P call fuel yh c a s with | some (e, a, s) => K e a s | none => False

def SV (r : Option ARes) (call : CallF) (yh : YieldF) (a : AAct) (s : AS) (d : Option Tmp) (K : AAct → AS → Prop) : Prop :=
  match r with
  | some (.val v s) => K (a.put d v) s
  | some (.skip s) => K (a.put d aundef) s
  | some (.enter f args) => CQ (call f args s) fun v s => K (a.put d v) s
  | some (.yield y args) => CQ (yh y args s) fun v s => K (a.put d v) s
  | some (.defer f args) => K ({ a with defers := (f, args) :: a.defers }.put d aundef) s
  | _ => False

def SO (P : AProg) (call : CallF) (yh : YieldF) (l rest : List Oper) (a : AAct) (s : AS) (K : AAct → AS → Prop) : Prop :=
  match evOps P call yh l rest a s with | some (a, s) => K a s | none => False

def SOK (P : AProg) (call : CallF) (yh : YieldF) (l rest : List Oper) (K : AAct → AS → Prop) : AAct → AS → Prop := fun a s => SO P call yh l rest a s K
def SeqK (P : AProg) (call : CallY) (fuel : Nat) (yh : YieldF) (y : Code) (K : AExit → AAct → AS → Prop) : AExit → AAct → AS → Prop := fun e a s => match e with | .normal => SC P call fuel yh y a s K | e => K e a s
def BlkK (id : Nat) (K : AExit → AAct → AS → Prop) : AExit → AAct → AS → Prop := fun e a s => match e with | .exit j => K (if j = id then .normal else .exit j) a s | e => K e a s
def SL (P : AProg) (call : CallY) (fuel : Nat) (yh : YieldF) (x : Code) (m : Nat) (a : AAct) (s : AS) (K : AExit → AAct → AS → Prop) : Prop :=
  match loopN (evCode P call fuel yh x) m a s with | some (e, a, s) => K e a s | none => False
def RndK (P : AProg) (call : CallY) (fuel : Nat) (yh : YieldF) (x : Code) (m : Nat) (K : AExit → AAct → AS → Prop) : AExit → AAct → AS → Prop := fun e a s => match e with | .normal => SL P call fuel yh x m a s K | e => K e a s
def CallK (a : AAct) (d : Option Tmp) (K : AAct → AS → Prop) : AV → AS → Prop := fun v s => K (a.put d v) s
def NormK (K : AExit → AAct → AS → Prop) : AAct → AS → Prop := fun a s => K .normal a s

theorem SOK_app (P : AProg) (call : CallF) (yh : YieldF) (l rest : List Oper) (K : AAct → AS → Prop) (a : AAct) (s : AS) : SOK P call yh l rest K a s = SO P call yh l rest a s K := rfl
theorem CallK_app (a : AAct) (d : Option Tmp) (K : AAct → AS → Prop) (v : AV) (s : AS) : CallK a d K v s = K (a.put d v) s := rfl
theorem NormK_app (K : AExit → AAct → AS → Prop) (a : AAct) (s : AS) : NormK K a s = K .normal a s := rfl
theorem SeqK_normal (P : AProg) (call : CallY) (fuel : Nat) (yh : YieldF) (y : Code) (K : AExit → AAct → AS → Prop) (a : AAct) (s : AS) : SeqK P call fuel yh y K .normal a s = SC P call fuel yh y a s K := rfl
theorem SeqK_exit (P : AProg) (call : CallY) (fuel : Nat) (yh : YieldF) (y : Code) (K : AExit → AAct → AS → Prop) (j : Nat) (a : AAct) (s : AS) : SeqK P call fuel yh y K (.exit j) a s = K (.exit j) a s := rfl
theorem SeqK_ret (P : AProg) (call : CallY) (fuel : Nat) (yh : YieldF) (y : Code) (K : AExit → AAct → AS → Prop) (a : AAct) (s : AS) : SeqK P call fuel yh y K .ret a s = K .ret a s := rfl
theorem BlkK_normal (id : Nat) (K : AExit → AAct → AS → Prop) (a : AAct) (s : AS) : BlkK id K .normal a s = K .normal a s := rfl
theorem BlkK_exit (id : Nat) (K : AExit → AAct → AS → Prop) (j : Nat) (a : AAct) (s : AS) : BlkK id K (.exit j) a s = K (if j = id then .normal else .exit j) a s := rfl
theorem BlkK_ret (id : Nat) (K : AExit → AAct → AS → Prop) (a : AAct) (s : AS) : BlkK id K .ret a s = K .ret a s := rfl
theorem RndK_normal (P : AProg) (call : CallY) (fuel : Nat) (yh : YieldF) (x : Code) (m : Nat) (K : AExit → AAct → AS → Prop) (a : AAct) (s : AS) : RndK P call fuel yh x m K .normal a s = SL P call fuel yh x m a s K := rfl
theorem RndK_exit (P : AProg) (call : CallY) (fuel : Nat) (yh : YieldF) (x : Code) (m : Nat) (K : AExit → AAct → AS → Prop) (j : Nat) (a : AAct) (s : AS) : RndK P call fuel yh x m K (.exit j) a s = K (.exit j) a s := rfl
theorem RndK_ret (P : AProg) (call : CallY) (fuel : Nat) (yh : YieldF) (x : Code) (m : Nat) (K : AExit → AAct → AS → Prop) (a : AAct) (s : AS) : RndK P call fuel yh x m K .ret a s = K .ret a s := rfl

section
variable (P : AProg) (call : CallY) (fuel : Nat) (yh : YieldF) (K : AExit → AAct → AS → Prop) (a : AAct) (s : AS)

theorem SC_skip : SC P call fuel yh .skip a s K = K .normal a s := rfl
theorem SC_ret : SC P call fuel yh .ret a s K = K .ret a s := rfl
theorem SC_exit (id : Nat) : SC P call fuel yh (.exit id) a s K = K (.exit id) a s := rfl
theorem SC_seq (x y : Code) : SC P call fuel yh (.seq x y) a s K = SC P call fuel yh x a s (SeqK P call fuel yh y K) := by
  unfold SC SeqK
  simp only [evCode]
  cases evCode P call fuel yh x a s with
  | none => rfl
  | some r =>
    obtain ⟨e, a1, s1⟩ := r
    cases e <;> rfl
theorem SC_block (id : Nat) (x : Code) : SC P call fuel yh (.block id x) a s K = SC P call fuel yh x a s (BlkK id K) := by
  unfold SC BlkK
  simp only [evCode]
  cases evCode P call fuel yh x a s with
  | none => rfl
  | some r =>
    obtain ⟨e, a1, s1⟩ := r
    cases e with
    | exit j =>
      simp only
      by_cases h : j = id
      · subst h; simp
      · have : Nat.beq j id = false := by rw [beqF]; exact h
        simp [this, h]
    | _ => rfl
theorem SC_loop (x : Code) : SC P call fuel yh (.loop x) a s K = SL P call fuel yh x fuel a s K := by
  unfold SC SL
  simp only [evCode]
theorem SL_succ (x : Code) (m : Nat) : SL P call fuel yh x (m + 1) a s K = SC P call fuel yh x a s (RndK P call fuel yh x m K) := by
  unfold SL SC RndK
  simp only [loopN]
  cases evCode P call fuel yh x a s with
  | none => rfl
  | some r =>
    obtain ⟨e, a1, s1⟩ := r
    cases e <;> rfl
theorem SC_region (id : Nat) (l : List Oper) : SC P call fuel yh (.region id l.toArray false) a s K = SO P (call fun _ _ _ => none) yh l l a s (NormK K) := by
  unfold SC SO NormK
  simp only [evCode]
  cases evOps P (call fun _ _ _ => none) yh l l a s with
  | none => rfl
  | some r => obtain ⟨a1, s1⟩ := r; rfl
def SB (b : Option AV) (X Y : Prop) : Prop := match b with | some (.bool true) => X | some (.bool false) => Y | _ => False
theorem SB_true (X Y : Prop) : SB (some (.bool true)) X Y = X := rfl
theorem SB_false (X Y : Prop) : SB (some (.bool false)) X Y = Y := rfl
theorem SB_congr {b b' : Option AV} (h : b = b') (X Y : Prop) : SB b X Y = SB b' X Y := by rw [h]
theorem SC_cond (c : Operand) (x y : Code) : SC P call fuel yh (.cond c x y) a s K = SB (aeval a.tmps c) (SC P call fuel yh x a s K) (SC P call fuel yh y a s K) := by
  unfold SC SB
  simp only [evCode]
  cases aeval a.tmps c with
  | none => rfl
  | some v =>
    cases v with
    | bool b => cases b <;> rfl
    | _ => rfl
/-- A condition that is known. -/
theorem SC_cond_true {c : Operand} {x y : Code} (h : aeval a.tmps c = some (.bool true)) : SC P call fuel yh (.cond c x y) a s K = SC P call fuel yh x a s K := by
  unfold SC; simp only [evCode, h]
theorem SC_cond_false {c : Operand} {x y : Code} (h : aeval a.tmps c = some (.bool false)) : SC P call fuel yh (.cond c x y) a s K = SC P call fuel yh y a s K := by
  unfold SC; simp only [evCode, h]
end

theorem SO_nil (P : AProg) (call : CallF) (yh : YieldF) (l : List Oper) (a : AAct) (s : AS) (K : AAct → AS → Prop) : SO P call yh l [] a s K = K a s := rfl
theorem SO_cons (P : AProg) (call : CallF) (yh : YieldF) (l rest : List Oper) (o : Oper) (a : AAct) (s : AS) (K : AAct → AS → Prop) :
    SO P call yh l (o :: rest) a s K = if awanted l a.tmps o = true then SV (evOp P a.tmps s o) call yh a s o.dst (SOK P call yh l rest K) else SO P call yh l rest (a.put o.dst aundef) s K := by
  cases hw : awanted l a.tmps o with
  | false =>
    simp only [Bool.false_eq_true, if_false]
    unfold SO
    simp only [evOps, hw, Bool.false_eq_true, if_false]
  | true =>
    simp only [if_true]
    unfold SO SV SOK SO
    simp only [evOps, hw, if_true]
    unfold step1
    cases evOp P a.tmps s o with
    | none => rfl
    | some r =>
      cases r with
      | enter f args => simp only; unfold CQ; cases call f args s with
        | none => rfl
        | some r => obtain ⟨v, s1⟩ := r; rfl
      | yield y args => simp only; unfold CQ; cases yh y args s with
        | none => rfl
        | some r => obtain ⟨v, s1⟩ := r; rfl
      | _ => rfl

theorem SV_val (v : AV) (s' : AS) (call : CallF) (yh : YieldF) (a : AAct) (s : AS) (d : Option Tmp) (K : AAct → AS → Prop) : SV (some (.val v s')) call yh a s d K = K (a.put d v) s' := rfl
theorem SV_skip (s' : AS) (call : CallF) (yh : YieldF) (a : AAct) (s : AS) (d : Option Tmp) (K : AAct → AS → Prop) : SV (some (.skip s')) call yh a s d K = K (a.put d aundef) s' := rfl
theorem SV_enter (f : FuncId) (args : List AV) (call : CallF) (yh : YieldF) (a : AAct) (s : AS) (d : Option Tmp) (K : AAct → AS → Prop) : SV (some (.enter f args)) call yh a s d K = CQ (call f args s) (CallK a d K) := rfl

theorem SV_congr {r r' : Option ARes} (h : r = r') (call : CallF) (yh : YieldF) (a : AAct) (s : AS) (d : Option Tmp) (K : AAct → AS → Prop) : SV r call yh a s d K = SV r' call yh a s d K := by rw [h]
theorem SC_congr (P : AProg) (call : CallY) (fuel : Nat) (yh : YieldF) (c : Code) {a a' : AAct} {s s' : AS} (h : a = a') (h' : s = s') (K : AExit → AAct → AS → Prop) : SC P call fuel yh c a s K = SC P call fuel yh c a' s' K := by rw [h, h']
theorem SO_congr (P : AProg) (call : CallF) (yh : YieldF) (l rest : List Oper) {a a' : AAct} {s s' : AS} (h : a = a') (h' : s = s') (K : AAct → AS → Prop) : SO P call yh l rest a s K = SO P call yh l rest a' s' K := by rw [h, h']
theorem SL_congr (P : AProg) (call : CallY) (fuel : Nat) (yh : YieldF) (x : Code) (m : Nat) {a a' : AAct} {s s' : AS} (h : a = a') (h' : s = s') (K : AExit → AAct → AS → Prop) : SL P call fuel yh x m a s K = SL P call fuel yh x m a' s' K := by rw [h, h']
theorem CQ_congr {r r' : Option (AV × AS)} (h : r = r') (Q : AV → AS → Prop) : CQ r Q = CQ r' Q := by rw [h]


theorem awanted_none (l : List Oper) (t : ATmps) (d : Option Tmp) (op : Op) (ty : TypeId) (pos : String) (aft : Array Edge) : awanted l t ⟨d, op, ty, pos, aft, none⟩ = true := rfl
theorem awanted_some (l : List Oper) (t : ATmps) (d : Option Tmp) (op : Op) (ty : TypeId) (pos : String) (aft : Array Edge) (j : Nat) (b : Bool) :
    awanted l t ⟨d, op, ty, pos, aft, some (j, b)⟩ = match ayielded l t j with | some c => c == b | none => false := rfl
theorem ayielded_of {l : List Oper} {t : ATmps} {j : Nat} {d : Tmp} {b : Bool} (h : (l[j]?).bind (·.dst) = some d) (h2 : t.get d = .bool b) : ayielded l t j = some b := by
  unfold ayielded; rw [h]; simp only [h2]

theorem put_some (t : ATmps) (ds : List (FuncId × List AV)) (m : Nat) (d : Tmp) (v : AV) : AAct.put ⟨t, ds, m⟩ (some d) v = ⟨t.set d v, ds, m⟩ := rfl
theorem put_none (a : AAct) (v : AV) : AAct.put a none v = a := rfl
theorem get_set_ne {t : ATmps} {i j : Nat} {v : AV} (h : j ≠ i) : (t.set i v).get j = t.get j := by rw [ATmps.get_set, if_neg]; exact fun hc => h hc.1
theorem get_set_eq {t : ATmps} {i : Nat} {v : AV} (h : i < t.n) : (t.set i v).get i = v := by rw [ATmps.get_set, if_pos ⟨rfl, h⟩]

theorem AS.get_new_self (s : AS) (o : AObj) : (s.new o).2.get s.next = some o := by rw [AS.get_new, if_pos rfl]
theorem AS.get_new_ne (s : AS) (o : AObj) {i : Nat} (h : i ≠ s.next) : (s.new o).2.get i = s.get i := by rw [AS.get_new, if_neg h]
theorem AS.get_put_self (s : AS) (i : Nat) (o : AObj) : (s.put i o).get i = some o := by rw [AS.get_put, if_pos rfl]
theorem AS.get_put_ne (s : AS) (o : AObj) {i j : Nat} (h : j ≠ i) : (s.put i o).get j = s.get j := by rw [AS.get_put, if_neg h]
theorem AS.get_kill_ne (s : AS) {i j : Nat} (h : j ≠ i) : (s.kill i).get j = s.get j := by rw [AS.get_kill, if_neg h]

/-! operations -/
section
variable (P : AProg) (t : ATmps) (s : AS) (d : Option Tmp) (ty : TypeId) (pos : String) (aft : Array Edge) (g : Option (Nat × Bool))
def lift (x : Option AV) (s : AS) : Option ARes := x.map fun v => .val v s
theorem lift_some (v : AV) (s : AS) : lift (some v) s = some (.val v s) := rfl
theorem evOp_move (x : Operand) : evOp P t s ⟨d, .move x, ty, pos, aft, g⟩ = lift (aeval t x) s := rfl
theorem evOp_assign (x : Operand) : evOp P t s ⟨d, .assign x, ty, pos, aft, g⟩ = lift (aeval t x) s := rfl
theorem evOp_load (u : TypeId) (x : Operand) : evOp P t s ⟨d, .load u x, ty, pos, aft, g⟩ = (aeval t x).bind fun a => lift (aload P s u a) s := rfl
theorem evOp_store (u : TypeId) (x y : Operand) : evOp P t s ⟨d, .store u x y, ty, pos, aft, g⟩ = (aeval t x).bind fun a => (aeval t y).bind fun v => (astore P s u a v).map .skip := rfl
theorem evOp_fieldAddr (u : TypeId) (x : Operand) (f : Nat) : evOp P t s ⟨d, .fieldAddr u x f, ty, pos, aft, g⟩ = (aeval t x).bind fun a => lift (afieldAddr P u a f) s := rfl
theorem evOp_field (u : TypeId) (x : Operand) (f : Nat) : evOp P t s ⟨d, .field u x f, ty, pos, aft, g⟩ = (aeval t x).bind fun a => lift (afield P u a f) s := rfl
theorem evOp_indexAddr (u : TypeId) (x y : Operand) : evOp P t s ⟨d, .indexAddr u x y, ty, pos, aft, g⟩ = (aeval t x).bind fun a => (aeval t y).bind fun i => lift (aindexAddr P u a i) s := rfl
theorem evOp_index (u : TypeId) (x y : Operand) : evOp P t s ⟨d, .index u x y, ty, pos, aft, g⟩ = (aeval t x).bind fun a => (aeval t y).bind fun i => lift (aindex P u a i) s := rfl
theorem evOp_lookup (u : TypeId) (x y : Operand) (ok : Bool) : evOp P t s ⟨d, .lookup u x y ok, ty, pos, aft, g⟩ = (aeval t x).bind fun a => (aeval t y).bind fun i => lift (alookup P s u a i ok) s := rfl
theorem evOp_mapUpdate (u : TypeId) (x y z : Operand) : evOp P t s ⟨d, .mapUpdate u x y z, ty, pos, aft, g⟩ = (aeval t x).bind fun m => (aeval t y).bind fun k => (aeval t z).bind fun v => (amapUpdate P s u m k v).map .skip := rfl
theorem evOp_unOp (op : UnOp) (u : TypeId) (x : Operand) : evOp P t s ⟨d, .unOp op u x, ty, pos, aft, g⟩ = (aeval t x).bind fun a => lift (aun op a) s := rfl
theorem evOp_slice (u : TypeId) (x : Operand) (lo hi mx : Option Operand) : evOp P t s ⟨d, .slice u x lo hi mx, ty, pos, aft, g⟩ = (aopt t lo).bind fun lo => (aopt t hi).bind fun hi => (aopt t mx).bind fun mx => (aeval t x).bind fun x => lift (aslice P u x lo hi mx) s := rfl
def nilR (v : AV) (s : AS) : Option ARes :=
  match v with
  | .ptr (some a) => some (.val (.ptr (some a)) s)
  | .iptr a o => some (.val (.iptr a o) s)
  | .func (.func f) a b => some (.val (.func (.func f) a b) s)
  | _ => none
theorem nilR_ptr (a : AAddr) (s : AS) : nilR (.ptr (some a)) s = some (.val (.ptr (some a)) s) := rfl
theorem evOp_nilCheck (x : Operand) : evOp P t s ⟨d, .nilCheck x, ty, pos, aft, g⟩ = (aeval t x).bind fun v => nilR v s := rfl
theorem evOp_box (u : TypeId) (x : Operand) : evOp P t s ⟨d, .box u x, ty, pos, aft, g⟩ = (aeval t x).bind fun x => some (.val (.ptr (some ⟨s.next, 0, 0⟩)) (s.new (.arr x.cells.length [x])).2) := rfl
def allocZ (P : AProg) (u : TypeId) : Option AV := do
  let j ← P.ti u
  let z ← j.zero
  if z.cells.length ≠ j.size then none else some z
theorem evOp_alloc (u : TypeId) : evOp P t s ⟨d, .alloc u, ty, pos, aft, g⟩ = (allocZ P u).bind fun z => some (.val (.ptr (some ⟨s.next, 0, 0⟩)) (s.new (.arr z.cells.length [z])).2) := by
  show ((P.ti u).bind fun j => j.zero.bind fun z => if z.cells.length ≠ j.size then none else _) = ((P.ti u).bind fun j => j.zero.bind fun z => if z.cells.length ≠ j.size then none else some z).bind _
  cases P.ti u with
  | none => rfl
  | some j =>
    simp only [Option.bind_some]
    cases j.zero with
    | none => rfl
    | some z =>
      simp only [Option.bind_some]
      split <;> rfl
theorem evOp_makeMap (u : TypeId) : evOp P t s ⟨d, .makeMap u none, ty, pos, aft, g⟩ = some (.val (.map (some s.next)) (s.new (.map [])).2) := rfl
def pickR (c : AV) (x y : Option AV) (s : AS) : Option ARes :=
  match c with
  | .bool b => lift (if b then x else y) s
  | _ => none
theorem pickR_bool (b : Bool) (x y : Option AV) (s : AS) : pickR (.bool b) x y s = lift (if b = true then x else y) s := rfl
theorem evOp_pick (c x y : Operand) : evOp P t s ⟨d, .pick c x y, ty, pos, aft, g⟩ = (aeval t c).bind fun c => pickR c (aeval t x) (aeval t y) s := rfl
def extrR (v : AV) (i : Nat) (s : AS) : Option ARes :=
  match v with
  | .tuple vs => lift vs[i]? s
  | _ => none
theorem extrR_tuple (vs : List AV) (i : Nat) (s : AS) : extrR (.tuple vs) i s = lift vs[i]? s := rfl
theorem evOp_extract (x : Operand) (i : Nat) : evOp P t s ⟨d, .extract x i, ty, pos, aft, g⟩ = (aeval t x).bind fun v => extrR v i s := rfl
theorem evOp_build (u : TypeId) (l : List (Nat × Operand)) : evOp P t s ⟨d, .build u l.toArray, ty, pos, aft, g⟩ = (mapOpt (fun (i, x) => (aeval t x).map fun v => (i, v)) l).bind fun ps => lift (abuild P u ps) s := rfl
theorem evOp_buildSlice (u : TypeId) (n : Nat) (l : List (Nat × Operand)) : evOp P t s ⟨d, .buildSlice u n l.toArray, ty, pos, aft, g⟩ = (mapOpt (fun (i, x) => (aeval t x).map fun v => (i, v)) l).bind fun ps => (abuildSlice P s u n ps).map fun (v, s) => .val v s := rfl
def binR (P : AProg) (s : AS) (op : BinOp) (u : TypeId) (x y : Operand) (a b : AV) : Option ARes :=
  if nilLit P u x y a b then
      match op with
      | .eql => lift (some (.bool true)) s
      | .neq => lift (some (.bool false)) s
      | _ => none
    else lift (abin P s op u a b) s
theorem evOp_bin (op : BinOp) (u v : TypeId) (x y : Operand) : evOp P t s ⟨d, .binOp op u x y v, ty, pos, aft, g⟩ = (aeval t x).bind fun a => (aeval t y).bind fun b => binR P s op u x y a b := rfl
theorem binR_int (op : BinOp) (u : TypeId) (x y : Operand) (k k' : IntKind) (m n : Int) : binR P s op u x y (.int k m) (.int k' n) = lift (aint op k m k' n) s := rfl
theorem binR_str (op : BinOp) (u : TypeId) (x y : Operand) (m n : List Nat) : binR P s op u x y (.str m) (.str n) = lift (astr op m n) s := rfl
theorem evOp_call (f : FuncId) (l : List Operand) (ats : Array TypeId) : evOp P t s ⟨d, .call ⟨.value (.func f), l.toArray, ats⟩, ty, pos, aft, g⟩ = (mapOpt (aeval t) l).bind fun args => (callee P (.func (.func f) [] []) args).bind fun (g, as) => some (.enter g as) := rfl
theorem evOp_len (x : Operand) (ats : Array TypeId) : evOp P t s ⟨d, .call ⟨.builtin .len, #[x], ats⟩, ty, pos, aft, g⟩ = (aeval t x).bind fun x => lift (alenOp P s ats x) s := by
  show (mapOpt (aeval t) [x]).bind _ = _
  simp only [mapOpt, Option.bind_eq_bind, Option.bind_some]
  cases aeval t x <;> rfl
theorem evOp_min (x y : Operand) (ats : Array TypeId) : evOp P t s ⟨d, .call ⟨.builtin .min, #[x, y], ats⟩, ty, pos, aft, g⟩ = (aeval t x).bind fun x => (aeval t y).bind fun y => lift (aminmax false [x, y]) s := by
  show (mapOpt (aeval t) [x, y]).bind _ = _
  simp only [mapOpt, Option.bind_eq_bind, Option.bind_some]
  cases aeval t x with
  | none => rfl
  | some x => cases aeval t y <;> rfl
theorem evOp_append (x y : Operand) (u v : TypeId) : evOp P t s ⟨d, .call ⟨.builtin .append, #[x, y], #[u, v]⟩, ty, pos, aft, g⟩ = (aeval t x).bind fun x => (aeval t y).bind fun y => (aappend P s #[u, v] x y).map fun (v, s) => .val v s := by
  show (mapOpt (aeval t) [x, y]).bind _ = _
  simp only [mapOpt, Option.bind_eq_bind, Option.bind_some]
  cases aeval t x with
  | none => rfl
  | some x => cases aeval t y <;> rfl
theorem aeval_tmp (i : Nat) : aeval t (.tmp i) = some (t.get i) := rfl
theorem aeval_int (k : IntKind) (n : Int) : aeval t (.const (.int k n)) = some (.int k n) := rfl
theorem aeval_bool (b : Bool) : aeval t (.const (.bool b)) = some (.bool b) := rfl
theorem aeval_nil : aeval t (.const (.slice none 0 0)) = some (.slice none 0 (some 0)) := rfl
end

/-! calls -/
def RetK (P : AProg) (call : CallF) (fn : Func) (Q : AV → AS → Prop) : AExit → AAct → AS → Prop := fun e a s => match e with | .exit _ => False | _ => CQ (leave P call fn a s) Q
theorem evCall1_wp {P : AProg} {fuel : Nat} {call : CallY} {yh : YieldF} {f : FuncId} {args : List AV} {s : AS} {fn : Func} {c : Code} {Q : AV → AS → Prop} (hf : P.fn f = some fn) (hb : fn.body = some c)
    (h : SC P call fuel yh c ⟨initTmps fn.ntmps args, [], 0⟩ s (RetK P (call fun _ _ _ => none) fn Q)) : CQ (evCall1 P fuel call yh f args s) Q := by
  unfold evCall1
  rw [hf]
  simp only [hb]
  unfold SC RetK at h
  cases e : evCode P call fuel yh c ⟨initTmps fn.ntmps args, [], 0⟩ s with
  | none => rw [e] at h; exact h.elim
  | some r =>
    obtain ⟨ex, a, s1⟩ := r
    rw [e] at h
    cases ex with
    | normal => exact h
    | exit j => exact h.elim
    | ret => exact h
theorem RetK_tmps {P : AProg} {call : CallF} {fn : Func} {Q : AV → AS → Prop} {t : ATmps} {s : AS} {l : List Tmp} (e : AExit) (he : e = .normal ∨ e = .ret) (hr : fn.results = (l.map ResultVar.tmp).toArray) (h : Q (tupled (l.map t.get)) s) : RetK P call fn Q e ⟨t, [], 0⟩ s := by
  have key : leave P call fn ⟨t, [], 0⟩ s = some (tupled (l.map t.get), s) := by
    unfold leave
    simp only [List.isEmpty_nil, Bool.or_true, if_true, runDefers]
    unfold aresults
    rw [hr]
    have : ∀ l : List Tmp, mapOpt (results1 P t s) (l.map ResultVar.tmp) = some (l.map t.get) := fun l => by
      induction l with
      | nil => rfl
      | cons i l ih =>
        simp only [List.map_cons, mapOpt, ih]
        rfl
    rw [show ((l.map ResultVar.tmp).toArray).toList = l.map ResultVar.tmp from rfl, this]
    rfl
  unfold RetK
  rcases he with rfl | rfl <;> (simp only [key]; exact h)

theorem initTmps_of {n : Nat} {args : List AV} (h : args.length ≤ n) : initTmps n args = initGo args 0 (ATmps.new n) := by
  unfold initTmps; rw [Nat.max_eq_left h]
theorem new_n (n : Nat) : (ATmps.new n).n = n := rfl

/-! numbers -/
theorem aint_add (k : IntKind) (m n : Int) : aint .add k m k n = some (.int k (wrapi k (m + n))) := by simp [aint]
theorem aint_sub (k : IntKind) (m n : Int) : aint .sub k m k n = some (.int k (wrapi k (m - n))) := by simp [aint]
theorem aint_lss (k : IntKind) (m n : Int) : aint .lss k m k n = some (.bool (decide (m < n))) := by simp [aint]
theorem aint_leq (k : IntKind) (m n : Int) : aint .leq k m k n = some (.bool (decide (m ≤ n))) := by simp [aint]
theorem aint_gtr (k : IntKind) (m n : Int) : aint .gtr k m k n = some (.bool (decide (n < m))) := by simp [aint]
theorem aint_geq (k : IntKind) (m n : Int) : aint .geq k m k n = some (.bool (decide (n ≤ m))) := by simp [aint]
theorem aint_eql (k : IntKind) (m n : Int) : aint .eql k m k n = some (.bool (decide (m = n))) := by
  simp only [aint, if_true, Option.some.injEq, AV.bool.injEq]
  rw [Bool.eq_iff_iff]; simp
theorem aint_neq (k : IntKind) (m n : Int) : aint .neq k m k n = some (.bool (decide (m ≠ n))) := by
  simp only [aint, if_true, Option.some.injEq, AV.bool.injEq]
  rw [Bool.eq_iff_iff]; simp
theorem astr_eql (m n : List Nat) : astr .eql m n = some (.bool (decide (m = n))) := by
  simp only [astr, Option.some.injEq, AV.bool.injEq]
  rw [Bool.eq_iff_iff]; simp
theorem astr_neq (m n : List Nat) : astr .neq m n = some (.bool (decide (m ≠ n))) := by
  simp only [astr, Option.some.injEq, AV.bool.injEq]
  rw [Bool.eq_iff_iff]; simp
theorem wrapi_in {n : Int} (h : -9223372036854775808 ≤ n) (h2 : n ≤ 9223372036854775807) : wrapi .i64 n = n := by
  have hw : wrapi .i64 n = if (2 ^ 63 : Int) ≤ n % (2 ^ 64 : Int) then n % (2 ^ 64 : Int) - (2 ^ 64 : Int) else n % (2 ^ 64 : Int) := by
    unfold wrapi IntKind.wrap
    simp only [IntKind.signed, IntKind.bits, Bool.true_and, decide_eq_true_eq, ge_iff_le]
  rw [hw]
  split <;> omega
theorem wrapi_nat {n : Nat} (h : n ≤ 9223372036854775807) : wrapi .i64 (n : Int) = n := wrapi_in (by omega) (by omega)

/-! regions that draw -/
def AS.bump (s : AS) (n : Nat) : AS := ⟨s.heap, s.next + n⟩
theorem AS.get_bump (s : AS) (n i : Nat) : (s.bump n).get i = s.get i := rfl
theorem AS.next_bump (s : AS) (n : Nat) : (s.bump n).next = s.next + n := rfl

def SD (P : AProg) (call : CallF) (yh : YieldF) (l : List Oper) (bef : List Nat) (base : Nat) (order : List Nat) (sn : Snaps) (a : AAct) (s : AS) (K : AAct → AS → Prop) : Prop :=
  match evDraw P call yh l bef base order sn a s with | some (a, s) => K a s | none => False
def SDK (P : AProg) (call : CallF) (yh : YieldF) (l : List Oper) (bef : List Nat) (base : Nat) (order : List Nat) (sn : Snaps) (K : AAct → AS → Prop) : AAct → AS → Prop := fun a s => SD P call yh l bef base order sn a s K
def SRd (r : Option ARes) (u : AV → Bool) (a : AAct) (s : AS) (d : Option Tmp) (K : AAct → AS → Prop) : Prop := match r with | some (.val v _) => u v = true ∧ K (a.put d v) s | _ => False
def SMk (r : Option ARes) (a : AAct) (s : AS) (d : Option Tmp) (K : AAct → AS → Prop) : Prop := match r with | some (.val v s') => K (a.put d v) { s' with next := s.next } | _ => False
def SDo (x : Option Oper) (P : AProg) (call : CallF) (yh : YieldF) (l : List Oper) (bef : List Nat) (base i : Nat) (rest : List Nat) (sn : Snaps) (a : AAct) (s : AS) (K : AAct → AS → Prop) : Prop :=
  match x with
  | none => False
  | some o =>
    if awanted l a.tmps o = true then
      (if acts o.op = true then SV (evOp P a.tmps s o) call yh a s o.dst (SDK P call yh l bef base rest ((i, s) :: sn) K)
      else if reads o.op = true then SRd (evOp P a.tmps s o) (fun v => unturned P a.tmps o (bef.getD i 0) v sn) a s o.dst (SDK P call yh l bef base rest sn K)
      else SMk (evOp P a.tmps ⟨s.heap, base + i⟩ o) a s o.dst (SDK P call yh l bef base rest sn K))
    else SD P call yh l bef base rest sn (a.put o.dst aundef) s K

theorem SDK_app (P : AProg) (call : CallF) (yh : YieldF) (l : List Oper) (bef : List Nat) (base : Nat) (order : List Nat) (sn : Snaps) (K : AAct → AS → Prop) (a : AAct) (s : AS) :
    SDK P call yh l bef base order sn K a s = SD P call yh l bef base order sn a s K := rfl
theorem SD_nil (P : AProg) (call : CallF) (yh : YieldF) (l : List Oper) (bef : List Nat) (base : Nat) (sn : Snaps) (K : AAct → AS → Prop) (a : AAct) (s : AS) : SD P call yh l bef base [] sn a s K = K a s := rfl
theorem SD_cons (P : AProg) (call : CallF) (yh : YieldF) (l : List Oper) (bef : List Nat) (base i : Nat) (rest : List Nat) (sn : Snaps) (K : AAct → AS → Prop) (a : AAct) (s : AS) :
    SD P call yh l bef base (i :: rest) sn a s K = SDo l[i]? P call yh l bef base i rest sn a s K := by
  unfold SD SDo
  simp only [evDraw]
  cases l[i]? with
  | none => rfl
  | some o =>
    simp only
    cases awanted l a.tmps o with
    | false => rfl
    | true =>
      simp only [if_true]
      cases acts o.op with
      | true =>
        simp only [if_true]
        unfold SV SDK SD step1
        cases evOp P a.tmps s o with
        | none => rfl
        | some r =>
          cases r with
          | enter f args => simp only; unfold CQ; cases call f args s with
            | none => rfl
            | some r => obtain ⟨v, s1⟩ := r; rfl
          | yield y args => simp only; unfold CQ; cases yh y args s with
            | none => rfl
            | some r => obtain ⟨v, s1⟩ := r; rfl
          | _ => rfl
      | false =>
        simp only [Bool.false_eq_true, if_false]
        cases reads o.op with
        | true =>
          simp only [if_true]
          unfold SRd SDK SD
          cases evOp P a.tmps s o with
          | none => rfl
          | some r =>
            cases r with
            | val v s1 =>
              simp only
              cases unturned P a.tmps o (bef.getD i 0) v sn <;> simp
            | _ => rfl
        | false =>
          simp only [Bool.false_eq_true, if_false]
          unfold SMk SDK SD
          show (match (match evOp P a.tmps ⟨s.heap, base + i⟩ o with | some (.val v s') => evDraw P call yh l bef base rest sn (a.put o.dst v) { s' with next := s.next } | _ => none) with | some (a, s) => K a s | none => False) = _
          cases evOp P a.tmps ⟨s.heap, base + i⟩ o with
          | none => rfl
          | some r => cases r <;> rfl
theorem SDo_some (o : Oper) (P : AProg) (call : CallF) (yh : YieldF) (l : List Oper) (bef : List Nat) (base i : Nat) (rest : List Nat) (sn : Snaps) (a : AAct) (s : AS) (K : AAct → AS → Prop) :
    SDo (some o) P call yh l bef base i rest sn a s K = if awanted l a.tmps o = true then
      (if acts o.op = true then SV (evOp P a.tmps s o) call yh a s o.dst (SDK P call yh l bef base rest ((i, s) :: sn) K)
      else if reads o.op = true then SRd (evOp P a.tmps s o) (fun v => unturned P a.tmps o (bef.getD i 0) v sn) a s o.dst (SDK P call yh l bef base rest sn K)
      else SMk (evOp P a.tmps ⟨s.heap, base + i⟩ o) a s o.dst (SDK P call yh l bef base rest sn K))
    else SD P call yh l bef base rest sn (a.put o.dst aundef) s K := rfl
theorem SRd_val (v : AV) (s' : AS) (u : AV → Bool) (a : AAct) (s : AS) (d : Option Tmp) (K : AAct → AS → Prop) : SRd (some (.val v s')) u a s d K = (u v = true ∧ K (a.put d v) s) := rfl
theorem SMk_pure (v : AV) (n : Nat) (a : AAct) (s : AS) (d : Option Tmp) (K : AAct → AS → Prop) : SMk (some (.val v ⟨s.heap, n⟩)) a s d K = K (a.put d v) s := rfl
theorem SMk_new (v : AV) (n : Nat) (o : AObj) (a : AAct) (s : AS) (d : Option Tmp) (K : AAct → AS → Prop) : SMk (some (.val v (AS.new ⟨s.heap, n⟩ o).2)) a s d K = K (a.put d v) (s.put n o) := rfl
theorem unturned_nil (P : AProg) (t : ATmps) (o : Oper) (need : Nat) (v : AV) : unturned P t o need v [] = true := rfl
theorem unturned_cons (P : AProg) (t : ATmps) (o : Oper) (need : Nat) (v : AV) (j : Nat) (s : AS) (rest : Snaps) :
    unturned P t o need v ((j, s) :: rest) = ((need.testBit j || (match readAgain P t s o with | some u => alike u v | none => false)) && unturned P t o need v rest) := rfl
theorem SRd_congr {r r' : Option ARes} (h : r = r') (u : AV → Bool) (a : AAct) (s : AS) (d : Option Tmp) (K : AAct → AS → Prop) : SRd r u a s d K = SRd r' u a s d K := by rw [h]
theorem SMk_congr {r r' : Option ARes} (h : r = r') (a : AAct) (s : AS) (d : Option Tmp) (K : AAct → AS → Prop) : SMk r a s d K = SMk r' a s d K := by rw [h]
theorem SD_congr (P : AProg) (call : CallF) (yh : YieldF) (l : List Oper) (bef : List Nat) (base : Nat) (order : List Nat) (sn : Snaps) {a a' : AAct} {s s' : AS} (h : a = a') (h' : s = s') (K : AAct → AS → Prop) :
    SD P call yh l bef base order sn a s K = SD P call yh l bef base order sn a' s' K := by rw [h, h']
theorem SDo_congr {x x' : Option Oper} (h : x = x') (P : AProg) (call : CallF) (yh : YieldF) (l : List Oper) (bef : List Nat) (base i : Nat) (rest : List Nat) (sn : Snaps) (a : AAct) (s : AS) (K : AAct → AS → Prop) :
    SDo x P call yh l bef base i rest sn a s K = SDo x' P call yh l bef base i rest sn a s K := by rw [h]
theorem SC_draw {P : AProg} {call : CallY} {fuel : Nat} {yh : YieldF} {id : Nat} {l : List Oper} {a : AAct} {s : AS} {K : AExit → AAct → AS → Prop} (order bef : List Nat) (n : Nat) (h1 : canon l.toArray = order) (h2 : (Region.before l.toArray).toList = bef) (h3 : l.length = n)
    (h : SD P (call fun _ _ _ => none) yh l bef s.next order [] a (s.bump n) (NormK K)) : SC P call fuel yh (.region id l.toArray true) a s K := by
  subst h1; subst h2; subst h3
  unfold SC
  simp only [evCode]
  unfold SD NormK at h
  have e : (⟨s.heap, s.next + l.toArray.size⟩ : AS) = s.bump l.length := rfl
  rw [e]
  revert h
  cases evDraw P (call fun _ _ _ => none) yh l (Region.before l.toArray).toList s.next (canon l.toArray) [] a (s.bump l.length) with
  | none => exact fun h => h
  | some r => obtain ⟨a1, s1⟩ := r; exact fun h => h

/-- Loops: what holds at each round's beginning, with a number that falls. -/
theorem SL_inv {P : AProg} {call : CallY} {fuel : Nat} {yh : YieldF} {B : Code} {K : AExit → AAct → AS → Prop} (Inv : Nat → AAct → AS → Prop)
    (hstep : ∀ (k : Nat) (a : AAct) (s : AS) (R : AExit → AAct → AS → Prop), Inv k a s → (∀ (k' : Nat) (a' : AAct) (s' : AS), k' < k → Inv k' a' s' → R .normal a' s') →
      (∀ (e : AExit) (a' : AAct) (s' : AS), e ≠ .normal → K e a' s' → R e a' s') → SC P call fuel yh B a s R) :
    ∀ (m k : Nat) (a : AAct) (s : AS), Inv k a s → k < m → SL P call fuel yh B m a s K := by
  intro m
  induction m with
  | zero => intro k a s _ h; exact absurd h (Nat.not_lt_zero _)
  | succ m ih =>
    intro k a s hi hk
    rw [SL_succ]
    refine hstep k a s _ hi (fun k' a' s' hk' hi' => ?_) (fun e a' s' he h => ?_)
    · exact ih k' a' s' hi' (by omega)
    · cases e with
      | normal => exact absurd rfl he
      | exit j => exact h
      | ret => exact h

/-- A piece of code ahead of another one: what holds between them. -/
theorem SC_seq_post {P : AProg} {call : CallY} {fuel : Nat} {yh : YieldF} {x y : Code} {a : AAct} {s : AS} {K : AExit → AAct → AS → Prop} (Post : AAct → AS → Prop)
    (h1 : ∀ R : AExit → AAct → AS → Prop, (∀ (a' : AAct) (s' : AS), Post a' s' → R .normal a' s') → (∀ (e : AExit) (a' : AAct) (s' : AS), e ≠ .normal → K e a' s' → R e a' s') → SC P call fuel yh x a s R)
    (h2 : ∀ (a' : AAct) (s' : AS), Post a' s' → SC P call fuel yh y a' s' K) : SC P call fuel yh (.seq x y) a s K := by
  rw [SC_seq]
  refine h1 _ (fun a' s' h => ?_) (fun e a' s' he h => ?_)
  · exact h2 a' s' h
  · cases e with
    | normal => exact absurd rfl he
    | exit j => exact h
    | ret => exact h

end Go.AM
