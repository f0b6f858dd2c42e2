/- The abstract machine with closed branches: operations, code, calls. -/
import Derived.Test.YtppdanlhccpajaaGreatDoorAmFast2
set_option linter.unusedSimpArgs false
set_option linter.unusedVariables false
set_option linter.unusedSectionVars false
namespace Go.AM
set_option linter.unusedVariables false
noncomputable section

def aoptK (x : Option Operand) (t : ATmps) : Option (Option AV) := @Option.rec Operand (fun _ => ATmps → Option (Option AV)) (fun _ => some none) (fun x t => obK (aevalK x t) fun v => some (some v)) x t
theorem aoptK_eq (x : Option Operand) (t : ATmps) : aoptK x t = aopt t x := by
  cases x with
  | none => rfl
  | some x =>
    show obK (aevalK x t) (fun v => some (some v)) = _
    rw [obK_eq, aevalK_eq]
    simp only [aopt]
    cases aeval t x <;> rfl

def nilSlowK (x : AV) (s : AS) : Option ARes :=
  match x with
  | .ptr (some a) => some (.val (.ptr (some a)) s)
  | .iptr a o => some (.val (.iptr a o) s)
  | .func (.func f) a b => some (.val (.func (.func f) a b) s)
  | _ => none
theorem nilSlowK_eq (x : AV) (s : AS) : ptrK x (nilSlowK x s) (fun a => some (.val (.ptr (some a)) s)) (fun v o => some (.val (.iptr v o) s)) = nilSlowK x s := by
  rw [ptrK_eq]
  cases x with
  | ptr a => cases a <;> rfl
  | _ => rfl

def valueCallK (P : AProg) (args : List AV) (f : AV) : Option ARes :=
  match f with
  | .func (.yield y) [] [] => some (.yield y args)
  | f => do
    let (g, as) ← callee P f args
    some (.enter g as)
def slowBuiltinK (b : Builtin) (P : AProg) (t : ATmps) (s : AS) (ats : Array TypeId) (args : List AV) : Option ARes :=
  match b with
  | .len =>
    match args with
    | [x] => (alenOp P s ats x).map fun v => .val v s
    | _ => none
  | .cap =>
    match args with
    | [x] => (acapOp P ats x).map fun v => .val v s
    | _ => none
  | .append =>
    match args with
    | [x, y] => if ats.size = 2 then (aappend P s ats x y).map fun (v, s) => .val v s else none
    | _ => none
  | .min => (aminmax false args).map fun v => .val v s
  | .max => (aminmax true args).map fun v => .val v s
  | .recover => some .recover
  | _ => none
def isLenK (b : Builtin) : Bool := match b with | .len => true | _ => false
def builtinK (b : Builtin) (P : AProg) (t : ATmps) (s : AS) (ats : Array TypeId) (args : List AV) : Option ARes :=
  @Bool.rec (fun _ => Option ARes) (slowBuiltinK b P t s ats args)
    (@List.rec AV (fun _ => Option ARes) none (fun x r _ => @List.rec AV (fun _ => Option ARes) (obK (alenK P s ats x) fun v => some (.val v s)) (fun _ _ _ => none) r) args) (isLenK b)
theorem builtinK_eq (b : Builtin) (P : AProg) (t : ATmps) (s : AS) (ats : Array TypeId) (args : List AV) : builtinK b P t s ats args = slowBuiltinK b P t s ats args := by
  cases b <;> first
    | rfl
    | (show (@List.rec AV (fun _ => Option ARes) none (fun x r _ => @List.rec AV (fun _ => Option ARes) (obK (alenK P s ats x) fun v => some (.val v s)) (fun _ _ _ => none) r) args) = _
       cases args with
       | nil => rfl
       | cons x r =>
         cases r with
         | nil =>
           show obK (alenK P s ats x) (fun v => some (ARes.val v s)) = _
           rw [obK_eq, alenK_eq]
           show _ = (alenOp P s ats x).map fun v => ARes.val v s
           cases alenOp P s ats x <;> rfl
         | cons y r => rfl)
def calleeK : Callee → AProg → ATmps → AS → Array TypeId → List AV → Option ARes := @Callee.rec (fun _ => AProg → ATmps → AS → Array TypeId → List AV → Option ARes)
  (fun f P t s _ args => obK (aevalK f t) fun f => valueCallK P args f) (fun _ _ _ _ _ _ _ => none) (fun b P t s ats args => builtinK b P t s ats args)

def evOpK : Op → AProg → ATmps → AS → Option ARes := @Op.rec (fun _ => AProg → ATmps → AS → Option ARes)
  (fun x P t s => obK (aevalK x t) fun v => some (.val v s))
  (fun x P t s => obK (aevalK x t) fun v => some (.val v s))
  (fun c a b P t s => obK (aevalK c t) fun c => boolK c none fun c => obK (@Bool.rec (fun _ => Option AV) (aevalK b t) (aevalK a t) c) fun v => some (.val v s))
  (fun e P t s => obK (zeroTyK P e) fun z => some (.val (.ptr (some ⟨s.next, 0, 0⟩)) (s.newK (.arr (lenK (cellsK z)) [z]))))
  (fun e x P t s => obK (aevalK x t) fun x => some (.val (.ptr (some ⟨s.next, 0, 0⟩)) (s.newK (.arr (lenK (cellsK x)) [x]))))
  (fun ty parts P t s => evOpOf (.build ty parts) P t s)
  (fun ty len parts P t s => evOpOf (.buildSlice ty len parts) P t s)
  (fun mt m k v P t s => evOpOf (.insert mt m k v) P t s)
  (fun ty a P t s => obK (aevalK a t) fun a => obK (aloadK P s ty a) fun v => some (.val v s))
  (fun ty a v P t s => obK (aevalK a t) fun a => obK (aevalK v t) fun v => obK (astoreK P s ty a v) fun s => some (.skip s))
  (fun g P t s => evOpOf (.ready g) P t s)
  (fun g P t s => evOpOf (.waits g) P t s)
  (fun x P t s => obK (aevalK x t) fun x => ptrK x (nilSlowK x s) (fun a => some (.val (.ptr (some a)) s)) (fun v o => some (.val (.iptr v o) s)))
  (fun op xt x y yt P t s => obK (aevalK x t) fun a => obK (aevalK y t) fun b => obK (binK P s op xt x y a b) fun v => some (.val v s))
  (fun op xt x P t s => obK (aevalK x t) fun x => obK (aunK op x) fun v => some (.val v s))
  (fun a b x P t s => evOpOf (.convert a b x) P t s)
  (fun d x P t s => evOpOf (.sliceToArrayPointer d x) P t s)
  (fun xt x P t s => evOpOf (.makeInterface xt x) P t s)
  (fun fn a b P t s => evOpOf (.makeFunc fn a b) P t s)
  (fun ty r P t s => evOpOf (.makeMap ty r) P t s)
  (fun ty x P t s => evOpOf (.makeChan ty x) P t s)
  (fun ty l c P t s => evOpOf (.makeSlice ty l c) P t s)
  (fun ty x lo hi mx P t s => obK (aoptK lo t) fun lo => obK (aoptK hi t) fun hi => obK (aoptK mx t) fun mx => obK (aevalK x t) fun x => obK (asliceK P ty x lo hi mx) fun v => some (.val v s))
  (fun ty x f P t s => obK (aevalK x t) fun x => obK (afieldAddrK P ty x f) fun v => some (.val v s))
  (fun ty x f P t s => evOpOf (.field ty x f) P t s)
  (fun ty x i P t s => obK (aevalK x t) fun x => obK (aevalK i t) fun i => obK (aindexAddrK P ty x i) fun v => some (.val v s))
  (fun ty x i P t s => obK (aevalK x t) fun x => obK (aevalK i t) fun i => obK (aindexK P ty x i) fun v => some (.val v s))
  (fun ty x i ok P t s => evOpOf (.lookup ty x i ok) P t s)
  (fun mt m k v P t s => evOpOf (.mapUpdate mt m k v) P t s)
  (fun mt m k P t s => evOpOf (.mapEntry mt m k) P t s)
  (fun mt m k v P t s => evOpOf (.entryStore mt m k v) P t s)
  (fun ty x P t s => evOpOf (.range ty x) P t s)
  (fun i b P t s => evOpOf (.next i b) P t s)
  (fun i P t s => evOpOf (.entry i) P t s)
  (fun x xt ty ok P t s => evOpOf (.typeAssert x xt ty ok) P t s)
  (fun x i P t s => obK (aevalK x t) fun x => tupleK x none fun vs => obK (nthK vs i) fun v => some (.val v s))
  (fun c P t s => obK (mapOptK (fun x => aevalK x t) c.args.toList) fun args => calleeK c.callee P t s c.argTypes args)
  (fun c P t s => evOpOf (.go c) P t s)
  (fun c P t s => evOpOf (.defer c) P t s)
  (fun x P t s => evOpOf (.panic x) P t s)
  (fun c x P t s => evOpOf (.send c x) P t s)
  (fun ty c ok P t s => evOpOf (.recv ty c ok) P t s)
  (fun cs b P t s => evOpOf (.select cs b) P t s)

theorem evOpK_eq (op : Op) (P : AProg) (t : ATmps) (s : AS) : evOpK op P t s = evOpOf op P t s := by
  cases op with
  | move x =>
    show (obK (aevalK x t) fun v => some (ARes.val v s) : Option ARes) = _
    simp only [obK_eq, aevalK_eq, aoptK_eq, aloadK_eq, astoreK_eq, binK_eq, aunK_eq, asliceK_eq, afieldAddrK_eq, aindexAddrK_eq, aindexK_eq, boolK_eq, tupleK_eq, nthK_eq, lenK_eq, cellsK_eq, AS.newK_eq, nilSlowK_eq]
    simp only [evOpOf, evOp, Option.bind_eq_bind]; cases aeval t x <;> rfl
  | assign x =>
    show (obK (aevalK x t) fun v => some (ARes.val v s) : Option ARes) = _
    simp only [obK_eq, aevalK_eq, aoptK_eq, aloadK_eq, astoreK_eq, binK_eq, aunK_eq, asliceK_eq, afieldAddrK_eq, aindexAddrK_eq, aindexK_eq, boolK_eq, tupleK_eq, nthK_eq, lenK_eq, cellsK_eq, AS.newK_eq, nilSlowK_eq]
    simp only [evOpOf, evOp, Option.bind_eq_bind]; cases aeval t x <;> rfl
  | pick c a b =>
    show (obK (aevalK c t) fun c => boolK c none fun c => obK (@Bool.rec (fun _ => Option AV) (aevalK b t) (aevalK a t) c) fun v => some (ARes.val v s) : Option ARes) = _
    simp only [obK_eq, aevalK_eq, aoptK_eq, aloadK_eq, astoreK_eq, binK_eq, aunK_eq, asliceK_eq, afieldAddrK_eq, aindexAddrK_eq, aindexK_eq, boolK_eq, tupleK_eq, nthK_eq, lenK_eq, cellsK_eq, AS.newK_eq, nilSlowK_eq]
    simp only [evOpOf, evOp, Option.bind_eq_bind]; cases aeval t c with
    | none => rfl
    | some c => cases c with
      | bool c => cases c with
        | true => cases aeval t a <;> rfl
        | false => cases aeval t b <;> rfl
      | _ => rfl
  | alloc e =>
    show (obK (zeroTyK P e) fun z => some (.val (.ptr (some ⟨s.next, 0, 0⟩)) (s.newK (.arr (lenK (cellsK z)) [z]))) : Option ARes) = _
    simp only [obK_eq, aevalK_eq, aoptK_eq, aloadK_eq, astoreK_eq, binK_eq, aunK_eq, asliceK_eq, afieldAddrK_eq, aindexAddrK_eq, aindexK_eq, boolK_eq, tupleK_eq, nthK_eq, lenK_eq, cellsK_eq, AS.newK_eq, nilSlowK_eq]
    simp only [evOpOf, evOp, zeroTyK, Option.bind_eq_bind]; cases P.ti e with
    | none => rfl
    | some j =>
      simp only [Option.bind_some]
      cases j.zero with
      | none => rfl
      | some z =>
        simp only [Option.bind_some]
        split <;> rfl
  | box e x =>
    show (obK (aevalK x t) fun x => some (.val (.ptr (some ⟨s.next, 0, 0⟩)) (s.newK (.arr (lenK (cellsK x)) [x]))) : Option ARes) = _
    simp only [obK_eq, aevalK_eq, aoptK_eq, aloadK_eq, astoreK_eq, binK_eq, aunK_eq, asliceK_eq, afieldAddrK_eq, aindexAddrK_eq, aindexK_eq, boolK_eq, tupleK_eq, nthK_eq, lenK_eq, cellsK_eq, AS.newK_eq, nilSlowK_eq]
    simp only [evOpOf, evOp, Option.bind_eq_bind]
  | load ty a =>
    show (obK (aevalK a t) fun a => obK (aloadK P s ty a) fun v => some (ARes.val v s) : Option ARes) = _
    simp only [obK_eq, aevalK_eq, aoptK_eq, aloadK_eq, astoreK_eq, binK_eq, aunK_eq, asliceK_eq, afieldAddrK_eq, aindexAddrK_eq, aindexK_eq, boolK_eq, tupleK_eq, nthK_eq, lenK_eq, cellsK_eq, AS.newK_eq, nilSlowK_eq]
    simp only [evOpOf, evOp, Option.bind_eq_bind]; cases aeval t a with
    | none => rfl
    | some a =>
      simp only [Option.bind_some]
      cases aload P s ty a <;> rfl
  | store ty a v =>
    show (obK (aevalK a t) fun a => obK (aevalK v t) fun v => obK (astoreK P s ty a v) fun s => some (.skip s) : Option ARes) = _
    simp only [obK_eq, aevalK_eq, aoptK_eq, aloadK_eq, astoreK_eq, binK_eq, aunK_eq, asliceK_eq, afieldAddrK_eq, aindexAddrK_eq, aindexK_eq, boolK_eq, tupleK_eq, nthK_eq, lenK_eq, cellsK_eq, AS.newK_eq, nilSlowK_eq]
    simp only [evOpOf, evOp, Option.bind_eq_bind]; cases aeval t a with
    | none => rfl
    | some a =>
      simp only [Option.bind_some]
      cases aeval t v with
      | none => rfl
      | some v =>
        simp only [Option.bind_some]
        cases astore P s ty a v <;> rfl
  | nilCheck x =>
    show (obK (aevalK x t) fun x => ptrK x (nilSlowK x s) (fun a => some (.val (.ptr (some a)) s)) (fun v o => some (.val (.iptr v o) s)) : Option ARes) = _
    simp only [obK_eq, aevalK_eq, aoptK_eq, aloadK_eq, astoreK_eq, binK_eq, aunK_eq, asliceK_eq, afieldAddrK_eq, aindexAddrK_eq, aindexK_eq, boolK_eq, tupleK_eq, nthK_eq, lenK_eq, cellsK_eq, AS.newK_eq, nilSlowK_eq]
    simp only [evOpOf, evOp, Option.bind_eq_bind]; cases aeval t x <;> rfl
  | binOp op xt x y yt =>
    show (obK (aevalK x t) fun a => obK (aevalK y t) fun b => obK (binK P s op xt x y a b) fun v => some (ARes.val v s) : Option ARes) = _
    simp only [obK_eq, aevalK_eq, aoptK_eq, aloadK_eq, astoreK_eq, binK_eq, aunK_eq, asliceK_eq, afieldAddrK_eq, aindexAddrK_eq, aindexK_eq, boolK_eq, tupleK_eq, nthK_eq, lenK_eq, cellsK_eq, AS.newK_eq, nilSlowK_eq]
    simp only [evOpOf, evOp, evBinK, Option.bind_eq_bind]; cases aeval t x with
    | none => rfl
    | some a =>
      simp only [Option.bind_some]
      cases aeval t y with
      | none => rfl
      | some b =>
        simp only [Option.bind_some]
        split
        · cases op <;> rfl
        · cases abin P s op xt a b <;> rfl
  | unOp op xt x =>
    show (obK (aevalK x t) fun x => obK (aunK op x) fun v => some (ARes.val v s) : Option ARes) = _
    simp only [obK_eq, aevalK_eq, aoptK_eq, aloadK_eq, astoreK_eq, binK_eq, aunK_eq, asliceK_eq, afieldAddrK_eq, aindexAddrK_eq, aindexK_eq, boolK_eq, tupleK_eq, nthK_eq, lenK_eq, cellsK_eq, AS.newK_eq, nilSlowK_eq]
    simp only [evOpOf, evOp, Option.bind_eq_bind]; cases aeval t x with
    | none => rfl
    | some x =>
      simp only [Option.bind_some]
      cases aun op x <;> rfl
  | slice ty x lo hi mx =>
    show (obK (aoptK lo t) fun lo => obK (aoptK hi t) fun hi => obK (aoptK mx t) fun mx => obK (aevalK x t) fun x => obK (asliceK P ty x lo hi mx) fun v => some (ARes.val v s) : Option ARes) = _
    simp only [obK_eq, aevalK_eq, aoptK_eq, aloadK_eq, astoreK_eq, binK_eq, aunK_eq, asliceK_eq, afieldAddrK_eq, aindexAddrK_eq, aindexK_eq, boolK_eq, tupleK_eq, nthK_eq, lenK_eq, cellsK_eq, AS.newK_eq, nilSlowK_eq]
    simp only [evOpOf, evOp, Option.bind_eq_bind]; cases aopt t lo with
    | none => rfl
    | some lo =>
      simp only [Option.bind_some]
      cases aopt t hi with
      | none => rfl
      | some hi =>
        simp only [Option.bind_some]
        cases aopt t mx with
        | none => rfl
        | some mx =>
          simp only [Option.bind_some]
          cases aeval t x with
          | none => rfl
          | some x =>
            simp only [Option.bind_some]
            cases aslice P ty x lo hi mx <;> rfl
  | fieldAddr ty x f =>
    show (obK (aevalK x t) fun x => obK (afieldAddrK P ty x f) fun v => some (ARes.val v s) : Option ARes) = _
    simp only [obK_eq, aevalK_eq, aoptK_eq, aloadK_eq, astoreK_eq, binK_eq, aunK_eq, asliceK_eq, afieldAddrK_eq, aindexAddrK_eq, aindexK_eq, boolK_eq, tupleK_eq, nthK_eq, lenK_eq, cellsK_eq, AS.newK_eq, nilSlowK_eq]
    simp only [evOpOf, evOp, Option.bind_eq_bind]; cases aeval t x with
    | none => rfl
    | some x =>
      simp only [Option.bind_some]
      cases afieldAddr P ty x f <;> rfl
  | indexAddr ty x i =>
    show (obK (aevalK x t) fun x => obK (aevalK i t) fun i => obK (aindexAddrK P ty x i) fun v => some (ARes.val v s) : Option ARes) = _
    simp only [obK_eq, aevalK_eq, aoptK_eq, aloadK_eq, astoreK_eq, binK_eq, aunK_eq, asliceK_eq, afieldAddrK_eq, aindexAddrK_eq, aindexK_eq, boolK_eq, tupleK_eq, nthK_eq, lenK_eq, cellsK_eq, AS.newK_eq, nilSlowK_eq]
    simp only [evOpOf, evOp, Option.bind_eq_bind]; cases aeval t x with
    | none => rfl
    | some x =>
      simp only [Option.bind_some]
      cases aeval t i with
      | none => rfl
      | some i =>
        simp only [Option.bind_some]
        cases aindexAddr P ty x i <;> rfl
  | index ty x i =>
    show (obK (aevalK x t) fun x => obK (aevalK i t) fun i => obK (aindexK P ty x i) fun v => some (ARes.val v s) : Option ARes) = _
    simp only [obK_eq, aevalK_eq, aoptK_eq, aloadK_eq, astoreK_eq, binK_eq, aunK_eq, asliceK_eq, afieldAddrK_eq, aindexAddrK_eq, aindexK_eq, boolK_eq, tupleK_eq, nthK_eq, lenK_eq, cellsK_eq, AS.newK_eq, nilSlowK_eq]
    simp only [evOpOf, evOp, Option.bind_eq_bind]; cases aeval t x with
    | none => rfl
    | some x =>
      simp only [Option.bind_some]
      cases aeval t i with
      | none => rfl
      | some i =>
        simp only [Option.bind_some]
        cases aindex P ty x i <;> rfl
  | extract x i =>
    show (obK (aevalK x t) fun x => tupleK x none fun vs => obK (nthK vs i) fun v => some (ARes.val v s) : Option ARes) = _
    simp only [obK_eq, aevalK_eq, aoptK_eq, aloadK_eq, astoreK_eq, binK_eq, aunK_eq, asliceK_eq, afieldAddrK_eq, aindexAddrK_eq, aindexK_eq, boolK_eq, tupleK_eq, nthK_eq, lenK_eq, cellsK_eq, AS.newK_eq, nilSlowK_eq]
    simp only [evOpOf, evOp, Option.bind_eq_bind]; cases aeval t x with
    | none => rfl
    | some x =>
      simp only [Option.bind_some]
      cases x with
      | tuple vs =>
        simp only
        cases vs[i]? <;> rfl
      | _ => rfl
  | call c =>
    obtain ⟨cal, args, ats⟩ := c
    show obK (mapOptK (fun x => aevalK x t) args.toList) (fun args => calleeK cal P t s ats args) = _
    simp only [obK_eq, mapOptK_eq, aevalK_eq]
    show _ = (mapOpt (aeval t) args.toList).bind _
    congr 1
    funext as
    cases cal with
    | value f =>
      show obK (aevalK f t) (fun f => valueCallK P as f) = _
      rw [obK_eq, aevalK_eq]
      rfl
    | invoke r n => rfl
    | builtin b =>
      show builtinK b P t s ats as = _
      rw [builtinK_eq]
      cases b <;> rfl
  | _ => rfl

/-! steps -/
def putK : Option Tmp → AAct → AV → AAct := @Option.rec Tmp (fun _ => AAct → AV → AAct) (fun a _ => a) (fun d a v => @AAct.rec (fun _ => Tmp → AV → AAct) (fun t ds m d v => .mk (t.setK d v) ds m) a d v)
theorem putK_eq (d : Option Tmp) (a : AAct) (v : AV) : putK d a v = a.put d v := by
  cases d with
  | none => rfl
  | some d => cases a; show AAct.mk (ATmps.setK _ _ _) _ _ = _; rw [ATmps.setK_eq]; rfl

def yieldedK (ops : List Oper) (j : Nat) (t : ATmps) : Option Bool := obK (obK (nthK ops j) (·.dst)) fun d => boolK (t.getK d) none some
def awantedK : Option (Nat × Bool) → List Oper → ATmps → Bool := @Option.rec (Nat × Bool) (fun _ => List Oper → ATmps → Bool) (fun _ _ => true)
  (fun g ops t => @Option.rec Bool (fun _ => Bool) false (fun b => b == g.2) (yieldedK ops g.1 t))
theorem yieldedK_eq (ops : List Oper) (j : Nat) (t : ATmps) : yieldedK ops j t = ayielded ops t j := by
  unfold yieldedK ayielded
  simp only [obK_eq, nthK_eq, boolK_eq, ATmps.getK_eq]
  cases (ops[j]?).bind (·.dst) with
  | none => rfl
  | some d => simp only [Option.bind_some]; cases t.get d <;> rfl
theorem awantedK_eq (o : Oper) (ops : List Oper) (t : ATmps) : awantedK o.guard ops t = awanted ops t o := by
  unfold awanted
  cases o.guard with
  | none => rfl
  | some g =>
    show @Option.rec Bool (fun _ => Bool) false (fun b => b == g.2) (yieldedK ops g.1 t) = _
    rw [yieldedK_eq]
    obtain ⟨j, want⟩ := g
    simp only
    cases ayielded ops t j <;> rfl

def contK : ARes → CallF → YieldF → AAct → Option Tmp → AS → Option (AAct × AS) := @ARes.rec (fun _ => CallF → YieldF → AAct → Option Tmp → AS → Option (AAct × AS))
  (fun v s _ _ a d _ => some (putK d a v, s)) (fun s _ _ a d _ => some (putK d a aundef, s))
  (fun f args call _ a d s => obK (call f args s) fun r => some (putK d a r.1, r.2))
  (fun f args _ _ a d s => some (putK d { a with defers := (f, args) :: a.defers } aundef, s))
  (fun y args _ yh a d s => obK (yh y args s) fun r => some (putK d a r.1, r.2)) (fun _ _ _ _ _ => none)
def step1K (P : AProg) (call : CallF) (yh : YieldF) (a : AAct) (s : AS) (o : Oper) : Option (AAct × AS) := obK (evOpK o.op P a.tmps s) fun r => contK r call yh a o.dst s
theorem step1K_eq (P : AProg) (call : CallF) (yh : YieldF) (a : AAct) (s : AS) (o : Oper) : step1K P call yh a s o = step1 P call yh a s o := by
  unfold step1K step1
  rw [evOpK_eq, evOpOf_eq, obK_eq]
  cases evOp P a.tmps s o with
  | none => rfl
  | some r =>
    simp only [Option.bind_some]
    cases r with
    | val v s1 => show some (putK _ _ _, _) = _; rw [putK_eq]
    | skip s1 => show some (putK _ _ _, _) = _; rw [putK_eq]
    | enter f args =>
      show obK (call f args s) (fun r => some (putK o.dst a r.1, r.2)) = _
      simp only [obK_eq, putK_eq]
      cases call f args s <;> rfl
    | yield y args =>
      show obK (yh y args s) (fun r => some (putK o.dst a r.1, r.2)) = _
      simp only [obK_eq, putK_eq]
      cases yh y args s <;> rfl
    | defer f args => show some (putK _ _ _, _) = _; rw [putK_eq]
    | recover => rfl

def evOpsK : List Oper → AProg → CallF → YieldF → List Oper → AAct → AS → Option (AAct × AS) := @List.rec Oper (fun _ => AProg → CallF → YieldF → List Oper → AAct → AS → Option (AAct × AS))
  (fun _ _ _ _ a s => some (a, s))
  (fun o _ ih P call yh ops a s => @Bool.rec (fun _ => Option (AAct × AS)) (ih P call yh ops (putK o.dst a aundef) s) (obK (step1K P call yh a s o) fun r => ih P call yh ops r.1 r.2) (awantedK o.guard ops a.tmps))
theorem evOpsK_eq (P : AProg) (call : CallF) (yh : YieldF) (ops : List Oper) : ∀ (l : List Oper) (a : AAct) (s : AS), evOpsK l P call yh ops a s = evOps P call yh ops l a s
  | [], a, s => rfl
  | o :: l, a, s => by
    show @Bool.rec (fun _ => Option (AAct × AS)) (evOpsK l P call yh ops (putK o.dst a aundef) s) (obK (step1K P call yh a s o) fun r => evOpsK l P call yh ops r.1 r.2) (awantedK o.guard ops a.tmps) = _
    simp only [evOps, obK_eq, step1K_eq, putK_eq, awantedK_eq, evOpsK_eq P call yh ops l]
    cases awanted ops a.tmps o with
    | false => rfl
    | true =>
      simp only [if_true]
      cases step1 P call yh a s o <;> rfl

/-! regions that draw -/
def readAgainK (P : AProg) (t : ATmps) (s : AS) (op : Op) : Option AV := obK (evOpK op P t s) fun r => @ARes.rec (fun _ => Option AV) (fun v _ => some v) (fun _ => none) (fun _ _ => none) (fun _ _ => none) (fun _ _ => none) none r
theorem readAgainK_eq (P : AProg) (t : ATmps) (s : AS) (o : Oper) : readAgainK P t s o.op = readAgain P t s o := by
  unfold readAgainK readAgain
  rw [evOpK_eq, evOpOf_eq, obK_eq]
  cases evOp P t s o with
  | none => rfl
  | some r => cases r <;> rfl
def unturnedK : Snaps → AProg → ATmps → Oper → Nat → AV → Bool := @List.rec (Nat × AS) (fun _ => AProg → ATmps → Oper → Nat → AV → Bool) (fun _ _ _ _ _ => true)
  (fun js _ ih P t o need v => @Bool.rec (fun _ => Bool) false (ih P t o need v) (@Bool.rec (fun _ => Bool) (@Option.rec AV (fun _ => Bool) false (fun u => alike u v) (readAgainK P t js.2 o.op)) true (need.testBit js.1)))
theorem unturnedK_eq (P : AProg) (t : ATmps) (o : Oper) (need : Nat) (v : AV) : ∀ sn : Snaps, unturnedK sn P t o need v = unturned P t o need v sn
  | [] => rfl
  | (j, s) :: sn => by
    show @Bool.rec (fun _ => Bool) false (unturnedK sn P t o need v) (@Bool.rec (fun _ => Bool) (@Option.rec AV (fun _ => Bool) false (fun u => alike u v) (readAgainK P t s o.op)) true (need.testBit j)) = _
    simp only [unturned, unturnedK_eq P t o need v sn, readAgainK_eq]
    cases need.testBit j with
    | true => simp
    | false =>
      cases readAgain P t s o with
      | none => simp
      | some u => simp; cases alike u v <;> simp

def drawCont (ops : List Oper) (bef : List Nat) (i : Nat) (o : Oper) (P : AProg) (call : CallF) (yh : YieldF) (base : Nat) (ih : Snaps → AAct → AS → Option (AAct × AS)) (sn : Snaps) (a : AAct) (s : AS) : Option (AAct × AS) :=
  @Bool.rec (fun _ => Option (AAct × AS)) (ih sn (putK o.dst a aundef) s)
    (@Bool.rec (fun _ => Option (AAct × AS))
      (@Bool.rec (fun _ => Option (AAct × AS))
        (obK (evOpK o.op P a.tmps { s with next := Nat.add base i }) fun r => @ARes.rec (fun _ => Option (AAct × AS)) (fun v s' => ih sn (putK o.dst a v) { s' with next := s.next }) (fun _ => none) (fun _ _ => none) (fun _ _ => none) (fun _ _ => none) none r)
        (obK (readAgainK P a.tmps s o.op) fun v => @Bool.rec (fun _ => Option (AAct × AS)) none (ih sn (putK o.dst a v) s) (unturnedK sn P a.tmps o (bef.getD i 0) v))
        (reads o.op))
      (obK (step1K P call yh a s o) fun r => ih ((i, s) :: sn) r.1 r.2)
      (acts o.op))
    (awantedK o.guard ops a.tmps)
def evDrawK : List Nat → AProg → CallF → YieldF → List Oper → List Nat → Nat → Snaps → AAct → AS → Option (AAct × AS) := @List.rec Nat (fun _ => AProg → CallF → YieldF → List Oper → List Nat → Nat → Snaps → AAct → AS → Option (AAct × AS))
  (fun _ _ _ _ _ _ _ a s => some (a, s))
  (fun i _ ih P call yh ops bef base sn a s => obK (nthK ops i) fun o => drawCont ops bef i o P call yh base (ih P call yh ops bef base) sn a s)
theorem evDrawK_eq (P : AProg) (call : CallF) (yh : YieldF) (ops : List Oper) (bef : List Nat) (base : Nat) : ∀ (l : List Nat) (sn : Snaps) (a : AAct) (s : AS), evDrawK l P call yh ops bef base sn a s = evDraw P call yh ops bef base l sn a s
  | [], sn, a, s => rfl
  | i :: l, sn, a, s => by
    have ih : (evDrawK l P call yh ops bef base) = (fun sn a s => evDraw P call yh ops bef base l sn a s) := by funext sn a s; exact evDrawK_eq P call yh ops bef base l sn a s
    show obK (nthK ops i) (fun o => drawCont ops bef i o P call yh base (evDrawK l P call yh ops bef base) sn a s) = _
    simp only [evDraw, obK_eq, nthK_eq, ih]
    cases ops[i]? with
    | none => rfl
    | some o =>
      simp only [Option.bind_some]
      unfold drawCont
      simp only [obK_eq, step1K_eq, putK_eq, awantedK_eq, readAgainK_eq, unturnedK_eq]
      cases awanted ops a.tmps o with
      | false => rfl
      | true =>
        simp only [if_true]
        cases acts o.op with
        | true =>
          simp only [if_true]
          cases step1 P call yh a s o <;> rfl
        | false =>
          simp only [Bool.false_eq_true, if_false]
          cases reads o.op with
          | true =>
            simp only [if_true, readAgain]
            cases evOp P a.tmps s o with
            | none => rfl
            | some r =>
              cases r with
              | val v s' =>
                simp only [Option.bind_some]
                cases unturned P a.tmps o (bef.getD i 0) v sn <;> rfl
              | _ => rfl
          | false =>
            simp only [Bool.false_eq_true, if_false]
            rw [evOpK_eq, evOpOf_eq]
            show Option.bind (evOp P a.tmps { s with next := base + i } o) _ = _
            cases evOp P a.tmps { s with next := base + i } o with
            | none => rfl
            | some r => cases r <;> rfl

/-! code -/
abbrev ResK := Option (AExit × AAct × AS)
def normK (e : AExit) (f : AAct → AS → ResK) (a : AAct) (s : AS) : ResK := @AExit.rec (fun _ => (AAct → AS → ResK) → AAct → AS → ResK) (fun f a s => f a s) (fun j _ a s => some (.exit j, a, s)) (fun _ a s => some (.ret, a, s)) e f a s
def thenK (r : ResK) (f : AAct → AS → ResK) : ResK := obK r fun x => normK x.1 f x.2.1 x.2.2
theorem thenK_eq (r : ResK) (f : AAct → AS → ResK) : thenK r f = match r with | some (.normal, a, s) => f a s | r => r := by
  cases r with
  | none => rfl
  | some x => obtain ⟨e, a, s⟩ := x; cases e <;> rfl
def loopNK : Nat → BodyF → AAct → AS → ResK := @Nat.rec (fun _ => BodyF → AAct → AS → ResK) (fun _ _ _ => none) (fun _ ih body a s => thenK (body a s) (ih body))
theorem loopNK_eq (body : BodyF) : ∀ (n : Nat) (a : AAct) (s : AS), loopNK n body a s = loopN body n a s
  | 0, a, s => rfl
  | n + 1, a, s => by
    show thenK (body a s) (loopNK n body) = _
    have ih : loopNK n body = fun a s => loopN body n a s := by funext a s; exact loopNK_eq body n a s
    rw [thenK_eq, ih]; rfl
def exitK (id : Nat) (e : AExit) (a : AAct) (s : AS) : ResK := @AExit.rec (fun _ => Nat → AAct → AS → ResK) (fun _ a s => some (.normal, a, s)) (fun j id a s => @Bool.rec (fun _ => ResK) (some (.exit j, a, s)) (some (.normal, a, s)) (Nat.beq j id)) (fun _ a s => some (.ret, a, s)) e id a s
def oneRoundK (assign body : BodyF) (t : ATmps) (params : List Tmp) (args : List AV) (s : AS) : Option AS := oneRound assign body t params args s

abbrev NoY : YieldF := fun _ _ _ => none
def evCodeK : Code → AProg → (YieldF → CallF) → Nat → YieldF → AAct → AS → ResK := @Code.rec (fun _ => AProg → (YieldF → CallF) → Nat → YieldF → AAct → AS → ResK)
  (fun _ _ _ _ a s => some (.normal, a, s))
  (fun _ ops draw P call fuel yh a s => @Bool.rec (fun _ => ResK) (obK (evOpsK ops.toList P (call NoY) yh ops.toList a s) fun r => some (.normal, r))
    (obK (evDrawK (canon ops) P (call NoY) yh ops.toList (Region.before ops).toList s.next [] a { s with next := Nat.add s.next ops.size }) fun r => some (.normal, r)) draw)
  (fun _ _ ihx ihy P call fuel yh a s => thenK (ihx P call fuel yh a s) (ihy P call fuel yh))
  (fun c _ _ ihx ihy P call fuel yh a s => obK (aevalK c a.tmps) fun c => boolK c none fun c => @Bool.rec (fun _ => ResK) (ihy P call fuel yh a s) (ihx P call fuel yh a s) c)
  (fun id _ ihx P call fuel yh a s => obK (ihx P call fuel yh a s) fun x => exitK id x.1 x.2.1 x.2.2)
  (fun _ ihx P call fuel yh a s => loopNK fuel (ihx P call fuel yh) a s)
  (fun f params _ _ iha ihb P call fuel yh a s =>
    match aeval a.tmps f with
    | some (.func (.func g) [] captured) =>
      match callee P (.func (.func g) [] captured) [.func (.yield s.next) [] []] with
      | some (g, args) =>
        match call (fun y args s' => if Nat.beq y s.next then
            match oneRound (iha P call fuel NoY) (ihb P call fuel NoY) a.tmps params.toList args s' with
            | some s' => some (.bool true, s')
            | none => none
          else none) g args { s.kill s.next with next := s.next + 1 } with
        | some (_, s') => some (.normal, { a with marks := a.marks + 1 }, s')
        | none => none
      | none => none
    | _ => none)
  (fun id _ _ _ _ a s => some (.exit id, a, s))
  (fun _ _ _ _ _ _ _ _ => none) (fun _ _ _ _ _ _ _ => none) (fun _ _ _ _ _ _ _ => none)
  (fun _ _ _ _ a s => some (.ret, a, s)) (fun _ _ _ _ _ _ _ => none)
theorem evCodeK_eq (P : AProg) (call : YieldF → CallF) (fuel : Nat) : ∀ (x : Code) (yh : YieldF) (a : AAct) (s : AS), evCodeK x P call fuel yh a s = evCode P call fuel yh x a s
  | .skip, yh, a, s => rfl
  | .region id ops draw, yh, a, s => by
    cases draw with
    | true =>
      show obK (evDrawK (canon ops) P (call NoY) yh ops.toList (Region.before ops).toList s.next [] a { s with next := Nat.add s.next ops.size }) (fun r => some (AExit.normal, r)) = _
      rw [evDrawK_eq, obK_eq]
      simp only [evCode]
      show Option.bind (evDraw P (call fun _ _ _ => none) yh ops.toList (Region.before ops).toList s.next (canon ops) [] a { s with next := s.next + ops.size }) _ = _
      cases evDraw P (call fun _ _ _ => none) yh ops.toList (Region.before ops).toList s.next (canon ops) [] a { s with next := s.next + ops.size } <;> rfl
    | false =>
      show obK (evOpsK ops.toList P (call NoY) yh ops.toList a s) (fun r => some (AExit.normal, r)) = _
      rw [evOpsK_eq, obK_eq]
      simp only [evCode]
      cases evOps P (call fun _ _ _ => none) yh ops.toList ops.toList a s <;> rfl
  | .seq x y, yh, a, s => by
    show thenK (evCodeK x P call fuel yh a s) (evCodeK y P call fuel yh) = _
    have ih : evCodeK y P call fuel yh = fun a s => evCode P call fuel yh y a s := by funext a s; exact evCodeK_eq P call fuel y yh a s
    rw [thenK_eq, evCodeK_eq P call fuel x, ih]
    simp only [evCode]
    generalize evCode P call fuel yh x a s = r
    cases r with
    | none => rfl
    | some r =>
      obtain ⟨e, a1, s1⟩ := r
      cases e <;> rfl
  | .cond c x y, yh, a, s => by
    show obK (aevalK c a.tmps) (fun c => boolK c none fun c => @Bool.rec (fun _ => ResK) (evCodeK y P call fuel yh a s) (evCodeK x P call fuel yh a s) c) = _
    simp only [obK_eq, aevalK_eq, boolK_eq, evCodeK_eq P call fuel x, evCodeK_eq P call fuel y, evCode]
    cases aeval a.tmps c with
    | none => rfl
    | some v =>
      simp only [Option.bind_some]
      cases v with
      | bool b => cases b <;> rfl
      | _ => rfl
  | .block id x, yh, a, s => by
    show obK (evCodeK x P call fuel yh a s) (fun x => exitK id x.1 x.2.1 x.2.2) = _
    simp only [obK_eq, evCodeK_eq P call fuel x, evCode]
    cases evCode P call fuel yh x a s with
    | none => rfl
    | some r =>
      obtain ⟨e, a, s⟩ := r
      cases e with
      | exit j =>
        simp only [Option.bind_some]
        show @Bool.rec (fun _ => ResK) (some (.exit j, a, s)) (some (.normal, a, s)) (Nat.beq j id) = _
        cases Nat.beq j id <;> rfl
      | _ => rfl
  | .loop x, yh, a, s => by
    show loopNK fuel (evCodeK x P call fuel yh) a s = _
    have ih : evCodeK x P call fuel yh = fun a s => evCode P call fuel yh x a s := by funext a s; exact evCodeK_eq P call fuel x yh a s
    rw [loopNK_eq, ih]
    simp only [evCode]
  | .rangeFunc f params x y, yh, a, s => by
    have ih1 : evCodeK x P call fuel NoY = fun a s => evCode P call fuel NoY x a s := by funext a s; exact evCodeK_eq P call fuel x NoY a s
    have ih2 : evCodeK y P call fuel NoY = fun a s => evCode P call fuel NoY y a s := by funext a s; exact evCodeK_eq P call fuel y NoY a s
    simp only [evCode]
    rw [show (fun a s => evCode P call fuel NoY x a s) = evCode P call fuel NoY x from rfl] at ih1
    rw [show (fun a s => evCode P call fuel NoY y a s) = evCode P call fuel NoY y from rfl] at ih2
    rw [show (evCode P call fuel (fun _ _ _ => none) x) = evCodeK x P call fuel NoY from ih1.symm, show (evCode P call fuel (fun _ _ _ => none) y) = evCodeK y P call fuel NoY from ih2.symm]
    rfl
  | .exit id, yh, a, s => rfl
  | .scope x, yh, a, s => rfl
  | .label l, yh, a, s => rfl
  | .goto l, yh, a, s => rfl
  | .ret, yh, a, s => rfl
  | .refuse w, yh, a, s => rfl

/-! calls -/
def setsK : List AV → Nat → ATmps → ATmps := @List.rec AV (fun _ => Nat → ATmps → ATmps) (fun _ t => t) (fun v _ ih i t => ih (Nat.succ i) (t.setK i v))
theorem setsK_eq : ∀ (l : List AV) (i : Nat) (t : ATmps), setsK l i t = initGo l i t
  | [], i, t => rfl
  | v :: l, i, t => by show setsK l (i + 1) (t.setK i v) = _; rw [setsK_eq l, ATmps.setK_eq]; rfl
def resultK : ResultVar → AProg → ATmps → AS → Option AV := @ResultVar.rec (fun _ => AProg → ATmps → AS → Option AV) (fun i _ t _ => some (t.getK i)) (fun a ty P t s => aloadK P s ty (t.getK a))
theorem resultK_eq (r : ResultVar) (P : AProg) (t : ATmps) (s : AS) : resultK r P t s = results1 P t s r := by
  cases r with
  | tmp i => show some (t.getK i) = _; rw [ATmps.getK_eq]; rfl
  | cell a ty => show aloadK P s ty (t.getK a) = _; rw [aloadK_eq, ATmps.getK_eq]; rfl
def tupledK (l : List AV) : AV := @List.rec AV (fun _ => List AV → AV) (fun l => .tuple l) (fun v r _ l => @List.rec AV (fun _ => AV → List AV → AV) (fun v _ => v) (fun _ _ _ _ l => .tuple l) r v l) l l
theorem tupledK_eq (l : List AV) : tupledK l = tupled l := by
  cases l with
  | nil => rfl
  | cons v r => cases r <;> rfl
def leaveK (P : AProg) (call : CallF) (fn : Func) (a : AAct) (s : AS) : Option (AV × AS) :=
  @List.rec (FuncId × List AV) (fun _ => Option (AV × AS)) (obK (mapOptK (fun r => resultK r P a.tmps s) fn.results.toList) fun l => some (tupledK l, s)) (fun _ _ _ => leave P call fn a s) a.defers
theorem leaveK_eq (P : AProg) (call : CallF) (fn : Func) (a : AAct) (s : AS) : leaveK P call fn a s = leave P call fn a s := by
  obtain ⟨t, ds, m⟩ := a
  cases ds with
  | cons d ds => rfl
  | nil =>
    show obK (mapOptK (fun r => resultK r P t s) fn.results.toList) (fun l => some (tupledK l, s)) = _
    simp only [obK_eq, mapOptK_eq, resultK_eq, tupledK_eq]
    unfold leave
    simp only [List.isEmpty_nil, Bool.or_true, if_true, runDefers]
    unfold aresults
    show Option.bind (mapOpt (results1 P t s) fn.results.toList) _ = _
    cases mapOpt (results1 P t s) fn.results.toList <;> rfl
def endK (e : AExit) (P : AProg) (call : CallF) (fn : Func) (a : AAct) (s : AS) : Option (AV × AS) :=
  @AExit.rec (fun _ => AProg → CallF → Func → AAct → AS → Option (AV × AS)) leaveK (fun _ _ _ _ _ _ => none) leaveK e P call fn a s
def fnK (P : AProg) (f : FuncId) : Option Func := P.fn f
def evCallK : Nat → AProg → Nat → YieldF → CallF := @Nat.rec (fun _ => AProg → Nat → YieldF → CallF) (fun _ _ _ _ _ _ => none)
  (fun _ ih P fuel yh f args s => obK (fnK P f) fun fn => obK fn.body fun c =>
    obK (evCodeK c P (ih P fuel) fuel yh { tmps := setsK args 0 (ATmps.new (max fn.ntmps args.length)), defers := [], marks := 0 } s) fun r => endK r.1 P (ih P fuel NoY) fn r.2.1 r.2.2)
theorem evCallK_eq (P : AProg) (fuel : Nat) : ∀ n, evCallK n P fuel = evCall P fuel n
  | 0 => rfl
  | n + 1 => by
    funext yh f args s
    show obK (fnK P f) (fun fn => obK fn.body fun c =>
      obK (evCodeK c P (evCallK n P fuel) fuel yh { tmps := setsK args 0 (ATmps.new (max fn.ntmps args.length)), defers := [], marks := 0 } s) fun r => endK r.1 P (evCallK n P fuel NoY) fn r.2.1 r.2.2) = _
    rw [evCallK_eq P fuel n]
    simp only [obK_eq, evCodeK_eq, setsK_eq, fnK, evCall]
    cases P.fn f with
    | none => rfl
    | some fn =>
      simp only [Option.bind_some]
      cases fn.body with
      | none => rfl
      | some c =>
        simp only [Option.bind_some]
        show Option.bind (evCode P (evCall P fuel n) fuel yh c { tmps := initTmps fn.ntmps args, defers := [], marks := 0 } s) _ = _
        cases evCode P (evCall P fuel n) fuel yh c { tmps := initTmps fn.ntmps args, defers := [], marks := 0 } s with
        | none => rfl
        | some r =>
          obtain ⟨e, a, s⟩ := r
          simp only [Option.bind_some]
          cases e with
          | normal => exact leaveK_eq _ _ _ _ _
          | exit j => rfl
          | ret => exact leaveK_eq _ _ _ _ _

end
end Go.AM
