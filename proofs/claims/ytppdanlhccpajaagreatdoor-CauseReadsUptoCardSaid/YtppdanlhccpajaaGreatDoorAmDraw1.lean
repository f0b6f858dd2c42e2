/- What an operation goes by: its operands; the state's number, where it makes an object; the heap, where it reads. -/
import Derived.Test.YtppdanlhccpajaaGreatDoorAmCode
set_option linter.unusedSimpArgs false
set_option linter.unusedVariables false
set_option linter.unusedSectionVars false
namespace Go.AM

theorem mapOpt_congr {α β : Type} {f g : α → Option β} : ∀ (l : List α), (∀ a ∈ l, f a = g a) → mapOpt f l = mapOpt g l
  | [], _ => rfl
  | a :: l, h => by
    simp only [mapOpt]
    rw [h a (by simp), mapOpt_congr l fun b hb => h b (by simp [hb])]

theorem aopt_congr {t t' : ATmps} {x : Option Operand} (h : ∀ y, x = some y → aeval t y = aeval t' y) : aopt t x = aopt t' x := by
  cases x with
  | none => rfl
  | some y => simp only [aopt, h y rfl]

theorem parts_congr {t t' : ATmps} {parts : Array (Nat × Operand)} (h : ∀ x ∈ (parts.toList.map (·.2)).toArray, aeval t x = aeval t' x) :
    mapOpt (fun (i, x) => (aeval t x).map fun v => (i, v)) parts.toList = mapOpt (fun (i, x) => (aeval t' x).map fun v => (i, v)) parts.toList :=
  mapOpt_congr _ fun ⟨i, x⟩ hx => by
    have := h x (by simp; exact ⟨i, by simpa using hx⟩)
    simp only [this]

theorem evOp_tmps {P : AProg} {t t' : ATmps} {s : AS} {o : Oper} (h : ∀ x ∈ o.op.operands, aeval t x = aeval t' x) : evOp P t s o = evOp P t' s o := by
  cases ho : o.op with
  | build ty parts =>
    rw [ho] at h
    simp only [evOp, ho, parts_congr h]
  | buildSlice ty len parts =>
    rw [ho] at h
    simp only [evOp, ho, parts_congr h]
  | makeFunc fn a b =>
    rw [ho] at h
    simp only [Op.operands, Array.mem_append] at h
    have h1 : mapOpt (aeval t) a.toList = mapOpt (aeval t') a.toList := mapOpt_congr _ fun x hx => h x (.inl (by simpa using hx))
    have h2 : mapOpt (aeval t) b.toList = mapOpt (aeval t') b.toList := mapOpt_congr _ fun x hx => h x (.inr (by simpa using hx))
    simp only [evOp, ho, h1, h2]
  | slice ty x lo hi mx =>
    rw [ho] at h
    simp only [Op.operands, Array.mem_append] at h
    have h1 : aopt t lo = aopt t' lo := aopt_congr fun y hy => h y (by subst hy; simp)
    have h2 : aopt t hi = aopt t' hi := aopt_congr fun y hy => h y (by subst hy; simp)
    have h3 : aopt t mx = aopt t' mx := aopt_congr fun y hy => h y (by subst hy; simp)
    have h4 : aeval t x = aeval t' x := h x (by simp)
    simp only [evOp, ho, h1, h2, h3, h4]
  | call c =>
    rw [ho] at h
    simp only [Op.operands, Call.operands, Array.mem_append] at h
    have h1 : mapOpt (aeval t) c.args.toList = mapOpt (aeval t') c.args.toList := mapOpt_congr _ fun x hx => h x (.inr (by simpa using hx))
    simp only [evOp, ho, h1]
    congr 1
    funext args
    cases hc : c.callee with
    | value f =>
      have : aeval t f = aeval t' f := h f (.inl (by rw [hc]; simp))
      simp only [this]
    | invoke r n => rfl
    | builtin b => cases b <;> rfl
  | defer c =>
    rw [ho] at h
    simp only [Op.operands, Call.operands, Array.mem_append] at h
    have h1 : mapOpt (aeval t) c.args.toList = mapOpt (aeval t') c.args.toList := mapOpt_congr _ fun x hx => h x (.inr (by simpa using hx))
    simp only [evOp, ho, h1]
    congr 1
    funext args
    cases hc : c.callee with
    | value f =>
      have : aeval t f = aeval t' f := h f (.inl (by rw [hc]; simp))
      simp only [this]
    | invoke r n => rfl
    | builtin b => rfl
  | makeMap ty r => simp only [evOp, ho]
  | _ =>
    rw [ho] at h
    simp [Op.operands] at h
    try simp only [evOp, ho, h]

/-- What neither acts nor reads: a value out of the operands, or one new object. -/
theorem evOp_shape {P : AProg} {t : ATmps} {o : Oper} (ha : acts o.op = false) (hr : reads o.op = false) :
    (∃ X : Option AV, ∀ s, evOp P t s o = X.map fun v => .val v s) ∨ (∃ Y : Nat → Option (AV × AObj), ∀ s, evOp P t s o = (Y s.next).map fun y => .val y.1 (s.new y.2).2) := by
  cases ho : o.op with
  | move x => exact .inl ⟨aeval t x, fun s => by simp only [evOp, ho]⟩
  | assign x => exact .inl ⟨aeval t x, fun s => by simp only [evOp, ho]⟩
  | pick c a b =>
    refine .inl ⟨(aeval t c).bind fun c => match c with | .bool c => (if c then aeval t a else aeval t b) | _ => none, fun s => ?_⟩
    simp only [evOp, ho]
    cases aeval t c with
    | none => rfl
    | some v => cases v <;> rfl
  | alloc e =>
    refine .inr ⟨fun n => (P.ti e).bind fun j => j.zero.bind fun z => if z.cells.length ≠ j.size then none else some (.ptr (some ⟨n, 0, 0⟩), .arr z.cells.length [z]), fun s => ?_⟩
    simp only [evOp, ho]
    cases P.ti e with
    | none => rfl
    | some j =>
      simp only [Option.bind_eq_bind, Option.bind_some]
      cases j.zero with
      | none => rfl
      | some z =>
        simp only [Option.bind_some]
        split <;> rfl
  | box e x =>
    refine .inr ⟨fun n => (aeval t x).map fun x => (.ptr (some ⟨n, 0, 0⟩), .arr x.cells.length [x]), fun s => ?_⟩
    simp only [evOp, ho]
    cases aeval t x <;> rfl
  | build ty parts =>
    refine .inl ⟨(mapOpt (fun (i, x) => (aeval t x).map fun v => (i, v)) parts.toList).bind fun ps => abuild P ty ps, fun s => ?_⟩
    simp only [evOp, ho]
    cases mapOpt (fun (i, x) => (aeval t x).map fun v => (i, v)) parts.toList <;> rfl
  | buildSlice ty len parts =>
    refine .inr ⟨fun n => (mapOpt (fun (i, x) => (aeval t x).map fun v => (i, v)) parts.toList).bind fun ps => (P.ti ty).bind fun i => match i.kind with
      | .slice e => (P.ti e).bind fun j => if len * j.size > 2 ^ 24 ∨ j.size = 0 then none else j.zero.bind fun z =>
          if ps.any (fun (i, v) => decide (len ≤ i) || decide (v.cells.length ≠ j.size)) then none else
          if z.cells.length ≠ j.size then none else
          some (.slice (some ⟨n, 0, j.size⟩) len (some len), .arr j.size (setAll (List.replicate len z) ps))
      | _ => none, fun s => ?_⟩
    simp only [evOp, ho]
    cases mapOpt (fun (i, x) => (aeval t x).map fun v => (i, v)) parts.toList with
    | none => rfl
    | some ps =>
      simp only [Option.bind_eq_bind, Option.bind_some, abuildSlice]
      cases P.ti ty with
      | none => rfl
      | some i =>
        simp only [Option.bind_some]
        cases i.kind with
        | slice e =>
          simp only
          cases P.ti e with
          | none => rfl
          | some j =>
            simp only [Option.bind_some]
            split
            · rfl
            · cases j.zero with
              | none => rfl
              | some z =>
                simp only [Option.bind_some]
                split
                · rfl
                · split <;> rfl
        | _ => rfl
  | load ty x => rw [ho] at hr; simp [reads] at hr
  | store ty x y => rw [ho] at ha; simp [acts] at ha
  | nilCheck x =>
    refine .inl ⟨(aeval t x).bind fun x => match x with
      | .ptr (some a) => some (.ptr (some a))
      | .iptr a o => some (.iptr a o)
      | .func (.func f) a b => some (.func (.func f) a b)
      | _ => none, fun s => ?_⟩
    simp only [evOp, ho]
    cases aeval t x with
    | none => rfl
    | some v =>
      simp only [Option.bind_eq_bind, Option.bind_some]
      split <;> simp_all
  | binOp op xt x y yt =>
    refine .inl ⟨(aeval t x).bind fun a => (aeval t y).bind fun b => if nilLit P xt x y a b then none else abin P { heap := .leaf, next := 0 } op xt a b, fun s => ?_⟩
    have hop : op ≠ .eql ∧ op ≠ .neq := by
      rw [ho] at hr
      constructor <;> (rintro rfl; simp [reads] at hr)
    simp only [evOp, ho]
    cases aeval t x with
    | none => rfl
    | some a =>
      simp only [Option.bind_eq_bind, Option.bind_some]
      cases aeval t y with
      | none => rfl
      | some b =>
        simp only [Option.bind_some]
        have e : abin P s op xt a b = abin P { heap := .leaf, next := 0 } op xt a b := by
          unfold abin
          split
          · rfl
          · rfl
          · cases op <;> first | rfl | exact absurd rfl hop.1 | exact absurd rfl hop.2
        rw [e]
        split
        · cases op <;> first | rfl | exact absurd rfl hop.1 | exact absurd rfl hop.2
        · rfl
  | unOp op ty x =>
    refine .inl ⟨(aeval t x).bind fun x => aun op x, fun s => ?_⟩
    simp only [evOp, ho]
    cases aeval t x <;> rfl
  | convert a b x =>
    refine .inl ⟨(aeval t x).bind fun x => aconvert P a b x, fun s => ?_⟩
    simp only [evOp, ho]
    cases aeval t x <;> rfl
  | makeInterface ty x =>
    refine .inl ⟨(aeval t x).bind fun x => amakeInterface P ty x, fun s => ?_⟩
    simp only [evOp, ho]
    cases aeval t x <;> rfl
  | makeFunc fn a b =>
    refine .inl ⟨(mapOpt (aeval t) a.toList).bind fun a => (mapOpt (aeval t) b.toList).bind fun b => match fn with | .yield _ => none | fn => some (.func fn a b), fun s => ?_⟩
    simp only [evOp, ho]
    cases mapOpt (aeval t) a.toList with
    | none => rfl
    | some a =>
      simp only [Option.bind_eq_bind, Option.bind_some]
      cases mapOpt (aeval t) b.toList with
      | none => rfl
      | some b => cases fn <;> rfl
  | makeMap ty r =>
    refine .inr ⟨fun n => match r with | some _ => none | none => some (.map (some n), .map []), fun s => ?_⟩
    simp only [evOp, ho]
    cases r <;> rfl
  | makeSlice ty l c =>
    refine .inr ⟨fun n => (aeval t l).bind fun len => (aeval t c).bind fun cap => (P.ti ty).bind fun i => match i.kind, len, cap with
      | .slice e, .int _ l, .int _ c => (P.ti e).bind fun j =>
          if l < 0 ∨ l > c ∨ c > 9223372036854775807 ∨ j.bytes * c > 2 ^ 47 ∨ j.size = 0 then none else j.zero.bind fun z =>
          if z.cells.length ≠ j.size then none else
          some (.slice (some ⟨n, 0, j.size⟩) l.toNat (some c.toNat), .arr j.size (List.replicate c.toNat z))
      | _, _, _ => none, fun s => ?_⟩
    simp only [evOp, ho]
    cases aeval t l with
    | none => rfl
    | some len =>
      simp only [Option.bind_eq_bind, Option.bind_some]
      cases aeval t c with
      | none => rfl
      | some cap =>
        simp only [Option.bind_some, amakeSlice]
        cases P.ti ty with
        | none => rfl
        | some i =>
          simp only [Option.bind_eq_bind, Option.bind_some]
          cases i.kind with
          | slice e =>
            simp only
            cases hj : P.ti e with
            | none => cases len <;> cases cap <;> simp [hj]
            | some j =>
              simp only [Option.bind_some]
              cases len with
              | int k l =>
                cases cap with
                | int k2 c =>
                  simp only [hj, Option.bind_some]
                  split
                  · rfl
                  · cases j.zero with
                    | none => rfl
                    | some z =>
                      simp only [Option.bind_some]
                      split <;> rfl
                | _ => rfl
              | _ => rfl
          | _ => rfl
  | slice ty x lo hi mx =>
    refine .inl ⟨(aopt t lo).bind fun lo => (aopt t hi).bind fun hi => (aopt t mx).bind fun mx => (aeval t x).bind fun x => aslice P ty x lo hi mx, fun s => ?_⟩
    simp only [evOp, ho]
    cases aopt t lo with
    | none => rfl
    | some lo =>
      simp only [Option.bind_eq_bind, Option.bind_some]
      cases aopt t hi with
      | none => rfl
      | some hi =>
        simp only [Option.bind_some]
        cases aopt t mx with
        | none => rfl
        | some mx =>
          simp only [Option.bind_some]
          cases aeval t x <;> rfl
  | fieldAddr ty x f =>
    refine .inl ⟨(aeval t x).bind fun x => afieldAddr P ty x f, fun s => ?_⟩
    simp only [evOp, ho]
    cases aeval t x <;> rfl
  | field ty x f =>
    refine .inl ⟨(aeval t x).bind fun x => afield P ty x f, fun s => ?_⟩
    simp only [evOp, ho]
    cases aeval t x <;> rfl
  | indexAddr ty x i =>
    refine .inl ⟨(aeval t x).bind fun x => (aeval t i).bind fun i => aindexAddr P ty x i, fun s => ?_⟩
    simp only [evOp, ho]
    cases aeval t x with
    | none => rfl
    | some a =>
      simp only [Option.bind_eq_bind, Option.bind_some]
      cases aeval t i <;> rfl
  | index ty x i =>
    refine .inl ⟨(aeval t x).bind fun x => (aeval t i).bind fun i => aindex P ty x i, fun s => ?_⟩
    simp only [evOp, ho]
    cases aeval t x with
    | none => rfl
    | some a =>
      simp only [Option.bind_eq_bind, Option.bind_some]
      cases aeval t i <;> rfl
  | typeAssert x xt ty ok =>
    refine .inl ⟨(aeval t x).bind fun x => atypeAssert P x ty ok, fun s => ?_⟩
    simp only [evOp, ho]
    cases aeval t x <;> rfl
  | extract x i =>
    refine .inl ⟨(aeval t x).bind fun x => match x with | .tuple vs => vs[i]? | _ => none, fun s => ?_⟩
    simp only [evOp, ho]
    cases aeval t x with
    | none => rfl
    | some v => cases v <;> rfl
  | lookup ty x i ok => rw [ho] at hr; simp [reads] at hr
  | mapUpdate ty m k x => rw [ho] at ha; simp [acts] at ha
  | insert ty m k x => rw [ho] at ha; simp [acts] at ha
  | defer c => rw [ho] at ha; simp [acts] at ha
  | call c =>
    rw [ho] at ha hr
    obtain ⟨cal, args, ats⟩ := c
    cases cal with
    | value f => simp [acts] at ha
    | invoke r n => simp [acts] at ha
    | builtin b =>
      cases b <;> first
        | (simp [acts] at ha; done)
        | (simp [reads] at hr; done)
        | (refine .inl ⟨(mapOpt (aeval t) args.toList).bind fun l => match l with | [x] => acapOp P ats x | _ => none, fun s => ?_⟩
           simp only [evOp, ho]
           cases mapOpt (aeval t) args.toList with
           | none => rfl
           | some l =>
             simp only [Option.bind_eq_bind, Option.bind_some]
             split <;> simp_all
           done)
        | (refine .inl ⟨(mapOpt (aeval t) args.toList).bind fun l => aminmax false l, fun s => ?_⟩
           simp only [evOp, ho]
           cases mapOpt (aeval t) args.toList <;> rfl
           done)
        | (refine .inl ⟨(mapOpt (aeval t) args.toList).bind fun l => aminmax true l, fun s => ?_⟩
           simp only [evOp, ho]
           cases mapOpt (aeval t) args.toList <;> rfl
           done)
  | _ => exact .inl ⟨none, fun s => by simp only [evOp, ho]; rfl⟩

end Go.AM
