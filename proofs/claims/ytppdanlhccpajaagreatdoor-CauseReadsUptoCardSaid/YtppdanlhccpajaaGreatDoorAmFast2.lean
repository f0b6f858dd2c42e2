/- The operations of the abstract machine, with closed branches. -/
import Derived.Test.YtppdanlhccpajaaGreatDoorAmFast1
set_option linter.unusedSimpArgs false
set_option linter.unusedVariables false
set_option linter.unusedSectionVars false
namespace Go.AM
set_option linter.unusedVariables false
noncomputable section

theorem beq_dec (a b : Nat) : Nat.beq a b = decide (a = b) := by
  rw [Bool.eq_iff_iff, decide_eq_true_eq]
  exact ⟨Nat.eq_of_beq_eq_true, fun h => by subst h; exact Nat.beq_refl _⟩
theorem ble_dec (a b : Nat) : Nat.ble a b = decide (a ≤ b) := by
  rw [Bool.eq_iff_iff, decide_eq_true_eq]
  exact ⟨Nat.le_of_ble_eq_true, Nat.ble_eq_true_of_le⟩
theorem rec_if {β : Type} (p : Prop) [Decidable p] (a b : β) : @Bool.rec (fun _ => β) a b (decide p) = if p then b else a := by
  by_cases h : p
  · rw [if_pos h, decide_eq_true h]
  · rw [if_neg h, decide_eq_false h]
def AS.getK : AS → Nat → Option AObj := @AS.rec (fun _ => Nat → Option AObj) fun h _ i => h.getK i
theorem AS.getK_eq (s : AS) (i : Nat) : s.getK i = s.get i := by cases s; exact Trie.getK_eq _ _
def AS.putK : AS → Nat → AObj → AS := @AS.rec (fun _ => Nat → AObj → AS) fun h n i o => .mk (h.setK i (some o)) n
theorem AS.putK_eq (s : AS) (i : Nat) (o : AObj) : s.putK i o = s.put i o := by
  cases s; show AS.mk (Trie.setK _ _ _) _ = _; rw [Trie.setK_eq]; rfl
def AS.newK : AS → AObj → AS := @AS.rec (fun _ => AObj → AS) fun h n o => .mk (h.setK n (some o)) (Nat.succ n)
theorem AS.newK_eq (s : AS) (o : AObj) : s.newK o = (s.new o).2 := by
  cases s; show AS.mk (Trie.setK _ _ _) _ = _; rw [Trie.setK_eq]; rfl

/-! types, once each -/
inductive TyK where
  | bad | sc | ag (n : Nat) | other
def tyK (P : AProg) (t : TypeId) : TyK :=
  match P.ti t with
  | none => .bad
  | some i => match i.kind with
    | .other => .bad
    | _ => if i.isAgg then .ag i.size else if i.size = 1 then .sc else .other
def loadPartK (P : AProg) (t : TypeId) (cs : List AV) (off : Nat) : Option AV :=
  @TyK.rec (fun _ => AProg → TypeId → List AV → Nat → Option AV) (fun _ _ _ _ => none) (fun _ _ cs off => nthK cs off)
    (fun n _ _ cs off => @Bool.rec (fun _ => Option AV) none (some (.agg (takeK n (dropK off cs)))) (Nat.ble (Nat.add off n) (lenK cs))) (fun P t cs off => partM P t cs off) (tyK P t) P t cs off
theorem loadPartK_eq (P : AProg) (t : TypeId) (cs : List AV) (off : Nat) : loadPartK P t cs off = partM P t cs off := by
  unfold loadPartK
  cases e : tyK P t with
  | other => rfl
  | bad =>
    show none = _
    unfold tyK at e
    unfold partM part
    cases h : P.ti t with
    | none => rfl
    | some i =>
      rw [h] at e
      simp only [Option.bind_eq_bind, Option.bind_some]
      simp only at e
      split at e
      · rename_i hk; rw [hk]; simp
      · split at e
        · cases e
        · split at e <;> cases e
  | sc =>
    show nthK cs off = _
    unfold tyK at e
    unfold partM part
    cases h : P.ti t with
    | none => rw [h] at e; cases e
    | some i =>
      rw [h] at e
      simp only [Option.bind_eq_bind, Option.bind_some]
      simp only at e
      split at e
      · cases e
      · rename_i hk
        split at e
        · cases e
        · rename_i ha
          split at e
          · rename_i hs
            rw [hs, nthK_eq]
            split
            · split
              · rename_i hk2; exact (hk hk2).elim
              · first | rw [if_neg ha] | rfl
            · rename_i hlt
              exact List.getElem?_eq_none (by omega)
          · cases e
  | ag n =>
    show @Bool.rec (fun _ => Option AV) none (some (.agg (takeK n (dropK off cs)))) (Nat.ble (Nat.add off n) (lenK cs)) = _
    rw [takeK_eq, dropK_eq, lenK_eq]
    unfold tyK at e
    unfold partM part
    cases h : P.ti t with
    | none => rw [h] at e; cases e
    | some i =>
      rw [h] at e
      simp only [Option.bind_eq_bind, Option.bind_some]
      simp only at e
      split at e
      · cases e
      · rename_i hk
        split at e
        · rename_i ha
          cases e
          cases hb : Nat.ble (Nat.add off i.size) cs.length
          · rw [if_neg]
            intro hle
            have : Nat.ble (Nat.add off i.size) cs.length = true := Nat.ble_eq_true_of_le hle
            rw [this] at hb; cases hb
          · have hle : off + i.size ≤ cs.length := Nat.le_of_ble_eq_true hb
            rw [if_pos hle]
            split
            · rename_i hk2; exact (hk hk2).elim
            · rw [if_pos ha]
        · split at e <;> cases e

def arrK {β : Type} : AObj → β → (Nat → List AV → β) → β := @AObj.rec (fun _ => β → (Nat → List AV → β) → β) (fun z es _ f => f z es) (fun _ e _ => e)
theorem arrK_eq {β : Type} (o : AObj) (e : β) (f) : arrK o e f = match o with | .arr z es => f z es | _ => e := by cases o <;> rfl

def aloadK (P : AProg) (s : AS) (t : TypeId) (a : AV) : Option AV :=
  ptrK a none (fun a => obK (s.getK a.id) fun o => arrK o none fun _ es => obK (nthK es a.idx) fun e => loadPartK P t (cellsK e) a.off) (fun v off => loadPartK P t (cellsK v) off)
theorem aloadK_eq (P : AProg) (s : AS) (t : TypeId) (a : AV) : aloadK P s t a = aload P s t a := by
  unfold aloadK aload
  simp only [ptrK_eq, obK_eq, AS.getK_eq, arrK_eq, nthK_eq, loadPartK_eq, cellsK_eq]
  split
  · rename_i a
    simp only
    cases s.get a.id with
    | none => rfl
    | some o =>
      cases o with
      | arr z es =>
        simp only [Option.bind_some]
        cases es[a.idx]? <;> rfl
      | map es => rfl
  · rfl
  · rename_i h1 h2
    cases a with
    | ptr a => cases a with
      | none => rfl
      | some a => exact absurd rfl (h1 a)
    | iptr v o => exact absurd rfl (h2 v o)
    | _ => rfl

def allK (l : List AV) : Bool := @List.rec AV (fun _ => Bool) true (fun a _ ih => @Bool.rec (fun _ => Bool) false ih (atomK a)) l
theorem allK_eq : ∀ l, allK l = l.all AV.atom
  | [] => rfl
  | a :: l => by
    show @Bool.rec (fun _ => Bool) false (allK l) (atomK a) = _
    rw [allK_eq l, atomK_eq, List.all_cons]
    cases a.atom <;> rfl
def sizeK (P : AProg) (t : TypeId) : Option Nat := (P.ti t).map (·.size)
def okGenK (P : AProg) (t : TypeId) (v : AV) (e : AV) (off : Nat) : Bool :=
  match sizeK P t with
  | none => false
  | some n => Nat.beq (lenK (cellsK v)) n && Nat.ble (Nat.add off (lenK (cellsK v))) (lenK (cellsK e)) && allK (cellsK v) && Nat.ble 1 (lenK (cellsK v))
def okStoreK (P : AProg) (t : TypeId) (v : AV) (e : AV) (off : Nat) : Bool :=
  @TyK.rec (fun _ => AProg → TypeId → AV → AV → Nat → Bool) okGenK (fun P t v e off => @Bool.rec (fun _ => Bool) (okGenK P t v e off) (Nat.ble (Nat.succ off) (lenK (cellsK e))) (atomK v)) (fun _ => okGenK) okGenK (tyK P t) P t v e off
theorem okGenK_eq {P : AProg} {t : TypeId} {v e : AV} {off : Nat} {i : TI} (h : P.ti t = some i) : okGenK P t v e off = decide (v.cells.length = i.size ∧ off + v.cells.length ≤ e.cells.length ∧ v.cells.all AV.atom = true ∧ 0 < v.cells.length) := by
  unfold okGenK sizeK
  rw [h]
  simp only [Option.map_some, cellsK_eq, lenK_eq, allK_eq]
  rw [Bool.eq_iff_iff]
  simp only [Bool.and_eq_true, decide_eq_true_eq]
  constructor
  · rintro ⟨⟨⟨h1, h2⟩, h3⟩, h4⟩
    exact ⟨Nat.eq_of_beq_eq_true h1, Nat.le_of_ble_eq_true h2, h3, Nat.le_of_ble_eq_true h4⟩
  · rintro ⟨h1, h2, h3, h4⟩
    exact ⟨⟨⟨by rw [h1]; exact Nat.beq_refl _, Nat.ble_eq_true_of_le h2⟩, h3⟩, Nat.ble_eq_true_of_le h4⟩
theorem okStoreK_eq {P : AProg} {t : TypeId} {v e : AV} {off : Nat} {i : TI} (h : P.ti t = some i) : okStoreK P t v e off = decide (v.cells.length = i.size ∧ off + v.cells.length ≤ e.cells.length ∧ v.cells.all AV.atom = true ∧ 0 < v.cells.length) := by
  unfold okStoreK
  cases e2 : tyK P t with
  | bad => exact okGenK_eq h
  | ag n => exact okGenK_eq h
  | other => exact okGenK_eq h
  | sc =>
    show @Bool.rec (fun _ => Bool) (okGenK P t v e off) (Nat.ble (Nat.succ off) (lenK (cellsK e))) (atomK v) = _
    rw [atomK_eq]
    cases ha : v.atom
    · exact okGenK_eq h
    · show Nat.ble (Nat.succ off) (lenK (cellsK e)) = _
      rw [lenK_eq, cellsK_eq]
      have hs : i.size = 1 := by
        unfold tyK at e2
        rw [h] at e2
        simp only at e2
        split at e2
        · cases e2
        · split at e2
          · cases e2
          · split at e2
            · assumption
            · cases e2
      have hc : v.cells = [v] := by cases v <;> first | rfl | (simp [AV.atom] at ha)
      rw [hc, hs, Bool.eq_iff_iff]
      simp only [decide_eq_true_eq, List.length_singleton, List.all_cons, List.all_nil, ha, Bool.and_true, true_and, Nat.lt_succ_self, and_true]
      exact ⟨fun h => Nat.le_of_ble_eq_true h, fun h => Nat.ble_eq_true_of_le h⟩

def spliceK (cs : List AV) (off : Nat) (vs : List AV) : List AV := appK (takeK off cs) (appK vs (dropK (Nat.add off (lenK vs)) cs))
theorem spliceK_eq (cs : List AV) (off : Nat) (vs : List AV) : spliceK cs off vs = splice cs off vs := by
  unfold spliceK splice
  simp only [appK_eq, takeK_eq, dropK_eq, lenK_eq, List.append_assoc]
  rfl
def storedK (e : AV) (off : Nat) (v : AV) : AV := aggK e v fun cs => .agg (spliceK cs off (cellsK v))
theorem storedK_eq (e : AV) (off : Nat) (v : AV) : storedK e off v = stored e off v := by
  unfold storedK stored
  simp only [aggK_eq, spliceK_eq, cellsK_eq]
  cases e <;> rfl
def astoreK (P : AProg) (s : AS) (t : TypeId) (a v : AV) : Option AS :=
  ptrK a none (fun a => obK (s.getK a.id) fun o => arrK o none fun z es => obK (nthK es a.idx) fun e =>
    @Bool.rec (fun _ => Option AS) none (some (s.putK a.id (.arr z (setNthK es a.idx (storedK e a.off v))))) (okStoreK P t v e a.off)) (fun _ _ => none)
theorem tyK_none {P : AProg} {t : TypeId} (h : P.ti t = none) : tyK P t = .bad := by unfold tyK; rw [h]
theorem astoreK_eq (P : AProg) (s : AS) (t : TypeId) (a v : AV) : astoreK P s t a v = astore P s t a v := by
  unfold astoreK astore
  simp only [ptrK_eq, obK_eq, AS.getK_eq, arrK_eq, nthK_eq, AS.putK_eq, setNthK_eq, storedK_eq]
  cases a with
  | ptr a =>
    cases a with
    | none => rfl
    | some a =>
      simp only
      cases s.get a.id with
      | none => rfl
      | some o =>
        cases o with
        | arr z es =>
          simp only [Option.bind_some]
          cases h : P.ti t with
          | none =>
            simp only
            cases es[a.idx]? with
            | none => rfl
            | some e =>
              have : okStoreK P t v e a.off = false := by
                unfold okStoreK
                rw [tyK_none h]
                show okGenK P t v e a.off = false
                unfold okGenK sizeK
                rw [h]; rfl
              simp only [Option.bind_some, this]
          | some i =>
            simp only
            cases es[a.idx]? with
            | none => rfl
            | some e =>
              simp only [Option.bind_some]
              rw [okStoreK_eq h, rec_if]
        | map es => cases P.ti t <;> rfl
  | _ => rfl

def fldK (P : AProg) (t : TypeId) (f : Nat) : Option Nat := do
  let i ← P.ti t
  let .struct fs := i.kind | none
  let g ← fs[f]?
  let j ← P.ti g.type
  if j.size = 0 then none else some g.offset
def afieldAddrK (P : AProg) (t : TypeId) (x : AV) (f : Nat) : Option AV :=
  obK (fldK P t f) fun o => ptrK x none (fun a => some (.ptr (some ⟨a.id, a.idx, Nat.add a.off o⟩))) (fun v off => some (.iptr v (Nat.add off o)))
theorem afieldAddrK_eq (P : AProg) (t : TypeId) (x : AV) (f : Nat) : afieldAddrK P t x f = afieldAddr P t x f := by
  unfold afieldAddrK afieldAddr fldK
  simp only [obK_eq, ptrK_eq, Option.bind_eq_bind]
  cases P.ti t with
  | none => rfl
  | some i =>
    simp only [Option.bind_some]
    cases i.kind with
    | struct fs =>
      simp only
      cases fs[f]? with
      | none => rfl
      | some g =>
        simp only [Option.bind_some]
        cases P.ti g.type with
        | none => rfl
        | some j =>
          simp only [Option.bind_some]
          split
          · rfl
          · simp only [Option.bind_some]
            cases x with
            | ptr a => cases a <;> rfl
            | _ => rfl
    | _ => rfl

def elK (P : AProg) (t : TypeId) : Option Nat := do
  let i ← P.ti t
  let .slice e := i.kind | none
  let j ← P.ti e
  some j.size
def natK {β : Type} (n : Int) (e : β) (f : Nat → β) : β := @Int.rec (fun _ => β) (fun m => f m) (fun _ => e) n
theorem natK_eq {β : Type} (n : Int) (e : β) (f : Nat → β) : natK n e f = if 0 ≤ n then f n.toNat else e := by
  cases n with
  | ofNat m =>
    have h : (0 : Int) ≤ Int.ofNat m := Int.natCast_nonneg m
    rw [if_pos h]; rfl
  | negSucc m => rw [if_neg (by have := Int.negSucc_lt_zero m; omega)]; rfl
def aindexAddrK (P : AProg) (t : TypeId) (x ix : AV) : Option AV :=
  obK (elK P t) fun sz => intK ix none fun _ n => natK n none fun m => sliceK x none
    (fun a len _ => obK a fun a => @Bool.rec (fun _ => Option AV) none (@Bool.rec (fun _ => Option AV) none (some (.ptr (some ⟨a.id, Nat.add a.st m, 0⟩))) (Nat.beq a.z sz)) (Nat.ble (Nat.succ m) len))
    (fun z xs => @Bool.rec (fun _ => Option AV) none (obK (nthK xs m) fun v => some (.iptr v 0)) (Nat.beq z sz))
theorem aindexAddrK_eq (P : AProg) (t : TypeId) (x ix : AV) : aindexAddrK P t x ix = aindexAddr P t x ix := by
  unfold aindexAddrK aindexAddr elK
  simp only [obK_eq, sliceK_eq, intK_eq, natK_eq, Option.bind_eq_bind, nthK_eq, beq_dec, ble_dec, rec_if]
  cases P.ti t with
  | none => rfl
  | some i =>
    simp only [Option.bind_some]
    cases i.kind with
    | slice e =>
      simp only
      cases P.ti e with
      | none => rfl
      | some j =>
        simp only [Option.bind_some]
        cases ix with
        | int k n =>
          simp only
          cases x with
          | slice a len cap =>
            cases a with
            | none => simp
            | some a =>
              simp only [Option.bind_some]
              by_cases h0 : 0 ≤ n
              · rw [if_pos h0]
                have e1 : (n.toNat.succ ≤ len) ↔ n < len := by omega
                by_cases h1 : n < len
                · rw [if_pos (e1.2 h1)]
                  by_cases h2 : a.z = j.size
                  · rw [if_pos h2, if_pos ⟨h0, h1, h2⟩]; rfl
                  · rw [if_neg h2, if_neg (fun h => h2 h.2.2)]
                · rw [if_neg (fun h => h1 (e1.1 h)), if_neg (fun h => h1 h.2.1)]
              · rw [if_neg h0, if_neg (fun h => h0 h.1)]
          | isl z xs =>
            simp only
            by_cases h0 : 0 ≤ n
            · rw [if_pos h0]
              by_cases h2 : z = j.size
              · rw [if_pos h2, if_pos ⟨h0, h2⟩]
                cases xs[n.toNat]? <;> rfl
              · rw [if_neg h2, if_neg (fun h => h2 h.2)]
            · rw [if_neg h0, if_neg (fun h => h0 h.1)]
          | _ => simp
        | _ => rfl
    | _ => rfl

def isStrK (P : AProg) (t : TypeId) : Bool := match P.ti t with | some i => (match i.kind with | .str => true | _ => false) | none => false
def aindexK (P : AProg) (t : TypeId) (x ix : AV) : Option AV :=
  @Bool.rec (fun _ => Option AV) (aindex P t x ix) (intK ix none fun _ n => strK x none fun s => natK n none fun m => obK (nthK s m) fun b => some (.int .u8 (Int.ofNat b))) (isStrK P t)
theorem isStrK_eq {P : AProg} {t : TypeId} (h : isStrK P t = true) : ∃ i, P.ti t = some i ∧ i.kind = .str := by
  unfold isStrK at h
  split at h
  · rename_i i hi
    split at h
    · rename_i hk; exact ⟨i, hi, hk⟩
    · cases h
  · cases h
theorem aindexK_eq (P : AProg) (t : TypeId) (x ix : AV) : aindexK P t x ix = aindex P t x ix := by
  unfold aindexK
  cases h : isStrK P t
  · rfl
  · show (intK ix none fun _ n => strK x none fun s => natK n none fun m => obK (nthK s m) fun b => some (AV.int IntKind.u8 (Int.ofNat b))) = _
    obtain ⟨i, hi, hk⟩ := isStrK_eq h
    unfold aindex
    simp only [hi, hk, intK_eq, strK_eq, natK_eq, obK_eq, nthK_eq, Option.bind_eq_bind, Option.bind_some]
    cases ix with
    | int k n =>
      simp only
      cases x with
      | str s =>
        simp only
        split
        · cases s[n.toNat]? <;> rfl
        · rfl
      | _ => rfl
    | _ => rfl

def boundK (v : AV) (y : Nat) : Option Nat := intK v none fun _ n => natK n none fun m => @Bool.rec (fun _ => Option Nat) none (some m) (Nat.ble m y)
theorem boundK_eq (v : AV) (y : Nat) : boundK v y = bound v y := by
  unfold boundK bound
  simp only [intK_eq, natK_eq, ble_dec, rec_if]
  cases v with
  | int k n =>
    simp only
    by_cases h0 : 0 ≤ n
    · rw [if_pos h0]
      have e1 : (n.toNat ≤ y) ↔ n ≤ y := by omega
      by_cases h1 : n ≤ y
      · rw [if_pos (e1.2 h1), if_pos ⟨h0, h1⟩]
      · rw [if_neg (fun h => h1 (e1.1 h)), if_neg (fun h => h1 h.2)]
    · rw [if_neg h0, if_neg (fun h => h0 h.1)]
  | _ => rfl
def oboundK (v : Option AV) (y d : Nat) : Option Nat := @Option.rec AV (fun _ => Option Nat) (some d) (fun v => boundK v y) v
theorem oboundK_eq (v : Option AV) (y d : Nat) : oboundK v y d = obound v y d := by
  cases v with
  | none => rfl
  | some v => exact boundK_eq v y
def asliceK (P : AProg) (t : TypeId) (x : AV) (lo hi mx : Option AV) : Option AV :=
  @Bool.rec (fun _ => Option AV) (aslice P t x lo hi mx) (@Option.rec AV (fun _ => Option AV)
    (strK x none fun s => obK (oboundK hi (lenK s) (lenK s)) fun h => obK (oboundK lo h 0) fun l => some (.str (takeK (Nat.sub h l) (dropK l s)))) (fun m => aslice P t x lo hi (some m)) mx) (isStrK P t)
theorem asliceK_eq (P : AProg) (t : TypeId) (x : AV) (lo hi mx : Option AV) : asliceK P t x lo hi mx = aslice P t x lo hi mx := by
  unfold asliceK
  cases h : isStrK P t
  · rfl
  · cases mx with
    | some m => rfl
    | none =>
      show (strK x none fun s => obK (oboundK hi (lenK s) (lenK s)) fun h => obK (oboundK lo h 0) fun l => some (AV.str (takeK (Nat.sub h l) (dropK l s)))) = _
      obtain ⟨i, hi, hk⟩ := isStrK_eq h
      unfold aslice
      simp only [hi, hk, strK_eq, obK_eq, oboundK_eq, lenK_eq, takeK_eq, dropK_eq, Option.bind_eq_bind, Option.bind_some]
      cases x <;> rfl

def kindIdK (k : IntKind) : Nat := @IntKind.rec (fun _ => Nat) 0 1 2 3 4 5 6 7 k
def kindEqK (k k' : IntKind) : Bool := Nat.beq (kindIdK k) (kindIdK k')
theorem kindEqK_eq (k k' : IntKind) : kindEqK k k' = decide (k = k') := by cases k <;> cases k' <;> rfl
def addIntK (a b : Int) : Int := natK a (Int.add a b) fun m => natK b (Int.add a b) fun n => Int.ofNat (Nat.add m n)
theorem addIntK_eq (a b : Int) : addIntK a b = a + b := by
  cases a with
  | ofNat m => cases b <;> rfl
  | negSucc m => rfl
def aintK : BinOp → IntKind → Int → IntKind → Int → Option AV := @BinOp.rec (fun _ => IntKind → Int → IntKind → Int → Option AV)
  (fun k a k' b => @Bool.rec (fun _ => Option AV) none (some (.int k (wrapK k (addIntK a b)))) (kindEqK k k'))
  (fun k a k' b => @Bool.rec (fun _ => Option AV) none (some (.int k (wrapK k (Int.sub a b)))) (kindEqK k k'))
  (fun k a k' b => @Bool.rec (fun _ => Option AV) none (some (.int k (wrapK k (Int.mul a b)))) (kindEqK k k'))
  (aint .quo) (aint .rem) (aint .and) (aint .or) (aint .xor) (aint .shl) (aint .shr) (aint .andNot)
  (fun k a k' b => @Bool.rec (fun _ => Option AV) none (some (.bool (eqIntK a b))) (kindEqK k k'))
  (fun k a k' b => @Bool.rec (fun _ => Option AV) none (some (.bool (@Bool.rec (fun _ => Bool) true false (eqIntK a b)))) (kindEqK k k'))
  (fun k a k' b => @Bool.rec (fun _ => Option AV) none (some (.bool (ltIntK a b))) (kindEqK k k'))
  (fun k a k' b => @Bool.rec (fun _ => Option AV) none (some (.bool (leIntK a b))) (kindEqK k k'))
  (fun k a k' b => @Bool.rec (fun _ => Option AV) none (some (.bool (ltIntK b a))) (kindEqK k k'))
  (fun k a k' b => @Bool.rec (fun _ => Option AV) none (some (.bool (leIntK b a))) (kindEqK k k'))
theorem rec_not (b : Bool) : @Bool.rec (fun _ => Bool) true false b = !b := by cases b <;> rfl
theorem aintK_eq (op : BinOp) (k : IntKind) (a : Int) (k' : IntKind) (b : Int) : aintK op k a k' b = aint op k a k' b := by
  cases op <;> first
    | rfl
    | (simp only [aintK, kindEqK_eq, rec_if, wrapK_eq, addIntK_eq, eqIntK_eq, ltIntK_eq, leIntK_eq, rec_not]
       rfl)

def astrK (op : BinOp) (a b : List Nat) : Option AV := @BinOp.rec (fun _ => List Nat → List Nat → Option AV)
  (astr .add) (astr .sub) (astr .mul) (astr .quo) (astr .rem) (astr .and) (astr .or) (astr .xor) (astr .shl) (astr .shr) (astr .andNot)
  (fun a b => some (.bool (beqNatsK a b))) (fun a b => some (.bool (@Bool.rec (fun _ => Bool) true false (beqNatsK a b)))) (astr .lss) (astr .leq) (astr .gtr) (astr .geq) op a b
theorem astrK_eq (op : BinOp) (a b : List Nat) : astrK op a b = astr op a b := by
  cases op <;> first
    | rfl
    | (simp only [astrK, beqNatsK_eq, rec_not]; rfl)

def evBinK (P : AProg) (s : AS) (op : BinOp) (xt : TypeId) (x y : Operand) (a b : AV) : Option AV :=
  if nilLit P xt x y a b then
      match op with
      | .eql => some (.bool true)
      | .neq => some (.bool false)
      | _ => none
    else abin P s op xt a b
def binK (P : AProg) (s : AS) (op : BinOp) (xt : TypeId) (x y : Operand) (a b : AV) : Option AV :=
  intK a (strK a (evBinK P s op xt x y a b) fun l => strK b (evBinK P s op xt x y a b) fun m => astrK op l m) fun k n => intK b (evBinK P s op xt x y a b) fun k' n' => aintK op k n k' n'
theorem binK_eq (P : AProg) (s : AS) (op : BinOp) (xt : TypeId) (x y : Operand) (a b : AV) : binK P s op xt x y a b = evBinK P s op xt x y a b := by
  unfold binK
  cases a with
  | int k n =>
    cases b with
    | int k' n' => exact aintK_eq op k n k' n'
    | _ => rfl
  | str l =>
    cases b with
    | str m => exact astrK_eq op l m
    | _ => rfl
  | _ => rfl

def aunK : UnOp → AV → Option AV := @UnOp.rec (fun _ => AV → Option AV) (fun x => intK x none fun k n => some (.int k (wrapK k (Int.sub 0 n)))) (fun _ => none)
  (fun x => boolK x none fun b => some (.bool (@Bool.rec (fun _ => Bool) true false b))) (fun _ => none)
theorem aunK_eq (op : UnOp) (x : AV) : aunK op x = aun op x := by
  cases op with
  | neg =>
    show (intK x none fun k n => some (AV.int k (wrapK k (Int.sub 0 n)))) = _
    simp only [intK_eq, wrapK_eq]
    cases x <;> rfl
  | not =>
    show (boolK x none fun b => some (AV.bool (@Bool.rec (fun _ => Bool) true false b))) = _
    simp only [boolK_eq, rec_not]
    cases x <;> rfl
  | xor => cases x <;> rfl
  | plus => cases x <;> rfl

inductive LenK where
  | str | slice | other
def lenTyK (P : AProg) (ats : Array TypeId) : LenK :=
  match ats[0]? with
  | none => .other
  | some t =>
    match P.ti t with
    | none => .other
    | some i => match i.kind with | .str => .str | .slice _ => .slice | _ => .other
def alenK (P : AProg) (s : AS) (ats : Array TypeId) (x : AV) : Option AV :=
  @LenK.rec (fun _ => AProg → AS → Array TypeId → AV → Option AV) (fun _ _ _ x => strK x none fun l => some (.int .i64 (Int.ofNat (lenK l))))
    (fun _ _ _ x => sliceK x none (fun _ n _ => some (.int .i64 (Int.ofNat n))) (fun _ xs => some (.int .i64 (Int.ofNat (lenK xs))))) alenOp (lenTyK P ats) P s ats x
theorem alenK_eq (P : AProg) (s : AS) (ats : Array TypeId) (x : AV) : alenK P s ats x = alenOp P s ats x := by
  unfold alenK
  cases e : lenTyK P ats with
  | other => rfl
  | str =>
    show (strK x none fun l => some (AV.int IntKind.i64 (Int.ofNat (lenK l)))) = _
    unfold lenTyK at e
    unfold alenOp
    cases h : ats[0]? with
    | none => rw [h] at e; cases e
    | some t =>
      rw [h] at e
      simp only at e ⊢
      cases h2 : P.ti t with
      | none => rw [h2] at e; cases e
      | some i =>
        rw [h2] at e
        simp only at e ⊢
        cases hk : i.kind <;> rw [hk] at e <;> first | (cases e; done) | skip
        simp only [strK_eq, lenK_eq]
        cases x <;> rfl
  | slice =>
    show (sliceK x none (fun _ n _ => some (AV.int IntKind.i64 (Int.ofNat n))) (fun _ xs => some (AV.int IntKind.i64 (Int.ofNat (lenK xs))))) = _
    unfold lenTyK at e
    unfold alenOp
    cases h : ats[0]? with
    | none => rw [h] at e; cases e
    | some t =>
      rw [h] at e
      simp only at e ⊢
      cases h2 : P.ti t with
      | none => rw [h2] at e; cases e
      | some i =>
        rw [h2] at e
        simp only at e ⊢
        cases hk : i.kind <;> rw [hk] at e <;> first | (cases e; done) | skip
        simp only [sliceK_eq, lenK_eq]
        cases x <;> rfl

def zeroTyK (P : AProg) (t : TypeId) : Option AV := do
  let j ← P.ti t
  let z ← j.zero
  if z.cells.length ≠ j.size then none else some z

def evOpOf (op : Op) (P : AProg) (t : ATmps) (s : AS) : Option ARes := evOp P t s { dst := none, op := op, type := 0, pos := "", after := #[], guard := none }
theorem evOpOf_eq (o : Oper) (P : AProg) (t : ATmps) (s : AS) : evOpOf o.op P t s = evOp P t s o := rfl

end
end Go.AM
