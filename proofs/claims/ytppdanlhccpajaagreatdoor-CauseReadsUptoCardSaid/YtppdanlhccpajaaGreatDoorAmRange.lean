/- Ranges over functions. -/
import Derived.Test.YtppdanlhccpajaaGreatDoorAmLeave
set_option linter.unusedSimpArgs false
set_option linter.unusedVariables false
set_option linter.unusedSectionVars false
namespace Go.AM

variable {p : Program} {b : Nat} {ρ : Emb} {I : Fix}

def Fix.set (I : Fix) (l : Nat) (o : Obj) : Fix := fun x => if x = l then some o else I x

theorem Fix.set_self (I : Fix) (l : Nat) (o : Obj) : I.set l o l = some o := by simp [Fix.set]
theorem Fix.set_ne (I : Fix) {l x : Nat} (o : Obj) (h : x ≠ l) : I.set l o x = I x := by simp [Fix.set, h]

def NoCells (o : Obj) : Prop := ∀ c e f, o ≠ .cells c e f

theorem Fix.set_le {l : Nat} {o1 o2 : Obj} (h : I l = some o1) (hn : NoCells o1) : FixLe I (I.set l o2) := fun x c e f hx => by
  have : x ≠ l := fun he => by subst he; rw [h] at hx; cases hx; exact hn _ _ _ rfl
  rw [Fix.set_ne _ _ this]; exact hx

theorem putObj_ne (w : World) {l x : Nat} (o : Obj) (h : x ≠ l) : (w.putObj l o).heap[x]? = w.heap[x]? := World.putObj_heap_other h

theorem SR.repin {H : Nat → Option AObj} {w : World} {l : Nat} {o1 : Obj} (o2 : Obj) (sr : SR ρ I H w) (h : I l = some o1) (hn : NoCells o1) : SR ρ (I.set l o2) H (w.putObj l o2) := by
  have hlt : l < w.heap.size := (Array.getElem?_eq_some_iff.1 (sr.fix _ _ h)).1
  have live : ∀ id k, ρ id = some k → H id ≠ none → k.block ≠ l := fun id k hr hl e => by
    have := sr.free id k hr hl; rw [e, h] at this; cases this
  refine ⟨fun x o hx => ?_, fun id k o hr ho => ?_, sr.apart, fun id k hr hl => ?_⟩
  · by_cases e : x = l
    · subst e
      rw [Fix.set_self] at hx; cases hx
      exact World.putObj_heap_same hlt
    · rw [Fix.set_ne _ _ e] at hx
      rw [putObj_ne _ _ e]; exact sr.fix x o hx
  · exact (sr.obj id k o hr ho).mono (Ext.refl _) (Fix.set_le h hn) (putObj_ne _ _ (live id k hr (by rw [ho]; simp)))
  · rw [Fix.set_ne _ _ (live id k hr hl)]; exact sr.free id k hr hl

theorem DR.repin {l : Nat} {o1 o2 : Obj} (h : I l = some o1) (hn : NoCells o1) (hnd : ∀ d, o1 ≠ .deferred d) {ds : List (FuncId × List AV)} {m : Nat} {cs : List Deferred} (k : DR p b ρ I ds m cs) : DR p b ρ (I.set l o2) ds m cs := by
  induction k with
  | nil => exact .nil
  | mark ds m cs D hb hI hnew k ih =>
    have : D ≠ l := fun e => by subst e; rw [h] at hI; cases hI; exact hnd _ rfl
    exact .mark ds m cs D hb (by rw [Fix.set_ne _ _ this]; exact hI) hnew ih
  | cons f args ds m d cs vs ht hd hv k ih => exact .cons f args ds m d cs vs ht hd (hv.mono (Ext.refl _) (Fix.set_le h hn)) ih

theorem AR.repin {l : Nat} {o1 o2 : Obj} (h : I l = some o1) (hn : NoCells o1) (hnd : ∀ d, o1 ≠ .deferred d) {a : AAct} {c : Act} (ar : AR p b ρ I a c) : AR p b ρ (I.set l o2) a c :=
  ⟨ar.tr.mono (Ext.refl _) (Fix.set_le h hn), ar.dr.repin h hn hnd⟩

/-- A way that is gone with another pin, and back. -/
theorem Moved.repin {H H' : Nat → Option AObj} {w w' : World} {lo hi l : Nat} {o1 o2 : Obj} {ρ' : Emb} {I' : Fix} (sr : SR ρ I H w) (h : I l = some o1) (hn1 : NoCells o1) (hn2 : NoCells o2)
    (m : Moved ρ (I.set l o2) H (w.putObj l o2) lo hi ρ' I' H' w') : Moved ρ I H w lo hi ρ' (I'.set l o1) H' (w'.putObj l o1) := by
  have hI' : I' l = some o2 := m.fix l o2 (Fix.set_self _ _ _)
  refine ⟨m.sr.repin o1 hI' hn2, m.ext, m.new, fun x o hx => ?_, fun x hx h0 => ?_, fun id k h1 h2 => ?_, fun x hx hf => ?_, ?_, ?_, ?_, ?_⟩
  · by_cases e : x = l
    · subst e; rw [h] at hx; rw [Fix.set_self]; exact hx
    · rw [Fix.set_ne _ _ e]; exact m.fix x o (by rw [Fix.set_ne _ _ e]; exact hx)
  · have e : x ≠ l := fun e => by subst e; rw [h] at h0; cases h0
    have := m.newfix x (by rwa [Fix.set_ne _ _ e] at hx) (by rw [Fix.set_ne _ _ e]; exact h0)
    simpa using this
  · simpa using m.home id k h1 h2
  · by_cases e : x = l
    · subst e
      rw [sr.fix _ _ h]
      exact World.putObj_heap_same (Nat.lt_of_lt_of_le hx (by simpa using m.size))
    · rw [putObj_ne _ _ e, m.frame x (by simpa using hx) hf, putObj_ne _ _ e]
  · simpa using m.size
  · exact m.os
  · exact m.tape
  · exact m.output

theorem setParams_tr : ∀ (ps : List Tmp) (as : List AV) (vs : List Value) (t : ATmps) (tmps : Array Value), VRL ρ I as vs → TR ρ I t tmps →
    TR ρ I (setParams t (ps.zip as)) ((ps.zip vs).foldl (fun ts (x : Tmp × Value) => ts.setIfInBounds x.1 x.2) tmps)
  | [], as, vs, t, tmps, _, tr => by simpa [setParams] using tr
  | q :: ps, [], vs, t, tmps, hl, tr => by have := hl.inv_nil; subst this; simpa [setParams] using tr
  | q :: ps, a :: as, vs, t, tmps, hl, tr => by
    obtain ⟨v, vs', rfl, hv, hl'⟩ := hl.inv_cons
    simp only [List.zip_cons_cons, setParams, List.foldl_cons]
    exact setParams_tr ps as vs' _ _ hl' (tr.set q hv)

/-- The two blocks that a loop lays. -/
theorem Went.enter {s : AS} {w : World} (sr : SR ρ I s.get w) (fr : Fresh ρ s) (o1 o2 : Obj) :
    Went ρ I s w { s.kill s.next with next := s.next + 1 } (ρ.add s.next ⟨w.heap.size + 1, 0, 0, 0⟩) ((I.set w.heap.size o1).set (w.heap.size + 1) o2) ((w.alloc o1).alloc o2) := by
  have hn : ρ s.next = none := fr.1 _ (Nat.le_refl _)
  have hget : ∀ id, ({ s.kill s.next with next := s.next + 1 } : AS).get id = if id = s.next then none else s.get id := fun id => by
    show (s.kill s.next).get id = _
    rw [AS.get_kill]
  have hlt : ∀ x o, I x = some o → x < w.heap.size := fun x o h => (Array.getElem?_eq_some_iff.1 (sr.fix x o h)).1
  have hold : ∀ x, x < w.heap.size → ((w.alloc o1).alloc o2).heap[x]? = w.heap[x]? := fun x hx => by
    show ((w.heap.push o1).push o2)[x]? = _
    rw [Array.getElem?_push, if_neg (by simp; omega), Array.getElem?_push, if_neg (by omega)]
  have hI : ∀ x o, I x = some o → ((I.set w.heap.size o1).set (w.heap.size + 1) o2) x = some o := fun x o h => by
    have := hlt x o h
    rw [Fix.set_ne _ _ (by omega), Fix.set_ne _ _ (by omega)]; exact h
  have hfree : ∀ x, x < w.heap.size → I x = none → ((I.set w.heap.size o1).set (w.heap.size + 1) o2) x = none := fun x hx h => by
    rw [Fix.set_ne _ _ (by omega), Fix.set_ne _ _ (by omega)]; exact h
  have hsz : ((w.alloc o1).alloc o2).heap.size = w.heap.size + 2 := by
    show ((w.heap.push o1).push o2).size = _
    simp
  have dead : ∀ id, ({ s.kill s.next with next := s.next + 1 } : AS).get id ≠ none → id ≠ s.next ∧ s.get id ≠ none := fun id h => by
    rw [hget] at h
    by_cases e : id = s.next
    · rw [if_pos e] at h; exact absurd rfl h
    · rw [if_neg e] at h; exact ⟨e, h⟩
  refine ⟨⟨by show s.next ≤ s.next + 1; omega, fun id hid h => ?_⟩, ⟨⟨?_, ?_, ?_, ?_⟩, Emb.ext_add hn, ?_, hI, ?_, ?_, fun x hx _ => hold x hx, by rw [hsz]; omega, rfl, rfl, rfl⟩⟩
  · rw [hget]; split
    · rfl
    · exact h
  · intro x o h
    by_cases e2 : x = w.heap.size + 1
    · subst e2
      rw [Fix.set_self] at h; cases h
      show ((w.heap.push o1).push o2)[w.heap.size + 1]? = _
      have : w.heap.size + 1 = (w.heap.push o1).size := by simp
      rw [this, Array.getElem?_push_size]
    · rw [Fix.set_ne _ _ e2] at h
      by_cases e1 : x = w.heap.size
      · subst e1
        rw [Fix.set_self] at h; cases h
        show ((w.heap.push o1).push o2)[w.heap.size]? = _
        rw [Array.getElem?_push, if_neg (by simp), Array.getElem?_push_size]
      · rw [Fix.set_ne _ _ e1] at h
        rw [hold x (hlt x o h)]; exact sr.fix x o h
  · intro id k o hr ho
    obtain ⟨e, hl⟩ := dead id (by rw [ho]; simp)
    rw [Emb.add_ne _ _ _ e] at hr
    rw [hget, if_neg e] at ho
    have := sr.obj id k o hr ho
    exact this.mono (Emb.ext_add hn) (fun x c e f h => hI x _ h) (hold _ this.lt)
  · intro i j h k hij hi hj h1 h2
    obtain ⟨e1, l1⟩ := dead i h1
    obtain ⟨e2, l2⟩ := dead j h2
    rw [Emb.add_ne _ _ _ e1] at hi
    rw [Emb.add_ne _ _ _ e2] at hj
    exact sr.apart i j h k hij hi hj l1 l2
  · intro id k hr hl
    obtain ⟨e, hl⟩ := dead id hl
    rw [Emb.add_ne _ _ _ e] at hr
    have hb : k.block < w.heap.size := by
      cases ho : s.get id with
      | none => exact absurd ho hl
      | some o => exact (sr.obj id k o hr ho).lt
    exact hfree _ hb (sr.free id k hr hl)
  · intro id h1 h2
    by_cases e : id = s.next
    · subst e; exact ⟨Nat.le_refl _, by show s.next < s.next + 1; omega⟩
    · rw [Emb.add_ne _ _ _ e] at h1; exact absurd h2 h1
  · intro x hx h0
    rcases Nat.lt_or_ge x w.heap.size with h | h
    · exact absurd (hfree x h h0) hx
    · exact h
  · intro id k h1 h2
    by_cases e : id = s.next
    · subst e
      rw [Emb.add_self] at h1; cases h1
      exact .inl (by show w.heap.size ≤ w.heap.size + 1; omega)
    · rw [Emb.add_ne _ _ _ e] at h1; rw [h1] at h2; cases h2

theorem DR.lt {H : Nat → Option AObj} {w : World} (sr : SR ρ I H w) {l : List (FuncId × List AV)} {m : Nat} {ds : List Deferred} (h : DR p b ρ I l m ds) : ∀ d ∈ ds, ∀ D, d.target = .collected D → D < w.heap.size := by
  induction h with
  | nil => intro d hd; cases hd
  | mark l m ds D hb hI hn h ih =>
    intro d hd D' ht
    rcases List.mem_cons.1 hd with rfl | hd
    · cases ht; exact (Array.getElem?_eq_some_iff.1 (sr.fix _ _ hI)).1
    · exact ih d hd D' ht
  | cons f args l m d ds vs ht hd hv h ih =>
    intro d' hd' D' ht'
    rcases List.mem_cons.1 hd' with rfl | hd'
    · obtain ⟨fv, cap, he⟩ := ht; rw [he] at ht'; cases ht'
    · exact ih d' hd' D' ht'

theorem rangeSound : RangeSound p := by
  intro call fuel f params assign body hcall hassign hbody hpa hpb Z hZ yh hy n a a' s s' ae h
  simp only [evCode] at h
  split at h
  case h_2 => cases h
  rename_i g captured hf
  split at h
  case h_2 => cases h
  rename_i g' args hcal
  split at h
  case h_2 => cases h
  rename_i v1 s1 he
  simp only [Option.some.injEq, Prod.mk.injEq] at h
  obtain ⟨rfl, rfl, rfl⟩ := h
  intro b ρ I c w ar hb sr fr hz Q hq
  refine wpIn_rangeFunc fun fn _ => ?_
  -- the record
  let lp : Loop := { state := .ready, pending := none, fn, tmps := c.tmps, params, assign, body, defers := w.heap.size }
  let o1 : Obj := .deferred (some [])
  let o2 : Obj := .loop lp
  let l := w.heap.size + 1
  let ρ1 := ρ.add s.next ⟨l, 0, 0, 0⟩
  let I1 := (I.set w.heap.size o1).set l o2
  let w1 := (w.alloc o1).alloc o2
  let s0 : AS := { s.kill s.next with next := s.next + 1 }
  have went0 : Went ρ I s w s0 ρ1 I1 w1 := Went.enter sr fr o1 o2
  have hnc1 : NoCells o2 := fun _ _ _ e => by simp [o2] at e
  have hfv : VR ρ1 I1 (.func (.func g) [] captured) (c.eval f) := (aeval_sound ar.tr hf).mono went0.moved.ext went0.moved.fixLe
  have hyv : VRL ρ1 I1 [.func (.yield s.next) [] []] (#[(.func (.yield l) #[] #[] : Value)] : Array Value).toList :=
    VRL.cons (.yield s.next ⟨l, 0, 0, 0⟩ (Emb.add_self _ _ _)) VRL.nil
  obtain ⟨d, vs, hd1, _, hd2, hd3⟩ := callee_sound hcal hfv hyv w1
  refine ⟨l, [{ target := .collected w.heap.size, args := #[] }], w1, d, w1, g', vs, w1, run_enterLoop_outer fn c.tmps params assign body, ?_, fun _ _ => trivial, hd2 w1, fun h => by simp [fen, Fence.wide] at h, ?_⟩
  · simpa [resolve, Act.eval] using hd1
  -- the call
  let Z' : Emb → Fix → Prop := fun ρ' I' => ρ' s.next = some ⟨l, 0, 0, 0⟩ ∧ I' l = some o2 ∧ TR ρ' I' a.tmps c.tmps
  have hZ' : Keeps Z' := fun ρ' I' ρ2 I2 hρ hI hz => ⟨hρ _ _ hz.1, hI _ _ hz.2.1, hz.2.2.mono hρ (fun x _ _ _ h => hI x _ h)⟩
  have hz' : Z' ρ1 I1 := ⟨Emb.add_self _ _ _, Fix.set_self _ _ _, (went0.ar ar).tr⟩
  have hy' : YieldOk p Z' (fun y args s' => if Nat.beq y s.next then
            match oneRound (evCode (AProg.of p) call fuel (fun _ _ _ => none) assign) (evCode (AProg.of p) call fuel (fun _ _ _ => none) body) a.tmps params.toList args s' with
            | some s' => some (.bool true, s')
            | none => none
          else none) := by
    intro y args s2 v s3 h ρ2 I2 w2 hm vs2 hhm sr2 fr2 hz2 hl2
    simp only at h
    split at h
    case isFalse => cases h
    rename_i hyeq
    have hyeq := Nat.eq_of_beq_eq_true hyeq
    subst hyeq
    rw [hz2.1] at hhm; cases hhm
    split at h
    case h_2 => cases h
    rename_i s3' hround
    simp only [Option.some.injEq, Prod.mk.injEq] at h
    obtain ⟨rfl, rfl⟩ := h
    unfold oneRound at hround
    split at hround
    case isFalse => cases hround
    rename_i hlen
    split at hround
    case h_2 => cases hround
    rename_i a3 s4 hea
    split at hround
    case h_2 => cases hround
    rename_i a4 s5 heb
    simp only [Option.some.injEq] at hround
    subst hround
    have hrec : w2.heap[l]? = some (.loop lp) := sr2.fix _ _ hz2.2.1
    have hsz : vs2.size = lp.params.size := by
      have h1 := hl2.1
      simp at h1
      show vs2.size = params.size
      rw [← h1, hlen]; simp
    refine ⟨l, fn, _, assign, body, run_yield hrec hsz, fun n => ?_⟩
    refine roundIn_of_wpIn trivial ?_
    have hfold : ∀ (tm : Array Value), (params.zip vs2).foldl (fun tmps (x : Tmp × Value) => tmps.setIfInBounds x.1 x.2) tm = (params.toList.zip vs2.toList).foldl (fun tmps (x : Tmp × Value) => tmps.setIfInBounds x.1 x.2) tm := fun tm => by
      rw [← Array.foldl_toList]; simp
    have ar2 : AR p 0 ρ2 I2 { tmps := setParams a.tmps (params.toList.zip args), defers := [], marks := 0 } { tmps := (params.zip vs2).foldl (fun tmps (x : Tmp × Value) => tmps.setIfInBounds x.1 x.2) c.tmps, defers := [] } :=
      ⟨by rw [hfold]; exact setParams_tr _ _ _ _ _ hl2 hz2.2.2, .nil⟩
    refine hassign _ keeps_true _ yieldOk_none (some l) n (.inr hpa) _ _ _ _ _ hea 0 ρ2 I2 _ w2 ar2 (Nat.zero_le _) sr2 fr2 trivial _ fun ρ3 I3 c3 w3 m3 ar3 => ?_
    have hI3 : I3 l = some o2 := m3.moved.fix _ _ hz2.2.1
    have hrec3 : w3.heap[l]? = some (.loop lp) := m3.sr.fix _ _ hI3
    let o3 : Obj := .loop { lp with state := .busy }
    have hnc3 : NoCells o3 := fun _ _ _ e => by simp [o3] at e
    refine ⟨w3.putObj l o3, run_beginRound hrec3 rfl, ?_⟩
    have sr3 : SR ρ3 (I3.set l o3) s4.get (w3.putObj l o3) := m3.sr.repin o3 hI3 hnc1
    refine hbody _ keeps_true _ yieldOk_none (some l) n (.inr hpb) _ _ _ _ _ heb 0 ρ3 (I3.set l o3) c3 _ (ar3.repin hI3 hnc1 (by intro d e; simp [o2] at e)) (Nat.zero_le _) sr3 (m3.fresh fr2) trivial _ fun ρ4 I4 c4 w4 m4 ar4 => ?_
    have hI4 : I4 l = some o3 := m4.moved.fix _ _ (Fix.set_self _ _ _)
    have hrec4 : w4.heap[l]? = some (.loop { lp with state := .busy }) := m4.sr.fix _ _ hI4
    refine ⟨.bool true, w4.putObj l o2, run_endRound none hrec4, .bool true, ρ4, I4.set l o2, rfl, ?_, .bool _⟩
    exact Went.trans fr2 m3 ⟨m4.grows, Moved.repin m3.sr hI3 hnc1 hnc3 m4.moved⟩
  refine calls_fen (Calls.mono (hcall Z' _ hZ' hy' g' args s0 v1 s1 he ρ1 I1 w1 vs went0.sr (went0.fresh fr) hz' hd3) ?_)
  rintro e w3 ⟨x, ρ3, I3, rfl, m3, _⟩
  have hI3 : I3 l = some o2 := m3.moved.fix _ _ hz'.2.1
  have hrec3 : w3.heap[l]? = some (.loop lp) := m3.sr.fix _ _ hI3
  refine ⟨none, w3.putObj l (.loop { lp with state := .exhausted }), run_endLoop hrec3 (by intro e; cases e), ?_⟩
  have m4 : Went ρ I s w s1 ρ3 (I3.drop l) (w3.putObj l (.loop { lp with state := .exhausted })) :=
    Went.take sr (Went.trans fr went0 m3) _ hI3 hnc1 (by show w.heap.size ≤ w.heap.size + 1; omega)
  refine hq ρ3 (I3.drop l) _ _ m4 ⟨(m4.ar ar).tr, ?_⟩
  refine .mark _ _ _ w.heap.size hb ?_ (fun d hd ht => ?_) (m4.ar ar).dr
  · have hne : w.heap.size ≠ l := by show w.heap.size ≠ w.heap.size + 1; omega
    have h1 : I1 w.heap.size = some o1 := by show ((I.set w.heap.size o1).set l o2) w.heap.size = _; rw [Fix.set_ne _ _ hne, Fix.set_self]
    have := m3.moved.fix _ _ h1
    simp only [Fix.drop, if_neg hne]
    exact this
  · have := ar.dr.lt sr d hd _ ht
    omega

end Go.AM
