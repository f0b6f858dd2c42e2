/- Conversions, interfaces, least and greatest, lengths. -/
import Derived.Test.YtppdanlhccpajaaGreatDoorAmMem9
set_option linter.unusedSimpArgs false
set_option linter.unusedVariables false
set_option linter.unusedSectionVars false
namespace Go.AM

variable {p : Program} {ρ : Emb} {I : Fix}

theorem isU8_kind {e : TypeId} (h : isU8 (AProg.of p) e = true) : p.underlying e = some (.int .u8) := by
  unfold isU8 at h
  split at h
  · rename_i i hi
    obtain ⟨f, hf, _, _, hkind, _, _⟩ := ti_info hi
    split at h
    · rename_i hk; rw [hkind] at hk; exact kind_int hk
    · cases h
  · cases h

/-- One more block that stays as it is. -/
def Fix.add (I : Fix) (b : Nat) (o : Obj) : Fix := fun c => if c = b then some o else I c

theorem Fix.le_add {I : Fix} {b : Nat} {o : Obj} (h : I b = none) : ∀ c x, I c = some x → (I.add b o) c = some x := by
  intro c x hc
  unfold Fix.add
  split
  · rename_i e; subst e; rw [h] at hc; cases hc
  · exact hc

theorem Moved.fixNew {H : Nat → Option AObj} {w w' : World} {o : Obj} {lo hi : Nat} (sr : SR ρ I H w) (hw : w'.heap = w.heap.push o) (hos : w'.os = w.os) (htape : w'.tape = w.tape) (hout : w'.output = w.output) :
    Moved ρ I H w lo hi ρ (I.add w.heap.size o) H w' := by
  have hold : ∀ b, b < w.heap.size → w'.heap[b]? = w.heap[b]? := by
    intro b hlt
    rw [hw, Array.getElem?_push, if_neg (by omega)]
  have hle := Fix.le_add (o := o) sr.fix_lt
  refine ⟨⟨?_, ?_, sr.apart, ?_⟩, Ext.refl _, fun _ a b => absurd b a, hle, ?_, fun _ _ a b => by (rw [a] at b; cases b), fun b hb _ => hold b hb, by rw [hw]; simp, hos, htape, hout⟩
  · intro b x hb
    unfold Fix.add at hb
    split at hb
    · rename_i e; subst e; cases hb; rw [hw, Array.getElem?_push_size]
    · have := sr.fix b x hb
      rw [hold b (Array.getElem?_eq_some_iff.1 this).1]; exact this
  · intro id k o' hr ho'
    have := sr.obj id k o' hr ho'
    exact this.mono (Ext.refl _) (fun b c e f h => hle b _ h) (hold _ this.lt)
  · intro id k hr hl
    unfold Fix.add
    cases ho : H id with
    | none => exact absurd ho hl
    | some o' =>
      have := (sr.obj id k o' hr ho).lt
      rw [if_neg (by omega)]; exact sr.free id k hr hl
  · intro b h1 h2
    unfold Fix.add at h1
    split at h1
    · omega
    · exact absurd h2 h1

theorem aconvert_sound {s : AS} {src dst : TypeId} {x v : AV} {xv : Value} {w : World} (h : aconvert (AProg.of p) src dst x = some v) (sr : SR ρ I s.get w) (hx : VR ρ I x xv) :
    ValOk p ρ I s w (convert src dst xv) v s := by
  unfold aconvert at h
  split at h
  case h_2 => cases h
  rename_i i j hi hj
  obtain ⟨fi, hfi, _, _, hik, _, _⟩ := ti_info hi
  obtain ⟨fj, hfj, _, _, hjk, _, _⟩ := ti_info hj
  split at h
  · rename_i k1 k2 k3 n h1 h2
    rw [hik] at h1; rw [hjk] at h2
    cases h
    cases hx.int_inv
    exact ValOk.same sr (by simp [convert, run_underlying' (kind_int h1), run_underlying' (kind_int h2), Conv.intToInt]) (.int _ _)
  · rename_i l h1 h2
    rw [hik] at h1; rw [hjk] at h2
    cases h
    obtain ⟨b, rfl, hb⟩ := hx.str_inv
    exact ValOk.same sr (by simp [convert, run_underlying' (kind_str h1), run_underlying' (kind_str h2)]) hx
  · rename_i e l h1 h2
    rw [hik] at h1; rw [hjk] at h2
    split at h
    case isFalse => cases h
    rename_i hu8
    cases h
    obtain ⟨b, rfl, rfl⟩ := hx.str_inv
    let cap := grownCap w b.size 0 e
    let cs : Array Value := (b.data.map fun q => Value.int .u8 q.toNat) ++ Array.replicate (cap - b.size) (.int .u8 0)
    let w1 : World := { w.drew with heap := w.drew.heap.push (.cells cs e) }
    let w2 : World := w1.freeze ⟨w.heap.size, cs.size, none⟩ 1
    have hheap : w2.heap = w.heap.push (.cells cs e (cs.size, cs.size + 1)) := by
      simp only [w2, w1, World.freeze]
      rw [if_neg (by decide)]
      apply Array.ext_getElem?
      intro k
      show (Array.modify (w.heap.push (Obj.cells cs e)) w.heap.size _)[k]? = _
      rw [Array.getElem?_modify, Array.getElem?_push, Array.getElem?_push]
      by_cases hk : w.heap.size = k
      · subst hk; simp
      · rw [if_neg hk, if_neg (fun h => hk h.symm), if_neg (fun h => hk h.symm)]
    have hrun : (convert src dst (.string b)).run p w = .ok (.slice (some ⟨w.heap.size, 0, none⟩) b.size cap) w2 := by
      have hq : (Question.appendCap b.size 0 e).forced = false := rfl
      have hsh : w1.shape? w.heap.size = some (e, cs.size) := by
        simp only [World.shape?, w1]
        have : (w.drew.heap.push (Obj.cells cs e))[w.heap.size]? = some (Obj.cells cs e) := by
          show (w.heap.push (Obj.cells cs e))[w.heap.size]? = _
          rw [Array.getElem?_push_size]
        rw [this]
      simp only [convert, Sem.run_bind, run_underlying' (kind_str h1), run_underlying' (kind_slice h2), Result.andThen_ok, run_underlying' (isU8_kind hu8), Conv.stringToBytes, run_choose, hq, Bool.false_eq_true, if_false, newRow, run_newObj, Sem.run_pure]
      simp only [markStringish, Sem.run_bind, run_shape]
      erw [hsh]
      rfl
    have hge : b.size ≤ cap := by
      simp only [cap, grownCap, Question.cut]
      omega
    refine ⟨Nat.le_refl _, Stay.refl _ _ _, _, w2, ρ, I.add w.heap.size (.cells cs e (cs.size, cs.size + 1)), hrun, Moved.fixNew sr hheap rfl rfl rfl, ?_⟩
    have hlen : ((b.data.toList.map UInt8.toNat).map fun q => AV.int .u8 (Int.ofNat q)).length = b.size := by simp
    have hget : ∀ (i : Nat) (e' : AV), ((b.data.toList.map UInt8.toNat).map fun q => AV.int .u8 (Int.ofNat q))[i]? = some e' → ∃ q, b.data.toList[i]? = some q ∧ e' = .int .u8 (Int.ofNat q.toNat) := by
      intro i e' he
      rw [List.map_map, List.getElem?_map] at he
      cases hq : b.data.toList[i]? with
      | none => rw [hq] at he; cases he
      | some q => rw [hq] at he; cases he; exact ⟨q, rfl, rfl⟩
    have := VR.isl (ρ := ρ) (I := I.add w.heap.size (.cells cs e (cs.size, cs.size + 1))) 1 ((b.data.toList.map UInt8.toNat).map fun q => AV.int .u8 (Int.ofNat q)) ⟨w.heap.size, 0, none⟩ cap cs e (cs.size, cs.size + 1)
      (fun i _ => (cs[i]?).getD undef) rfl (by rw [hlen]; exact hge) (fun _ => by simp [Fix.add])
      (fun i e' he => by obtain ⟨q, _, rfl⟩ := hget i e' he; rfl)
      (fun i e' j' c he hj' => by
        obtain ⟨q, hq, rfl⟩ := hget i e' he
        have hj0 : j' = 0 := by
          have := (List.getElem?_eq_some_iff.1 hj').1
          simp [AV.cells] at this
          exact this
        subst hj0
        simp only [Nat.zero_add, Nat.mul_one, Nat.add_zero]
        have hlt : i < cs.size := by have := (List.getElem?_eq_some_iff.1 hq).1; simp [cs] at this ⊢; omega
        rw [Array.getElem?_eq_getElem hlt]; rfl)
      (fun i e' j' c he hj' => by
        obtain ⟨q, hq, rfl⟩ := hget i e' he
        have hj0 : j' = 0 := by
          have := (List.getElem?_eq_some_iff.1 hj').1
          simp [AV.cells] at this
          exact this
        subst hj0
        simp [AV.cells] at hj'
        subst hj'
        have hlt := (List.getElem?_eq_some_iff.1 hq).1
        have : cs[i]? = some (.int .u8 q.toNat) := by
          simp only [cs]
          rw [Array.getElem?_append_left (by simpa using hlt)]
          simp only [Array.getElem?_map]
          have : b.data[i]? = some q := by simpa using hq
          rw [this]; rfl
        rw [this]; exact .int _ _)
    rw [hlen] at this
    exact this
  · cases h

theorem atypeAssert_sound {x v : AV} {xv : Value} {xt t : TypeId} {ok : Bool} {w : World} (h : atypeAssert (AProg.of p) x t ok = some v) (hx : VR ρ I x xv) :
    ∃ y, (Instr.typeAssert xv xt t ok).run p w = .ok y w ∧ VR ρ I v y := by
  unfold atypeAssert at h
  split at h
  case h_1 => cases h
  rename_i i hi
  obtain ⟨f, hf, _, _, hkind, hzero, _⟩ := ti_info hi
  have hund : i.kind ≠ .other → ∃ d, p.underlying t = some d := by
    intro hne
    rw [hkind] at hne
    unfold kindOf at hne
    cases e : p.underlying t with
    | none => rw [e] at hne; exact absurd rfl hne
    | some d => exact ⟨d, rfl⟩
  have hnotif : (∀ b, i.kind ≠ .iface b) → ∀ ms, p.underlying t ≠ some (.interface ms) := by
    intro hne ms e
    refine hne (!ms.isEmpty) ?_
    rw [hkind]; unfold kindOf; rw [e]
  split at h
  · cases h
  · cases h
  · rename_i h1 h2
    obtain ⟨d, hd⟩ := hund h2
    have hni := hnotif (fun b => h1 b)
    cases hx
    split at h
    · rename_i z hz
      cases h
      obtain ⟨fe, zx, hfe, hfz, hzx⟩ := zero_of (ρ := ρ) (I := I) hi hz
      refine ⟨.tuple #[zx, .bool false], ?_, VR.tuple_iff.2 ⟨_, rfl, VRL.cons hzx (VRL.cons (.bool _) VRL.nil)⟩⟩
      cases d <;> first | (exact absurd hd (hni _)) | simp [Instr.typeAssert, run_underlying' hd, run_zeroValue' hfe hfz]
    · cases h
  · rename_i t' v' h1 h2
    obtain ⟨d, hd⟩ := hund h2
    have hni := hnotif (fun b => h1 b)
    cases hx with
    | iface _ _ xv' hv' =>
      split at h
      · rename_i he
        subst he
        cases h
        refine ⟨_, ?_, okPair_sound hv' ok true⟩
        cases d <;> first | (exact absurd hd (hni _)) | simp [Instr.typeAssert, run_underlying' hd]
      · rename_i he
        split at h
        · rename_i z hz
          cases h
          obtain ⟨fe, zx, hfe, hfz, hzx⟩ := zero_of (ρ := ρ) (I := I) hi hz
          refine ⟨.tuple #[zx, .bool false], ?_, VR.tuple_iff.2 ⟨_, rfl, VRL.cons hzx (VRL.cons (.bool _) VRL.nil)⟩⟩
          cases d <;> first | (exact absurd hd (hni _)) | simp [Instr.typeAssert, run_underlying' hd, he, run_zeroValue' hfe hfz]
        · cases h
  · cases h

theorem amakeInterface_sound {x v : AV} {xv : Value} {t : TypeId} {w : World} (h : amakeInterface (AProg.of p) t x = some v) (hx : VR ρ I x xv) :
    ∃ y, (Instr.makeInterface t xv).run p w = .ok y w ∧ VR ρ I v y := by
  unfold amakeInterface at h
  split at h
  case h_1 => cases h
  rename_i i hi
  obtain ⟨f, hf, _, _, hkind, hzero, _⟩ := ti_info hi
  split at h
  · cases h
  · cases h
  · rename_i h1 h2
    cases h
    rw [hkind] at h1 h2
    refine ⟨.iface t xv, ?_, .iface _ _ _ hx⟩
    unfold kindOf at h1 h2
    cases e : p.underlying t with
    | none => rw [e] at h2; exact absurd rfl h2
    | some d => rw [e] at h1 h2; cases d <;> first | exact absurd rfl (h1 _) | simp [Instr.makeInterface, run_underlying' e]

theorem minmaxGo_sound {mx : Bool} {w : World} : ∀ (l : List AV) (lv : List Value) (x v : AV) (xv : Value), minmaxGo mx x l = some v → VR ρ I x xv → VRL ρ I l lv →
    ∃ y, ((if mx then lv.foldlM Builtin.max2 xv else lv.foldlM Builtin.min2 xv : Sem Value)).run p w = .ok y w ∧ VR ρ I v y
  | [], lv, x, v, xv, h, hx, hl => by
    have := hl.inv_nil; subst this
    simp only [minmaxGo, Option.some.injEq] at h; subst h
    exact ⟨xv, by cases mx <;> rfl, hx⟩
  | y :: l, lv, x, v, xv, h, hx, hl => by
    obtain ⟨yv, lv', rfl, hy, hl'⟩ := hl.inv_cons
    simp only [minmaxGo] at h
    split at h
    case h_2 => cases h
    rename_i z hz
    unfold minmax2 at hz
    split at hz
    case h_2 => cases hz
    rename_i k a k' b
    cases hz
    cases hx.int_inv
    cases hy.int_inv
    cases mx
    · obtain ⟨r, hr, hv⟩ := minmaxGo_sound l lv' _ v (.int k (if b < a then b else a)) h (by simp only [Bool.false_eq_true, if_false]; exact .int _ _) hl'
      refine ⟨r, ?_, hv⟩
      simp only [Bool.false_eq_true, if_false, List.foldlM_cons, Sem.run_bind, Builtin.min2, Sem.run_pure, Result.andThen_ok] at hr ⊢
      exact hr
    · obtain ⟨r, hr, hv⟩ := minmaxGo_sound l lv' _ v (.int k (if a < b then b else a)) h (by simp only [if_true]; exact .int _ _) hl'
      refine ⟨r, ?_, hv⟩
      simp only [if_true, List.foldlM_cons, Sem.run_bind, Builtin.max2, Sem.run_pure, Result.andThen_ok, GT.gt] at hr ⊢
      exact hr

theorem aminmax_sound {mx : Bool} {l : List AV} {lv : Array Value} {v : AV} {ats : Array TypeId} {ty : TypeId} {w : World} (h : aminmax mx l = some v) (hl : VRL ρ I l lv.toList) :
    ∃ y, ((if mx then Builtin.max_ ats ty lv else Builtin.min_ ats ty lv : Sem Value)).run p w = .ok y w ∧ VR ρ I v y := by
  cases l with
  | nil => simp [aminmax] at h
  | cons x l =>
    obtain ⟨xv, lv', he, hx, hl'⟩ := hl.inv_cons
    obtain ⟨y, hy, hv⟩ := minmaxGo_sound (p := p) (w := w) l lv' x v xv h hx hl'
    refine ⟨y, ?_, hv⟩
    cases mx
    · simp only [Bool.false_eq_true, if_false] at hy ⊢; unfold Builtin.min_; rw [he]; exact hy
    · simp only [if_true] at hy ⊢; unfold Builtin.max_; rw [he]; exact hy

theorem alenOp_sound {s : AS} {ats : Array TypeId} {ty : TypeId} {x v : AV} {xv : Value} {w : World} (h : alenOp (AProg.of p) s ats x = some v) (sr : SR ρ I s.get w) (hx : VR ρ I x xv) :
    ∃ y, (Builtin.len_ ats ty #[xv]).run p w = .ok y w ∧ VR ρ I v y := by
  unfold alenOp at h
  split at h
  case h_1 => cases h
  rename_i t ht
  split at h
  case h_1 => cases h
  rename_i i hi
  obtain ⟨f, hf, _, _, hkind, hzero, _⟩ := ti_info hi
  split at h
  · rename_i l hk
    rw [hkind] at hk
    cases h
    obtain ⟨b, rfl, rfl⟩ := hx.str_inv
    refine ⟨.int .i64 b.size, by simp [Builtin.len_, ht, run_underlying' (kind_str hk), goInt], ?_⟩
    have : Int.ofNat (b.data.toList.map UInt8.toNat).length = (b.size : Int) := by simp
    rw [this]; exact .int _ _
  · rename_i e a n c hk
    rw [hkind] at hk
    cases h
    cases hx <;> exact ⟨_, by simp [Builtin.len_, ht, run_underlying' (kind_slice hk), goInt], .int _ _⟩
  · rename_i e z xs hk
    rw [hkind] at hk
    cases h
    obtain ⟨a, cap, rfl, _⟩ := hx.isl_inv
    exact ⟨_, by simp [Builtin.len_, ht, run_underlying' (kind_slice hk), goInt], .int _ _⟩
  · rename_i k e x hk
    rw [hkind] at hk
    split at h
    case h_2 => cases h
    rename_i es hes
    cases h
    unfold entriesOf at hes
    split at hes
    · cases hes
      cases hx
      exact ⟨_, by simp [Builtin.len_, ht, run_underlying' (kind_map hk), goInt], .int _ _⟩
    · rename_i r
      split at hes
      case h_2 => cases hes
      rename_i es' ho
      cases hes
      cases hx with
      | map _ hm hh =>
        obtain ⟨ms, cl, hc, hs, hv⟩ : MapAt ρ I w hm es := sr.obj _ _ _ hh ho
        have hgo : (getObj hm.block).run p w = .ok (.map ms cl) w := by simp [getObj, Sem.run, hc]
        refine ⟨.int .i64 ms.size, by simp [Builtin.len_, ht, run_underlying' (kind_map hk), hgo, goInt], ?_⟩
        rw [hs]; exact .int _ _
    · cases hes
  · cases h

theorem acapOp_sound {ats : Array TypeId} {ty : TypeId} {x v : AV} {xv : Value} {w : World} (h : acapOp (AProg.of p) ats x = some v) (hx : VR ρ I x xv) :
    ∃ y, (Builtin.cap_ ats ty #[xv]).run p w = .ok y w ∧ VR ρ I v y := by
  unfold acapOp at h
  split at h
  case h_1 => cases h
  rename_i t ht
  split at h
  case h_1 => cases h
  rename_i i hi
  obtain ⟨f, hf, _, _, hkind, hzero, _⟩ := ti_info hi
  split at h
  · rename_i e a n c hk
    rw [hkind] at hk
    cases h
    cases hx with
    | sliceNil => exact ⟨_, by simp [Builtin.cap_, ht, run_underlying' (kind_slice hk), goInt], .int _ _⟩
    | slice _ _ c' _ hm hh hz htt hl hac =>
      have := hac c rfl
      subst this
      exact ⟨_, by simp [Builtin.cap_, ht, run_underlying' (kind_slice hk), goInt], .int _ _⟩
    | sliceZero _ y _ hac =>
      have : c = 0 := by rcases hac with h0 | h0 <;> simp at h0; exact h0
      subst this
      exact ⟨_, by simp [Builtin.cap_, ht, run_underlying' (kind_slice hk), goInt], .int _ _⟩
  · cases h

end Go.AM
