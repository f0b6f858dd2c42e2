/- Maps; conversions; interfaces. -/
import Derived.Test.YtppdanlhccpajaaGreatDoorAmMem8
set_option linter.unusedSimpArgs false
set_option linter.unusedVariables false
set_option linter.unusedSectionVars false
namespace Go.AM

variable {p : Program} {ρ : Emb} {I : Fix}

theorem plainKey_kind {t : TypeId} {k : AV} {kv : Value} (h : plainKey (AProg.of p) t k = true) (hk : VR ρ I k kv) :
    (∃ i n q, p.underlying t = some (.int i) ∧ k = .int q n ∧ kv = .int q n) ∨ (∃ s b, p.underlying t = some .string ∧ k = .str s ∧ kv = .string b) ∨ (∃ b, p.underlying t = some .bool ∧ k = .bool b ∧ kv = .bool b) := by
  unfold plainKey at h
  split at h
  case h_1 => cases h
  rename_i i hti
  obtain ⟨f, hf, _, _, hkind, _, _⟩ := ti_info hti
  split at h
  · rename_i k' q n hk'
    rw [hkind] at hk'
    cases hk.int_inv
    exact .inl ⟨_, _, _, kind_int hk', rfl, rfl⟩
  · rename_i s hk'
    rw [hkind] at hk'
    obtain ⟨b, rfl, rfl⟩ := hk.str_inv
    exact .inr (.inl ⟨_, b, kind_str hk', rfl, rfl⟩)
  · rename_i b hk'
    rw [hkind] at hk'
    cases hk.bool_inv
    exact .inr (.inr ⟨_, kind_bool hk', rfl, rfl⟩)
  · cases h

theorem run_checkKey {t : TypeId} {k : AV} {kv : Value} (h : plainKey (AProg.of p) t k = true) (hk : VR ρ I k kv) (e : Bool) : ∀ (n : Nat), n ≠ 0 → ∀ w, (Instr.checkKey e n t kv).run p w = .ok () w
  | 0, h0, _ => absurd rfl h0
  | n + 1, _, w => by
    rcases plainKey_kind h hk with ⟨i, m, q, hu, _, rfl⟩ | ⟨s, b, hu, _, rfl⟩ | ⟨b, hu, _, rfl⟩ <;> simp [Instr.checkKey, run_underlying' hu]

theorem bytes_beq (a b : ByteArray) : (a == b) = ((a.data.toList.map UInt8.toNat) == (b.data.toList.map UInt8.toNat)) := by
  show (a.data == b.data) = _
  rw [Bool.eq_iff_iff, beq_iff_eq, beq_iff_eq]
  constructor
  · intro h; rw [h]
  · intro h; exact Array.toList_inj.1 (map_toNat_inj h)

/-- A key's place among the entries. -/
theorem afind_sound {t : TypeId} {d : TypeDesc} {k : AV} {kv : Value} (hp : plainKey (AProg.of p) t k = true) (hk : VR ρ I k kv) (hd : p.underlying t = some d) :
    ∀ (es : List (AV × AV)) (ms : List MapEntry) (i : Nat) (r : Option (Nat × AV)), afind k es i = some r → es.length = ms.length →
      (∀ (j : Nat) (e : AV × AV) (m : MapEntry), es[j]? = some e → ms[j]? = some m → VR ρ I e.1 m.key ∧ VR ρ I e.2 m.val) →
      ∃ r', Instr.findNow d kv ms i = some r' ∧ (match r, r' with
        | none, none => True
        | some (j, v), some (j', x) => j = j' ∧ VR ρ I v x ∧ i ≤ j ∧ ∃ e m, es[j - i]? = some e ∧ ms[j - i]? = some m ∧ keyEq k e.1 = some true ∧ v = e.2 ∧ x = m.val
        | _, _ => False)
  | [], ms, i, r, h, hl, _ => by
    cases ms with
    | cons => simp at hl
    | nil => simp only [afind, Option.some.injEq] at h; subst h; exact ⟨none, rfl, trivial⟩
  | e :: es, ms, i, r, h, hl, hv => by
    cases ms with
    | nil => simp at hl
    | cons m ms =>
      obtain ⟨hke, hve⟩ := hv 0 e m rfl rfl
      simp only [afind, Option.bind_eq_bind, Option.bind_eq_some_iff] at h
      obtain ⟨b, hb, h⟩ := h
      have hsame : Instr.sameNow d kv m.key = some b := by
        rcases plainKey_kind hp hk with ⟨i', n, q, hu, rfl, rfl⟩ | ⟨s, bs, hu, rfl, rfl⟩ | ⟨bo, hu, rfl, rfl⟩
        · rw [hd] at hu; cases hu
          cases he : e.1 <;> rw [he] at hb hke <;> simp [keyEq] at hb
          have := hke.int_inv
          rw [this]
          obtain ⟨hq, hb⟩ := hb
          simp [Instr.sameNow, hq, hb]
        · rw [hd] at hu; cases hu
          cases he : e.1 <;> rw [he] at hb hke <;> simp only [keyEq] at hb <;> try (cases hb; done)
          obtain ⟨b2, hb2, rfl⟩ := hke.str_inv
          obtain ⟨b3, hb3, rfl⟩ := hk.str_inv
          cases hb3
          rw [hb2]
          simp only [Instr.sameNow, bytes_beq]; exact hb
        · rw [hd] at hu; cases hu
          cases he : e.1 <;> rw [he] at hb hke <;> simp only [keyEq] at hb <;> try (cases hb; done)
          have := hke.bool_inv
          rw [this]
          simp only [Instr.sameNow]; exact hb
      cases b with
      | true =>
        simp only [Option.some.injEq] at h
        subst h
        exact ⟨some (i, m.val), by simp [Instr.findNow, hsame], rfl, hve, Nat.le_refl _, e, m, by simp, by simp, hb, rfl, rfl⟩
      | false =>
        simp only at h
        obtain ⟨r', h1, h2⟩ := afind_sound hp hk hd es ms (i + 1) r h (by simpa using hl) (fun j e' m' he hm => hv (j + 1) e' m' (by simpa using he) (by simpa using hm))
        refine ⟨r', by simp [Instr.findNow, hsame, h1], ?_⟩
        cases r with
        | none => cases r' with | none => trivial | some q => exact h2.elim
        | some q =>
          cases r' with
          | none => exact h2.elim
          | some q' =>
            simp only at h2 ⊢
            obtain ⟨e1, e2, e3, e', m', e4, e5, e6, e7, e8⟩ := h2
            refine ⟨e1, e2, by omega, e', m', ?_, ?_, e6, e7, e8⟩
            · have : q.1 - i = (q.1 - (i + 1)) + 1 := by omega
              rw [this]; simpa using e4
            · have : q.1 - i = (q.1 - (i + 1)) + 1 := by omega
              rw [this]; simpa using e5

theorem okPair_sound {v : AV} {x : Value} (h : VR ρ I v x) (ok b : Bool) : VR ρ I (okPair ok v b) (if ok then .tuple #[x, .bool b] else x) := by
  cases ok
  · exact h
  · exact VR.tuple_iff.2 ⟨_, rfl, VRL.cons h (VRL.cons (.bool _) VRL.nil)⟩

theorem alookup_sound {s : AS} {t : TypeId} {x k v : AV} {xv kv : Value} {ok : Bool} {w : World} (h : alookup (AProg.of p) s t x k ok = some v) (sr : SR ρ I s.get w) (hx : VR ρ I x xv) (hk : VR ρ I k kv) :
    ∃ y, (Instr.lookup t xv kv ok).run p w = .ok y w ∧ VR ρ I v y := by
  unfold alookup at h
  split at h
  case h_1 => cases h
  rename_i i hi
  obtain ⟨f, hf, _, _, hkind, _, _⟩ := ti_info hi
  split at h
  case h_2 => cases h
  rename_i kt e hk0
  rw [hkind] at hk0
  have hu := kind_map hk0
  split at h
  case isFalse => cases h
  rename_i hpk
  split at h
  case h_1 => cases h
  rename_i es hes
  obtain ⟨d, hd⟩ : ∃ d, p.underlying kt = some d := by rcases plainKey_kind hpk hk with ⟨i, m, q, hu, _, _⟩ | ⟨s, b, hu, _, _⟩ | ⟨b, hu, _, _⟩ <;> exact ⟨_, hu⟩
  obtain ⟨ms, hms, hlen, hval⟩ : ∃ ms : Array MapEntry, (xv = .map none ∧ ms = #[] ∨ ∃ r cl, xv = .map (some r) ∧ (getObj r).run p w = .ok (.map ms cl) w) ∧ es.length = ms.toList.length ∧
      (∀ (j : Nat) (e : AV × AV) (m : MapEntry), es[j]? = some e → ms.toList[j]? = some m → VR ρ I e.1 m.key ∧ VR ρ I e.2 m.val) := by
    unfold entriesOf at hes
    split at hes
    · cases hes
      cases hx
      exact ⟨#[], .inl ⟨rfl, rfl⟩, rfl, by simp⟩
    · rename_i r
      split at hes
      case h_2 => cases hes
      rename_i es' ho
      cases hes
      cases hx with
      | map _ hm hh =>
        obtain ⟨ms, cl, hc, hs, hv⟩ : MapAt ρ I w hm es := sr.obj _ _ _ hh ho
        have hgo : (getObj hm.block).run p w = .ok (.map ms cl) w := by simp [getObj, Sem.run, hc]
        exact ⟨ms, .inr ⟨_, cl, rfl, hgo⟩, by simpa using hs.symm, fun j e m he hm' => hv j e m he (by simpa using hm')⟩
    · cases hes
  have hr0 : ∃ r, afind k es 0 = some r := by
    cases e : afind k es 0 with
    | none => rw [e] at h; cases h
    | some r => exact ⟨r, rfl⟩
  obtain ⟨r, hr⟩ := hr0
  obtain ⟨r', hr1, hr2⟩ := afind_sound hpk hk hd es ms.toList 0 r hr hlen hval
  have hck := run_checkKey (p := p) hpk hk ms.isEmpty 10000 (by decide) w
  have hfk : (Instr.findKey kt kv ms.toList).run p w = .ok r' w := by
    unfold Instr.findKey
    simp only [Sem.run_bind, run_underlying' hd, Result.andThen_ok, hr1, Sem.run_pure]
  have key : ∀ y, ((match r' with
        | some (_, v) => (pure (v, true) : Sem (Value × Bool))
        | none => do pure (← zeroValue e, false)).run p w).andThen (fun (q : Value × Bool) w' => (pure (if ok then .tuple #[q.1, .bool q.2] else q.1) : Sem Value).run p w') = .ok y w →
      (Instr.lookup t xv kv ok).run p w = .ok y w := by
    intro y hy
    unfold Instr.lookup
    rcases hms with ⟨rfl, rfl⟩ | ⟨r0, cl, rfl, hgo⟩
    · simp only [Sem.run_bind, run_underlying' hu, Result.andThen_ok, Sem.run_pure, hck, hfk]
      cases r' with
      | some q => simpa using hy
      | none =>
        simp only [Sem.run_bind, Sem.run_pure] at hy ⊢
        cases hz : (zeroValue e).run p w <;> rw [hz] at hy <;> exact hy
    · simp only [Sem.run_bind, run_underlying' hu, Result.andThen_ok, Sem.run_pure, hgo, hck, hfk]
      cases r' with
      | some q => simpa using hy
      | none =>
        simp only [Sem.run_bind, Sem.run_pure] at hy ⊢
        cases hz : (zeroValue e).run p w <;> rw [hz] at hy <;> exact hy
  rw [hr] at h
  cases r with
  | some q =>
    cases r' with
    | none => exact hr2.elim
    | some q' =>
      obtain ⟨_, hv, _⟩ := hr2
      cases h
      exact ⟨_, key _ rfl, okPair_sound hv ok true⟩
  | none =>
    cases r' with
    | some q' => exact hr2.elim
    | none =>
      simp only at h
      split at h
      case h_1 => cases h
      rename_i j hj
      split at h
      case h_1 => cases h
      rename_i z hz
      cases h
      obtain ⟨fe, zx, hfe, hfz, hzx⟩ := zero_of (ρ := ρ) (I := I) hj hz
      exact ⟨_, key _ (by simp only [Sem.run_bind, run_zeroValue' hfe hfz, Result.andThen_ok, Sem.run_pure]), okPair_sound hzx ok false⟩

/-- Keys that are equal are one, to the bit: so whichever stays is the same. -/
theorem run_keyThatStays {t : TypeId} {k k' : AV} {kv kv' : Value} (h : plainKey (AProg.of p) t k = true) (hk : VR ρ I k kv) (hk' : VR ρ I k' kv') (he : keyEq k k' = some true) (w : World) :
    (Instr.keyThatStays kv' kv).run p w = .ok kv w := by
  have : Instr.sameBits 10000 kv' kv = true := by
    rcases plainKey_kind h hk with ⟨i', n, q, hu, rfl, rfl⟩ | ⟨s, bs, hu, rfl, rfl⟩ | ⟨bo, hu, rfl, rfl⟩
    · cases k' <;> simp [keyEq] at he
      have := hk'.int_inv
      subst this
      obtain ⟨h1, h2⟩ := he
      subst h1
      simp [Instr.sameBits, h2]
    · cases k' <;> simp only [keyEq] at he <;> try (cases he; done)
      obtain ⟨b2, rfl, rfl⟩ := hk'.str_inv
      obtain ⟨b3, hb3, rfl⟩ := hk.str_inv
      cases hb3
      simp only [Instr.sameBits, bytes_beq]
      simp only [Option.some.injEq] at he
      rw [beq_iff_eq] at he ⊢
      exact he.symm
    · cases k' <;> simp only [keyEq] at he <;> try (cases he; done)
      have := hk'.bool_inv
      subst this
      simp only [Option.some.injEq, beq_iff_eq] at he
      simp [Instr.sameBits, he]
  unfold Instr.keyThatStays
  rw [this]
  rfl

theorem amapUpdate_sound {s s' : AS} {t : TypeId} {x k v : AV} {xv kv vv : Value} {w : World} {lo hi : Nat} (h : amapUpdate (AProg.of p) s t x k v = some s') (sr : SR ρ I s.get w)
    (hx : VR ρ I x xv) (hk : VR ρ I k kv) (hv : VR ρ I v vv) :
    s'.next = s.next ∧ Stay lo hi s.get s'.get ∧ ∃ w', (Instr.mapUpdate t xv kv vv).run p w = .ok () w' ∧ Moved ρ I s.get w lo hi ρ I s'.get w' := by
  unfold amapUpdate at h
  split at h
  case h_1 => cases h
  rename_i i hti
  obtain ⟨f, hf, _, _, hkind, _, _⟩ := ti_info hti
  split at h
  case h_2 => cases h
  rename_i kt e hk0
  rw [hkind] at hk0
  have hu := kind_map hk0
  split at h
  case isFalse => cases h
  rename_i hpk
  split at h
  case h_2 => cases h
  rename_i r
  split at h
  case h_2 => cases h
  rename_i es ho
  obtain ⟨d, hd⟩ : ∃ d, p.underlying kt = some d := by rcases plainKey_kind hpk hk with ⟨i, m, q, hu, _, _⟩ | ⟨s, b, hu, _, _⟩ | ⟨b, hu, _, _⟩ <;> exact ⟨_, hu⟩
  cases hx with
  | map _ hm hh =>
    obtain ⟨ms, cl, hc, hs, hval⟩ : MapAt ρ I w hm es := sr.obj _ _ _ hh ho
    have hgo : (getObj hm.block).run p w = .ok (.map ms cl) w := by simp [getObj, Sem.run, hc]
    have hset : ∀ o : Obj, (setObj hm.block o).run p w = .ok () { w with heap := w.heap.setIfInBounds hm.block o } := by intro o; simp [setObj, Sem.run, hc]
    have hlt : hm.block < w.heap.size := (Array.getElem?_eq_some_iff.1 hc).1
    have hck := run_checkKey (p := p) hpk hk false 10000 (by decide) w
    obtain ⟨r0, hr⟩ : ∃ r, afind k es 0 = some r := by
      cases e : afind k es 0 with
      | none => rw [e] at h; cases h
      | some r => exact ⟨r, rfl⟩
    obtain ⟨r', hr1, hr2⟩ := afind_sound hpk hk hd es ms.toList 0 r0 hr (by simpa using hs.symm) (fun j e m he hm' => hval j e m he (by simpa using hm'))
    have hfk : (Instr.findKey kt kv ms.toList).run p w = .ok r' w := by
      unfold Instr.findKey
      simp only [Sem.run_bind, run_underlying' hd, Result.andThen_ok, hr1, Sem.run_pure]
    have hput : ∀ (es' : List (AV × AV)) (ms' : Array MapEntry) (cl' : Nat), ms'.size = es'.length → (∀ (i : Nat) (e : AV × AV) (m : MapEntry), es'[i]? = some e → ms'[i]? = some m → VR ρ I e.1 m.key ∧ VR ρ I e.2 m.val) →
        Moved ρ I s.get w lo hi ρ I (s.put r (.map es')).get { w with heap := w.heap.setIfInBounds hm.block (.map ms' cl') } := by
      intro es' ms' cl' hs' hv'
      refine Moved.put sr hh (by rw [ho]; simp) (fun b hb => ?_) (by simp) rfl rfl rfl ⟨ms', cl', ?_, hs', hv'⟩
      · show (w.heap.setIfInBounds hm.block _)[b]? = _
        rw [Array.getElem?_setIfInBounds_ne (fun e => hb e.symm)]
      · show (w.heap.setIfInBounds hm.block _)[hm.block]? = _
        rw [Array.getElem?_setIfInBounds_self_of_lt hlt]
    rw [hr] at h
    cases r0 with
    | some q =>
      cases r' with
      | none => exact hr2.elim
      | some q' =>
        obtain ⟨hq1, _, _, e0, m0, he0, hm0, hke, _, _⟩ := hr2
        cases h
        rw [Nat.sub_zero] at he0 hm0
        have hm0' : ms[q.1]? = some m0 := by simpa using hm0
        have hkv := (hval _ e0 m0 he0 hm0').1
        refine ⟨rfl, stay_put (by rw [ho]; simp) _ _, { w with heap := w.heap.setIfInBounds hm.block (.map (ms.modify q.1 fun e => { e with key := kv, val := vv }) cl) }, ?_, hput _ _ cl (by simpa using hs) ?_⟩
        · unfold Instr.mapUpdate
          simp only [Sem.run_bind, run_underlying' hu, Result.andThen_ok, hgo, hck, hfk]
          rw [← hq1, hm0']
          simp only [Option.map_some, Option.getD_some, Sem.run_bind, run_keyThatStays hpk hk hkv hke, Result.andThen_ok, hset]
        · intro i e m hie him
          rw [List.getElem?_set] at hie
          rw [Array.getElem?_modify] at him
          by_cases hiq : q.1 = i
          · rw [if_pos hiq] at hie him
            subst hiq
            split at hie
            · cases hie
              rw [hm0'] at him
              simp at him
              subst him
              exact ⟨hk, hv⟩
            · cases hie
          · rw [if_neg hiq] at hie him
            exact hval i e m hie him
    | none =>
      cases r' with
      | some q' => exact hr2.elim
      | none =>
        cases h
        refine ⟨rfl, stay_put (by rw [ho]; simp) _ _, { w with heap := w.heap.setIfInBounds hm.block (.map (ms.push { key := kv, val := vv, born := cl }) (cl + 1)) }, ?_, hput _ _ (cl + 1) (by simp [hs]) ?_⟩
        · unfold Instr.mapUpdate
          simp only [Sem.run_bind, run_underlying' hu, Result.andThen_ok, hgo, hck, hfk, hset]
        · intro i e m hie him
          rw [Array.getElem?_push] at him
          by_cases hi' : i < es.length
          · rw [List.getElem?_append_left hi'] at hie
            rw [if_neg (by omega)] at him
            exact hval i e m hie him
          · rw [List.getElem?_append_right (by omega)] at hie
            by_cases hi2 : i = es.length
            · subst hi2
              rw [if_pos hs.symm] at him
              simp at hie
              cases him
              subst hie
              exact ⟨hk, hv⟩
            · have : i - es.length ≥ 1 := by omega
              rw [List.getElem?_eq_none (by simp; omega)] at hie
              cases hie


end Go.AM
