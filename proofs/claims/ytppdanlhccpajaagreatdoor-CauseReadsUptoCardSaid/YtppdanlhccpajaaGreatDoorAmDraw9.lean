/- Regions that draw their order: the last induction. -/
import Derived.Test.YtppdanlhccpajaaGreatDoorAmDraw8
set_option linter.unusedSimpArgs false
set_option linter.unusedVariables false
set_option linter.unusedSectionVars false
namespace Go.AM

variable {p : Program}
variable {Z : Emb → Fix → Prop} {call : CallF} {yh : YieldF} {b : Nat} {ρ0 ρ : Emb} {I0 I : Fix} {s0 s : AS} {w0 w : World} {ops : Array Oper} {base : Nat} {val : Nat → AV} {obj : Nat → Option AObj} {aF aC : AAct} {sF : AS} {listed : Array Bool}
  {L : List Nat} {sn : Snaps} {E : Nat → Bool} {done : List Nat} {c : Act}

theorem Moved.widen {H H' : Nat → Option AObj} {w w' : World} {lo lo2 hi2 : Nat} {ρ' : Emb} {I' : Fix} (m : Moved ρ I H w lo lo ρ' I' H' w') : Moved ρ I H w lo2 hi2 ρ' I' H' w' :=
  ⟨m.sr, m.ext, fun id h1 h2 => by have := m.new id h1 h2; omega, m.fix, m.newfix, m.home, m.frame, m.size, m.os, m.tape, m.output⟩

theorem Moved.widen_old {H H' : Nat → Option AObj} {w w' : World} {lo : Nat} {ρ' : Emb} {I' : Fix} (m : Moved ρ I H w lo lo ρ' I' H' w') : ∀ id, ρ' id ≠ none → ρ id ≠ none := fun id h1 h2 => by
  have := m.new id h1 h2; omega

/-- What a place names is what it is in the canonical run. -/
theorem Inv.agree {i : Nat} {L1 L2 : List Nat} {o : Oper} {t : ATmps} {sn1 : Snaps} {a1 : AAct} {s1 : AS} (h : Inv p Z call yh b ρ0 I0 s0 w0 ops base val obj aF sF listed (L1 ++ i :: L2) sn aC s E done ρ I c w)
    (ho : ops.toList[i]? = some o) (hE : E i = false) (hlist : ∀ j, j < ops.toList.length → ((Region.before ops).toList.getD i 0).testBit j = true → listed.getD j false = true)
    (tm : Tmp1 ops.toList val E aC.tmps t) (mid : Mid ops.toList base val obj L1 sn aC s sn1 a1 s1) : ∀ d : Nat, d ∈ namesOf ops.toList o → t.get d = a1.tmps.get d := by
  obtain ⟨o', ho', at_⟩ := canonOk_at L1 done h.ok
  rw [ho] at ho'; cases ho'
  intro d hd
  rcases Nat.lt_or_ge d t.n with hdn | hfar
  · by_cases hw : ∃ j, E j = true ∧ dstOf ops.toList j = some d
    · obtain ⟨j, hj, hdj⟩ := hw
      rw [tm.done d j hdn hj hdj]
      have hjL := h.sit.sub j hj
      have hj1 : j ∈ L1 := by
        rcases List.mem_append.1 hjL with e | e
        · exact e
        · rcases List.mem_cons.1 e with rfl | e
          · rw [hE] at hj; cases hj
          · exact absurd hd (at_.next j e d hdj)
      exact (mid.done d j hj1 (fun o ho => h.sit.still j o hj ho) hdj (by rw [← tm.n]; exact hdn) (fun k hk hne hdk => canonOk_uniq _ _ h.ok j k hjL (by simp [hk]) (Ne.symm hne) d hdj hdk)).symm
    · have hno : ∀ j, E j = true → dstOf ops.toList j ≠ some d := fun j hj e => hw ⟨j, hj, e⟩
      rw [tm.else_ d hno, mid.kept d]
      intro j hj hdj
      have h1 := (at_.prev j (by simp [hj]) d hdj hd).1
      have hlt := h.lt j (by simp [hj])
      have hl := hlist j hlt h1
      rcases (h.lst j hlt).1 hl with e | e
      · exact e (by simp [hj])
      · exact hno j e hdj
  · rw [tm.far d hfar, mid.far d (by rw [← tm.n]; exact hfar)]

theorem sit_hG {i : Nat} (h : Sit p b ρ0 I0 s0 w0 ops.toList base val obj L aC s E ρ I c w) (hE : E i = false) : ∀ id, early base E obj id ≠ none → s.get id = none ∧ (id < base + i ∨ base + i + 1 ≤ id) := fun id hid => by
  unfold early at hid
  split at hid
  · rename_i hc
    obtain ⟨hb, he⟩ := hc
    have e : base + (id - base) = id := by omega
    have h2 := h.gap _ (h.sub _ he)
    rw [e] at h2
    refine ⟨h2, ?_⟩
    by_cases hh : id = base + i
    · subst hh
      have : base + i - base = i := by omega
      rw [this, hE] at he; cases he
    · omega
  · exact absurd rfl hid

theorem Sit.sr0 (h : Sit p b ρ0 I0 s0 w0 ops.toList base val obj L aC s E ρ I c w) : SR ρ I s.get w :=
  h.sr.less fun id o ho => by rw [beside_left (by rw [ho]; simp)]; exact ho

/-- A place that doesn't act, wherever it comes. -/
theorem early_step {i : Nat} {o : Oper} (hZ : Keeps Z) (fr0 : ∀ id, base ≤ id → ρ0 id = none) (hmask : maskOk ops.toList (Region.before ops).toList = true)
    (h : Inv p Z call yh b ρ0 I0 s0 w0 ops base val obj aF sF listed L sn aC s E done ρ I c w) (hi : i ∈ L) (hE : E i = false) (ho : ops.toList[i]? = some o) (hact : acts o.op = false)
    (hedge : ∀ e ∈ o.after.toList, Region.binds .any e = true → listed.getD e.on false = true) {ro : Option Nat} {n : Nat} (hro : ro = none ∨ noDefers ops) {Q : Exit → Act → World → Prop} {K : Act → World → Prop}
    (hk : ∀ ρ' I' c' w', Sit p b ρ0 I0 s0 w0 ops.toList base val obj L aC s (withE E i) ρ' I' c' w' → Z ρ' I' → K c' w') :
    wpOpIn (fen ro) n p ops Q i K c w := by
  have hil : i < ops.toList.length := h.lt i hi
  have hlist : ∀ j, j < ops.toList.length → ((Region.before ops).toList.getD i 0).testBit j = true → listed.getD j false = true :=
    mask_listed hmask (fun j => listed.getD j false = true) (fun j o' hj ho' => h.closed j o' hj ho') i o ho hedge
  obtain ⟨t, tr, tm⟩ := h.sit.tmps
  obtain ⟨L1, L2, hL⟩ := List.append_of_mem hi
  subst hL
  obtain ⟨sn1, a1, s1, ht1, mid⟩ := Tr.mid L1 sn aC s h.nd h.tr
  have agree := h.agree ho hE hlist tm mid
  have hdst : ∀ j d, E j = true → o.dst = some d → dstOf ops.toList j ≠ some d := fun j d hj hd hdj =>
    canonOk_uniq _ _ h.ok j i (h.sit.sub j hj) (by simp) (fun e => by subst e; rw [hE] at hj; cases hj) d hdj (by simp [dstOf, ho, hd])
  have hwant : Region.wanted o (yielded ops c.tmps) = awanted ops.toList a1.tmps o := by rw [awanted_eq tr o, awanted_congr agree]
  have hev : ∀ s', evOp (AProg.of p) t s' o = evOp (AProg.of p) a1.tmps s' o := fun s' => evOp_tmps fun x hx => aeval_congr fun d e => agree d (names_operands (e ▸ hx))
  have hops : ops[i]? = some o := by simpa using ho
  have hro' : ro = none ∨ noDeferOp o = true := hro.imp id fun h => h o (List.mem_of_getElem? ho)
  have fin : ∀ x ρ' I' w', Moved ρ I (beside s.get (early base E obj)) w (base + i) (base + i + 1) ρ' I' (beside s.get (early base (withE E i) obj)) w' → VR ρ' I' (val i) x → K (c.put o.dst x) w' :=
    fun x ρ' I' w' hm hv => hk _ _ _ _ (h.sit.early fr0 h.lt hi hE ho hact hdst hm hv) (hZ _ _ _ _ hm.ext hm.fix h.z)
  unfold wpOpIn
  rw [hops]
  simp only
  rw [hwant]
  cases ht1 with
  | skip _ o2 _ _ _ _ _ _ ho2 hw hv hob ht =>
    rw [ho] at ho2; cases ho2
    rw [hw]
    simp only [Bool.false_eq_true, if_false]
    exact ⟨fun _ _ => trivial, fin _ _ _ _ (by rw [early_with_none hob]; exact Moved.refl h.sit.sr) (by rw [hv]; exact VR.undef)⟩
  | act _ o2 _ _ _ a' _ s' _ _ ho2 hw ha hs ht => rw [ho] at ho2; cases ho2; rw [hact] at ha; cases ha
  | pure _ o2 _ _ _ _ _ _ ho2 hw ha he hob ht =>
    rw [ho] at ho2; cases ho2
    rw [hw, if_pos rfl]
    have ok := evOp_sound (ρ := ρ) (I := I) (a := c) (w := w) ((hev s).trans (he s)) tr h.sit.sr0 (fun id h1 h2 => absurd h1 (Nat.not_le.2 h2))
    refine opOk_wpIn hro' ok (fun v s' e x w' ρ' I' hm hv => ?_) (by rintro _ ⟨⟩) (by rintro _ _ ⟨⟩) (by rintro _ _ ⟨⟩) (by rintro _ _ ⟨⟩) (by rintro ⟨⟩) (by rintro _ _ ⟨⟩)
    cases e
    refine fin x ρ' I' w' ?_ hv
    rw [early_with_none hob]
    exact (Moved.beside h.sit.sr (fun id hid => ⟨(sit_hG h.sit hE id hid).1, by omega⟩) (fun id h1 h2 => absurd h1 (Nat.not_le.2 h2)) (Stay.refl _ _ _) hm).widen
  | make _ o2 _ _ _ _ _ _ ob ho2 hw ha he hob ht =>
    rw [ho] at ho2; cases ho2
    rw [hw, if_pos rfl]
    have ok := evOp_sound (ρ := ρ) (I := I) (a := c) (w := w) ((hev { s with next := base + i }).trans (he { s with next := base + i } rfl)) tr h.sit.sr0
      (fun id h1 h2 => by
        have h1 : base + i ≤ id := h1
        have h2 : id < base + i + 1 := h2
        have : id = base + i := by omega
        subst this; exact h.sit.off i hi hE)
    refine opOk_wpIn hro' ok (fun v s' e x w' ρ' I' hm hv => ?_) (by rintro _ ⟨⟩) (by rintro _ _ ⟨⟩) (by rintro _ _ ⟨⟩) (by rintro _ _ ⟨⟩) (by rintro ⟨⟩) (by rintro _ _ ⟨⟩)
    cases e
    refine fin x ρ' I' w' ?_ hv
    rw [← beside_with hob (h.sit.gap i hi)]
    exact Moved.beside (lo := base + i) (hi := base + i + 1) h.sit.sr (sit_hG h.sit hE) (fun id h1 h2 => by
        have : id = base + i := by omega
        subst this; exact h.sit.off i hi hE) (stay_new { s with next := base + i } ob) hm
  | read _ o2 _ _ _ _ s2' _ _ ho2 hw ha hr he hu hob ht =>
    rw [ho] at ho2; cases ho2
    rw [hw, if_pos rfl]
    obtain ⟨s2, near, hor⟩ := mid.state
    have hread : evOp (AProg.of p) t s2 o = some (.val (val i) s2) := by
      rw [hev]
      rcases hor with rfl | ⟨k, o3, hk1, hk2, hk3, hk4⟩
      · rw [he, evOp_reads hr he]
      · have hbit : ((Region.before ops).toList.getD i 0).testBit k = false := by
          cases hb : ((Region.before ops).toList.getD i 0).testBit k with
          | false => rfl
          | true =>
            have hkL : k ∈ L1 ++ i :: L2 := by simp [hk1]
            have hl := hlist k (h.lt k hkL) hb
            rcases (h.lst k (h.lt k hkL)).1 hl with e | e
            · exact absurd hkL e
            · rw [h.sit.still k o3 e hk2] at hk3; cases hk3
        have := unturned_at sn1 hu k s2 hk4 hbit
        unfold readAgain at this
        split at this
        · rename_i v s3 e
          cases this
          rw [e, evOp_reads hr e]
        · cases this
    -- what is there then is there now, as far as it is embedded
    have hthere : ∀ id ob, ρ id ≠ none → s2.get id = some ob → beside s.get (early base E obj) id = some ob := fun id ob hρ hg => by
      rcases near id with e | ⟨j, hj, e1, e2, e3⟩
      · rw [beside_left (by rw [← e, hg]; simp), ← e, hg]
      · subst e1
        have hjL : j ∈ L1 ++ i :: L2 := by simp [hj]
        cases hEj : E j with
        | false => exact absurd (h.sit.off j hjL hEj) hρ
        | true =>
          rw [beside_right (h.sit.gap j hjL)]
          unfold early
          have : base + j - base = j := by omega
          rw [this, if_pos ⟨by omega, hEj⟩, ← e2, hg]
    let G : Nat → Option AObj := fun id => if s2.get id = none then early base E obj id else none
    have sr2 : SR ρ I (beside s2.get G) w := h.sit.sr.sub fun id ob hρ hg => by
      rcases beside_some hg with h1 | ⟨h1, h2⟩
      · exact hthere id ob hρ h1
      · have h3 : early base E obj id = some ob := by simpa [G, h1] using h2
        rw [beside_right (sit_hG h.sit hE id (by rw [h3]; simp)).1, h3]
    have heq : ∀ id, ρ id ≠ none → beside s.get (early base E obj) id = beside s2.get G id := fun id hρ => by
      cases hg : s2.get id with
      | some ob => rw [hthere id ob hρ hg, beside_left (by rw [hg]; simp), hg]
      | none =>
        rw [beside_right (H := s2.get) hg]
        have hs : s.get id = none := by
          rcases near id with e | ⟨j, hj, e1, e2, e3⟩
          · rw [← e, hg]
          · rw [hg] at e2; exact absurd e2.symm e3
        rw [beside_right hs]
        simp [G, hg]
    have ok := evOp_sound (ρ := ρ) (I := I) (a := c) (w := w) hread tr (sr2.less fun id o ho => by rw [beside_left (by rw [ho]; simp)]; exact ho) (fun id h1 h2 => absurd h1 (Nat.not_le.2 h2))
    refine opOk_wpIn hro' ok (fun v s' e x w' ρ' I' hm hv => ?_) (by rintro _ ⟨⟩) (by rintro _ _ ⟨⟩) (by rintro _ _ ⟨⟩) (by rintro _ _ ⟨⟩) (by rintro ⟨⟩) (by rintro _ _ ⟨⟩)
    cases e
    refine fin x ρ' I' w' ?_ hv
    rw [early_with_none hob]
    have m2 := Moved.beside (G := G) sr2 (fun id hid => ⟨by
      cases hg : s2.get id with
      | none => rfl
      | some ob => exact absurd (by simp [G, hg]) hid, by omega⟩) (fun id h1 h2 => absurd h1 (Nat.not_le.2 h2)) (Stay.refl _ _ _) hm
    exact (m2.congr heq fun id hid => heq id (m2.widen_old id hid)).widen

/-- A place that acts: it is at the head. -/
theorem act_step {i : Nat} {rest : List Nat} {o : Oper} (hZ : Keeps Z) (hc : CallOk p (fun _ _ => True) call) (hy : YieldOk p Z yh) (fr0 : ∀ id, base ≤ id → ρ0 id = none) (hmask : maskOk ops.toList (Region.before ops).toList = true)
    (h : Inv p Z call yh b ρ0 I0 s0 w0 ops base val obj aF sF listed (i :: rest) sn aC s E done ρ I c w) (hE : E i = false) (ho : ops.toList[i]? = some o) (hact : acts o.op = true)
    (hedge : ∀ e ∈ o.after.toList, Region.binds .any e = true → listed.getD e.on false = true) {ro : Option Nat} {n : Nat} (hro : ro = none ∨ noDefers ops) {Q : Exit → Act → World → Prop} {K : Act → World → Prop}
    (hk : ∀ sn' aC' s' ρ' I' c' w', Inv p Z call yh b ρ0 I0 s0 w0 ops base val obj aF sF (listed.setIfInBounds i true) rest sn' aC' s' E (i :: done) ρ' I' c' w' → K c' w') :
    wpOpIn (fen ro) n p ops Q i K c w := by
  have hi : i ∈ i :: rest := by simp
  have hil : i < ops.toList.length := h.lt i hi
  have hlist : ∀ j, j < ops.toList.length → ((Region.before ops).toList.getD i 0).testBit j = true → listed.getD j false = true :=
    mask_listed hmask (fun j => listed.getD j false = true) (fun j o' hj ho' => h.closed j o' hj ho') i o ho hedge
  obtain ⟨hni, nd⟩ := List.nodup_cons.1 h.nd
  obtain ⟨t, tr, tm⟩ := h.sit.tmps
  have mid : Mid ops.toList base val obj [] sn aC s sn aC s := ⟨rfl, fun _ _ => rfl, fun _ _ => rfl, fun _ _ hj => absurd hj List.not_mem_nil, ⟨s, Near.refl, .inl rfl⟩, fun _ hx => hx⟩
  have agree := Inv.agree (L1 := []) h ho hE hlist tm mid
  have hdst : ∀ j d, E j = true → o.dst = some d → dstOf ops.toList j ≠ some d := fun j d hj hd hdj =>
    canonOk_uniq _ _ h.ok j i (h.sit.sub j hj) hi (fun e => by subst e; rw [hE] at hj; cases hj) d hdj (by simp [dstOf, ho, hd])
  have hwant : Region.wanted o (yielded ops c.tmps) = awanted ops.toList aC.tmps o := by rw [awanted_eq tr o, awanted_congr agree]
  have hops : ops[i]? = some o := by simpa using ho
  have hro' : ro = none ∨ noDeferOp o = true := hro.imp id fun h => h o (List.mem_of_getElem? ho)
  have hil2 : i < listed.size := by rw [h.size]; simpa using hil
  have fin : ∀ sn' s' v ds ρ' I' c' w', Tr (AProg.of p) call yh ops.toList (Region.before ops).toList base val obj rest sn' (({ aC with defers := ds } : AAct).put o.dst v) s' aF sF → Went ρ I s w s' ρ' I' w' →
      AR p b ρ' I' (({ aC with tmps := t, defers := ds } : AAct).put o.dst v) c' → K c' w' := fun sn' s' v ds ρ' I' c' w' ht went ar => by
    refine hk sn' _ s' ρ' I' c' w' ⟨h.sit.head fr0 h.lt hE hdst tm went ar, ht, (canonOk_cons h.ok).2, nd, fun j hj => h.lt j (by simp [hj]), fun j hj => ?_, fun j hj => ?_, fun j o' hj ho' e he hb => ?_, by simpa using h.size, went.z hZ h.z⟩
    · rcases List.mem_cons.1 hj with rfl | hj
      · exact ⟨hil, hni⟩
      · exact ⟨(h.don j hj).1, fun hm => (h.don j hj).2 (by simp [hm])⟩
    · rw [getD_listed hil2, h.lst j hj]
      by_cases e : j = i
      · subst e; simp [hni]
      · simp [e]
    · rw [getD_listed hil2] at hj ⊢
      rcases hj with rfl | hj
      · rw [ho] at ho'; cases ho'
        exact .inr (hedge e he hb)
      · exact .inr (h.closed j o' hj ho' e he hb)
  unfold wpOpIn
  rw [hops]
  simp only
  rw [hwant]
  cases h.tr with
  | skip _ o2 _ _ _ _ _ _ ho2 hw hv hob ht =>
    rw [ho] at ho2; cases ho2
    rw [hw]
    simp only [Bool.false_eq_true, if_false]
    exact ⟨fun _ _ => trivial, fin _ _ aundef aC.defers _ _ _ _ ht (Went.refl h.sit.sr0) (AR.put (a := { aC with tmps := t }) ⟨tr, h.sit.dr⟩ _ VR.undef)⟩
  | act _ o2 _ _ _ a' _ s' _ _ ho2 hw ha hs ht =>
    rw [ho] at ho2; cases ho2
    rw [hw, if_pos rfl]
    obtain ⟨v, ds, e, hst⟩ := step1_tmps hs
    subst e
    have hst := hst t fun x hx => aeval_congr fun d e => agree d (names_operands (e ▸ hx))
    exact step1_sound (n := n) hst hc hy hro' b ρ I c w ⟨tr, h.sit.dr⟩ h.sit.sr0 h.sit.fresh h.z _ Q fun ρ' I' c' w' went ar => fin _ s' v ds ρ' I' c' w' ht went ar
  | pure _ o2 _ _ _ _ _ _ ho2 hw ha he hob ht => rw [ho] at ho2; cases ho2; rw [hact] at ha; cases ha
  | make _ o2 _ _ _ _ _ _ ob ho2 hw ha he hob ht => rw [ho] at ho2; cases ho2; rw [hact] at ha; cases ha
  | read _ o2 _ _ _ _ s2' _ _ ho2 hw ha hr he hu hob ht => rw [ho] at ho2; cases ho2; rw [hact] at ha; cases ha

theorem filter_lt {P Q : Nat → Bool} {i : Nat} : ∀ (l : List Nat), i ∈ l → P i = true → Q i = false → (∀ j, Q j = true → P j = true) → (l.filter Q).length < (l.filter P).length
  | [], h, _, _, _ => absurd h List.not_mem_nil
  | j :: l, h, hp, hq, hi => by
    have le : ∀ l : List Nat, (l.filter Q).length ≤ (l.filter P).length := fun l => by
      induction l with
      | nil => simp
      | cons k l ih =>
        simp only [List.filter_cons]
        cases hqk : Q k with
        | true => rw [hi k hqk]; simpa using ih
        | false => cases P k <;> simp <;> omega
    simp only [List.filter_cons]
    rcases List.mem_cons.1 h with rfl | h'
    · rw [hp, hq]
      have := le l
      simp; omega
    · have := filter_lt l h' hp hq hi
      cases hqk : Q j with
      | true => rw [hi j hqk]; simpa using this
      | false => cases P j <;> simp <;> omega

def unlisted (n : Nat) (listed : Array Bool) : Nat := ((List.range n).filter fun j => !listed.getD j false).length

theorem any_sound (hZ : Keeps Z) (hc : CallOk p (fun _ _ => True) call) (hy : YieldOk p Z yh) (fr0 : ∀ id, base ≤ id → ρ0 id = none) (hb0 : s0.next = base) (hmask : maskOk ops.toList (Region.before ops).toList = true)
    {ro : Option Nat} {n : Nat} (hro : ro = none ∨ noDefers ops) {Q : Exit → Act → World → Prop} (hq : ∀ ρ' I' c' w', Went ρ0 I0 s0 w0 sF ρ' I' w' → AR p b ρ' I' aF c' → Q .normal c' w') :
    ∀ (fuel : Nat) (L : List Nat) (sn : Snaps) (aC : AAct) (s : AS) (E : Nat → Bool) (listed : Array Bool) (done : List Nat) (ρ : Emb) (I : Fix) (c : Act) (w : World),
      Inv p Z call yh b ρ0 I0 s0 w0 ops base val obj aF sF listed L sn aC s E done ρ I c w → (∀ i rest, L = i :: rest → E i = false) → unlisted ops.size listed ≤ fuel →
        wpAnyIn (fen ro) n p .any ops Q fuel listed c w := by
  intro fuel
  induction fuel with
  | zero =>
    intro L sn aC s E listed done ρ I c w h hhead hcnt
    have hall : ∀ j, j < ops.toList.length → listed.getD j false = true := fun j hj => by
      cases e : listed.getD j false with
      | true => rfl
      | false =>
        have hm : j ∈ (List.range ops.size).filter fun j => !listed.getD j false := by
          rw [List.mem_filter, List.mem_range]; exact ⟨by simpa using hj, by simp [e]⟩
        have := List.length_pos_of_mem hm
        unfold unlisted at hcnt
        omega
    have hready : Region.ready .any ops listed = [] := by
      cases hr : Region.ready .any ops listed with
      | nil => rfl
      | cons x xs =>
        have hx : x ∈ Region.ready .any ops listed := by rw [hr]; simp
        obtain ⟨h1, o, h2, _⟩ := mem_ready.1 hx
        have hxs : x < ops.toList.length := by simpa using (Array.getElem?_eq_some_iff.1 h2).1
        have h3 := hall x hxs
        have hsz : x < listed.size := by rw [h.size]; simpa using hxs
        rw [Array.getD_eq_getD_getElem?, Array.getElem?_eq_getElem hsz] at h1 h3
        simp only [Option.getD_some] at h1 h3
        rw [h1] at h3; cases h3
    refine ⟨hready, ?_⟩
    cases L with
    | cons i rest =>
      have h1 := hall i (h.lt i (by simp))
      rcases (h.lst i (h.lt i (by simp))).1 h1 with e | e
      · exact absurd (by simp) e
      · rw [hhead i rest rfl] at e; cases e
    | nil => exact finish h
  | succ fuel ih =>
    intro L sn aC s E listed done ρ I c w h hhead hcnt
    refine ⟨fun hready => ?_, fun i hi => ?_⟩
    · cases L with
      | nil => exact finish h
      | cons i rest =>
        exfalso
        obtain ⟨⟨o, ho, at_⟩, _⟩ := canonOk_cons h.ok
        have hil := h.lt i (by simp)
        have hun : listed.getD i false = false := by
          cases e : listed.getD i false with
          | false => rfl
          | true =>
            rcases (h.lst i hil).1 e with e | e
            · exact absurd (by simp) e
            · rw [hhead i rest rfl] at e; cases e
        have hsz : i < listed.size := by rw [h.size]; simpa using hil
        have : i ∈ Region.ready .any ops listed := mem_ready.2 ⟨by
          rw [Array.getD_eq_getD_getElem?, Array.getElem?_eq_getElem hsz] at hun ⊢
          simpa using hun, o, by simpa using ho, fun e he hbind => by
          have := at_.edges e (by simpa using he) hbind
          obtain ⟨h1, h2⟩ := h.don _ this
          exact (h.lst _ h1).2 (.inl h2)⟩
        rw [hready] at this; cases this
    · obtain ⟨h1, o, h2, h3⟩ := mem_ready.1 hi
      have hil : i < ops.toList.length := by simpa using (Array.getElem?_eq_some_iff.1 h2).1
      have hsz : i < listed.size := by rw [h.size]; simpa using hil
      have hun : listed.getD i false = false := by
        rw [Array.getD_eq_getD_getElem?, Array.getElem?_eq_getElem hsz] at h1 ⊢
        simpa using h1
      have ho : ops.toList[i]? = some o := by simpa using h2
      have hedge : ∀ e ∈ o.after.toList, Region.binds .any e = true → listed.getD e.on false = true := fun e he hb => h3 e (by simpa using he) hb
      have hE : E i = false := by
        cases e : E i with
        | false => rfl
        | true => have := (h.lst i hil).2 (.inr e); rw [hun] at this; cases this
      have hiL : i ∈ L := Decidable.byContradiction fun e => by have := (h.lst i hil).2 (.inl e); rw [hun] at this; cases this
      have hcnt' : unlisted ops.size (listed.setIfInBounds i true) ≤ fuel := by
        have : unlisted ops.size (listed.setIfInBounds i true) < unlisted ops.size listed := by
          refine filter_lt (i := i) _ (by rw [List.mem_range]; simpa using hil) (by simp [hun]) ?_ fun j hj => ?_
          · have := (getD_listed (j := i) hsz).2 (.inl rfl)
            simp [this]
          · cases e : listed.getD j false with
            | false => rfl
            | true => have := (getD_listed (j := j) hsz).2 (.inr e); rw [this] at hj; cases hj
        omega
      cases hact : acts o.op with
      | false =>
        refine early_step hZ fr0 hmask h hiL hE ho hact hedge hro fun ρ' I' c' w' hs hz => ?_
        obtain ⟨L', sn', aC', s', E', done', h', hhead'⟩ := Inv.norm _ _ _ _ _ _ (h.more hiL ho hedge hs hz)
        exact ih L' sn' aC' s' E' _ done' ρ' I' c' w' h' hhead' hcnt'
      | true =>
        cases L with
        | nil => cases hiL
        | cons hd rest =>
          by_cases hih : i = hd
          · subst hih
            refine act_step hZ hc hy fr0 hmask h hE ho hact hedge hro fun sn' aC' s' ρ' I' c' w' h' => ?_
            obtain ⟨L2, sn2, aC2, s2, E2, done2, h2, hhead2⟩ := Inv.norm _ _ _ _ _ _ h'
            exact ih L2 sn2 aC2 s2 E2 _ done2 ρ' I' c' w' h2 hhead2 hcnt'
          · exfalso
            have hir : i ∈ rest := by
              rcases List.mem_cons.1 hiL with e | e
              · exact absurd e hih
              · exact e
            obtain ⟨L1, L2, hL⟩ := List.append_of_mem hir
            have hok := h.ok
            rw [hL] at hok
            obtain ⟨o', ho', at_⟩ := canonOk_at (hd :: L1) done hok
            rw [ho] at ho'; cases ho'
            have hbit := at_.act hact hd (by simp)
            have hdl := h.lt hd (by simp)
            have := mask_listed hmask (fun j => listed.getD j false = true) (fun j o' hj ho' => h.closed j o' hj ho') i o ho hedge hd hdl hbit
            rcases (h.lst hd hdl).1 this with e | e
            · exact e (by simp)
            · rw [hhead hd rest rfl] at e; cases e
where
  finish {sn : Snaps} {aC : AAct} {s : AS} {E : Nat → Bool} {listed : Array Bool} {done : List Nat} {ρ : Emb} {I : Fix} {c : Act} {w : World} (h : Inv p Z call yh b ρ0 I0 s0 w0 ops base val obj aF sF listed [] sn aC s E done ρ I c w) : Q .normal c w := by
    have hno : ∀ j, E j = true → False := fun j hj => by have := h.sit.sub j hj; cases this
    have hheap : beside s.get (early base E obj) = s.get := by
      funext id
      unfold beside
      cases s.get id with
      | some o => rfl
      | none =>
        simp only [early]
        rw [if_neg]
        exact fun hc => hno _ hc.2
    cases h.tr with
    | nil =>
      refine hq ρ I c w ⟨⟨by have := h.sit.room; omega, by rw [hb0]; exact h.sit.stay⟩, ?_⟩ ⟨?_, h.sit.dr⟩
      · have := h.sit.moved
        rw [hheap] at this
        rw [hb0]; exact this
      · obtain ⟨t, tr, tm⟩ := h.sit.tmps
        have hall : ∀ d : Nat, t.get d = _ := fun d => tm.else_ d fun j hj => (hno j hj).elim
        exact ⟨tm.n.symm.trans tr.n, fun d => by rw [← hall]; exact tr.at_ d⟩

theorem canonOk_nodup {l : List Oper} {bef : List Nat} : ∀ (L done : List Nat), canonOk l bef done L = true → L.Nodup ∧ ∀ j ∈ L, j ∉ done ∧ j < l.length
  | [], _, _ => ⟨List.nodup_nil, fun _ h => absurd h List.not_mem_nil⟩
  | i :: L, done, h => by
    obtain ⟨⟨o, ho, at_⟩, h2⟩ := canonOk_cons h
    obtain ⟨h3, h4⟩ := canonOk_nodup L (i :: done) h2
    refine ⟨List.nodup_cons.2 ⟨fun hm => (h4 i hm).1 (by simp), h3⟩, fun j hj => ?_⟩
    rcases List.mem_cons.1 hj with rfl | hj
    · exact ⟨at_.new, (List.getElem?_eq_some_iff.1 ho).1⟩
    · exact ⟨fun hm => (h4 j hj).1 (by simp [hm]), (h4 j hj).2⟩

theorem drawSound (hm : p.follows .mixedOrders = true) : DrawSound p := by
  intro Z hZ call yh hc hy ops ro n id a a' s s' hok hro h b ρ I c w ar hb sr fr hz Q hq
  unfold drawOk at hok
  simp only [Bool.and_eq_true] at hok
  obtain ⟨⟨hmask, hcan⟩, hall⟩ := hok
  obtain ⟨hnd, hin⟩ := canonOk_nodup _ _ hcan
  obtain ⟨val, obj, ht⟩ := Tr.of _ _ _ _ _ _ hnd h
  refine wpIn_region_any hm ?_
  have hearly : beside s.get (early s.next (fun _ => false) obj) = s.get := by
    funext id
    unfold beside
    cases s.get id with
    | some o => rfl
    | none => simp [early]
  have hfalse : ∀ j, (Array.replicate ops.size false).getD j false = false := fun j => by
    rw [Array.getD_eq_getD_getElem?, Array.getElem?_replicate]
    split <;> rfl
  have sr' : SR ρ I s.get { w with drawn := w.drawn + 1 } := sr.heap rfl
  have inv : Inv p Z call yh b ρ I s w ops s.next val obj a' s' (Array.replicate ops.size false) (canon ops) [] a { s with next := s.next + ops.size } (fun _ => false) [] ρ I c { w with drawn := w.drawn + 1 } := by
    refine ⟨⟨fun _ h => (by cases h), fun _ _ h => (by cases h), ⟨a.tmps, ar.tr, rfl, fun _ _ => rfl, fun _ _ _ h => (by cases h), fun _ _ => rfl⟩, ar.dr, ?_, fun j _ _ => fr.1 _ (by omega), fun j _ => fr.2 _ (by omega), ⟨fun id hid => fr.1 id ?_, fun id hid => fr.2 id ?_⟩, by simp, ?_, Stay.refl _ _ _, hb⟩,
      ht, hcan, hnd, fun j hj => (hin j hj).2, fun _ h => absurd h List.not_mem_nil, fun j hj => ?_, fun j o hj => ?_, by simp, hz⟩
    · show SR ρ I (beside s.get (early s.next (fun _ => false) obj)) _
      rw [hearly]; exact sr'
    · have hid : s.next + ops.size ≤ id := hid
      omega
    · have hid : s.next + ops.size ≤ id := hid
      omega
    · show Moved ρ I s.get w s.next (s.next + ops.size) ρ I (beside s.get (early s.next (fun _ => false) obj)) _
      rw [hearly]
      exact ⟨sr', Ext.refl _, fun _ h k => absurd k h, fun _ _ h => h, fun _ h k => absurd k h, fun _ _ h k => (by rw [h] at k; cases k), fun _ _ _ => rfl, Nat.le_refl _, rfl, rfl, rfl⟩
    · rw [hfalse]
      have hmem : j ∈ canon ops := by
        rw [List.all_eq_true] at hall
        have := hall j (List.mem_range.2 (by simpa using hj))
        rw [List.contains_eq_mem] at this
        simpa using this
      simp [hmem]
    · rw [hfalse] at hj; cases hj
  refine any_sound hZ hc hy (fun id hid => fr.1 id hid) rfl hmask hro (fun ρ' I' c' w' hw har => hq ρ' I' c' w' hw har) ops.size _ _ _ _ _ _ _ _ _ _ _ inv (fun _ _ _ => rfl) ?_
  unfold unlisted
  exact Nat.le_trans (List.length_filter_le _ _) (by simp)

end Go.AM
