/- Structs, slices and rows put together. -/
import Derived.Test.YtppdanlhccpajaaGreatDoorAmMem2
set_option linter.unusedSimpArgs false
set_option linter.unusedVariables false
set_option linter.unusedSectionVars false
namespace Go.AM

variable {p : Program} {ρ : Emb} {I : Fix}

theorem fold_set (off : Nat) : ∀ (vs : List Value) (k : Nat) (cells : Array Value), off + k + vs.length ≤ cells.size →
    ((vs.zipIdx k).foldl (fun (cs : Array Value) (x : Value × Nat) => cs.setIfInBounds (off + x.2) x.1) cells).toList = cells.toList.take (off + k) ++ vs ++ cells.toList.drop (off + k + vs.length)
  | [], k, cells, _ => by simp
  | v :: vs, k, cells, h => by
    simp only [List.length_cons] at h
    rw [List.zipIdx_cons, List.foldl_cons, fold_set off vs (k + 1) _ (by simp; omega)]
    simp only [Array.toList_setIfInBounds]
    have hk : off + k < cells.toList.length := by simp; omega
    have h1 : off + (k + 1) = (off + k) + 1 := by omega
    rw [h1, List.length_cons]
    apply List.ext_getElem?
    intro q
    have hl1 : ((cells.toList.set (off + k) v).take (off + k + 1)).length = off + k + 1 := by simp; omega
    have hl2 : (cells.toList.take (off + k)).length = off + k := by simp; omega
    rcases Nat.lt_trichotomy q (off + k) with hq | hq | hq
    · rw [List.append_assoc, List.getElem?_append_left (by omega), List.getElem?_take, if_pos (by omega), List.getElem?_set_ne (by omega)]
      rw [List.append_assoc, List.getElem?_append_left (by omega), List.getElem?_take, if_pos hq]
    · subst hq
      rw [List.append_assoc, List.getElem?_append_left (by omega), List.getElem?_take, if_pos (by omega), List.getElem?_set_self hk]
      rw [List.append_assoc, List.getElem?_append_right (by omega), hl2, Nat.sub_self]
      rfl
    · rw [List.append_assoc, List.getElem?_append_right (by omega), hl1]
      conv => rhs; rw [List.append_assoc, List.getElem?_append_right (by omega), hl2]
      have hq2 : q - (off + k) = (q - (off + k + 1)) + 1 := by omega
      conv => rhs; rw [hq2, List.cons_append, List.getElem?_cons_succ]
      by_cases hv : q - (off + k + 1) < vs.length
      · rw [List.getElem?_append_left hv, List.getElem?_append_left hv]
      · rw [List.getElem?_append_right (by omega), List.getElem?_append_right (by omega), List.getElem?_drop, List.getElem?_drop, List.getElem?_set_ne (by omega)]
        congr 1; omega

theorem VRL.splice {as : List AV} {vs : List Value} {off : Nat} {v : AV} {x : Value} (h : VRL ρ I as vs) (hv : VR ρ I v x) (hle : off + v.cells.length ≤ as.length) :
    VRL ρ I (AM.splice as off v.cells) (vs.take off ++ x.cells.toList ++ vs.drop (off + x.cells.toList.length)) := by
  unfold AM.splice
  have hc := hv.cells
  have hl : x.cells.toList.length = v.cells.length := hc.1.symm
  rw [hl]
  exact ((h.take off).append hc).append (h.drop _)

theorem afill_sound {pl : Nat → Option (Nat × Nat)} : ∀ (parts : List (Nat × AV)) (ps : List (Nat × Value)) (cells out : List AV) (cs : Array Value),
    afill pl cells parts = some out → VRL ρ I cells cs.toList → parts.length = ps.length →
    (∀ (i : Nat) (a : Nat × AV) (b : Nat × Value), parts[i]? = some a → ps[i]? = some b → a.1 = b.1 ∧ VR ρ I a.2 b.2) →
    ∃ cs', Instr.fill pl cs ps = some cs' ∧ VRL ρ I out cs'.toList
  | [], ps, cells, out, cs, h, hc, hl, hp => by
    cases ps with
    | cons => simp at hl
    | nil => simp only [afill, Option.some.injEq] at h; subst h; exact ⟨cs, rfl, hc⟩
  | (i, v) :: parts, ps, cells, out, cs, h, hc, hl, hp => by
    cases ps with
    | nil => simp at hl
    | cons b ps =>
      obtain ⟨j, x⟩ := b
      obtain ⟨hij, hv⟩ := hp 0 _ _ rfl rfl
      simp only at hij hv
      subst hij
      unfold afill at h
      split at h
      · cases h
      · rename_i off size hpl
        split at h
        · cases h
        · rename_i hcond
          have hsz : x.cells.size = v.cells.length := by have := hv.cells.1; simp at this; omega
          have hcl : cs.size = cells.length := by have := hc.1; simp at this; omega
          have hfit : off + v.cells.length ≤ cells.length := by omega
          have hfold := fold_set off x.cells.toList 0 cs (by simp; omega)
          let cs1 := x.cells.zipIdx.foldl (fun cs (c, j) => cs.setIfInBounds (off + j) c) cs
          have hcs1 : cs1.toList = cs.toList.take off ++ x.cells.toList ++ cs.toList.drop (off + x.cells.toList.length) := by
            simp only [cs1]
            rw [← Array.foldl_toList, Array.toList_zipIdx]
            simpa using hfold
          obtain ⟨cs', h1, h2⟩ := afill_sound parts ps (AM.splice cells off v.cells) out cs1 h (by rw [hcs1]; exact hc.splice hv hfit) (by simpa using hl)
            (fun i a b ha hb => hp (i + 1) a b (by simpa using ha) (by simpa using hb))
          refine ⟨cs', ?_, h2⟩
          unfold Instr.fill
          rw [hpl]
          simp only
          rw [if_neg (by rw [hsz, hcl]; simpa using hcond)]
          exact h1

theorem mapOpt_some {α β : Type} {f : α → Option β} : ∀ {as : List α} {bs : List β}, mapOpt f as = some bs → as.length = bs.length ∧ ∀ (i : Nat) (a : α), as[i]? = some a → ∃ b, bs[i]? = some b ∧ f a = some b
  | [], bs, h => by simp only [mapOpt, Option.some.injEq] at h; subst h; exact ⟨rfl, fun i a ha => by simp at ha⟩
  | a :: as, bs, h => by
    simp only [mapOpt, Option.bind_eq_bind, Option.bind_eq_some_iff] at h
    obtain ⟨b, hb, bs', hbs, h⟩ := h
    cases h
    obtain ⟨hl, hi⟩ := mapOpt_some hbs
    refine ⟨by simp [hl], fun i x hx => ?_⟩
    cases i with
    | zero => simp at hx; subst hx; exact ⟨b, rfl, hb⟩
    | succ i => obtain ⟨y, hy, hf⟩ := hi i x (by simpa using hx); exact ⟨y, by simpa using hy, hf⟩

/-- Pairs of places and values. -/
def PR (ρ : Emb) (I : Fix) (parts : List (Nat × AV)) (ps : List (Nat × Value)) : Prop :=
  parts.length = ps.length ∧ ∀ (i : Nat) (a : Nat × AV) (b : Nat × Value), parts[i]? = some a → ps[i]? = some b → a.1 = b.1 ∧ VR ρ I a.2 b.2

theorem run_mapM_ok {α β : Type} {f : α → Sem β} {g : α → β} (w : World) : ∀ (l : List α), (∀ a ∈ l, (f a).run p w = .ok (g a) w) → (l.mapM f).run p w = .ok (l.map g) w
  | [], _ => rfl
  | a :: l, h => by
    rw [List.mapM_cons]
    simp only [Sem.run_bind, h a (by simp), Result.andThen_ok, run_mapM_ok w l (fun x hx => h x (by simp [hx])), Sem.run_pure, List.map_cons]

theorem abuild_sound {t : TypeId} {parts : List (Nat × AV)} {ps : Array (Nat × Value)} {v : AV} {w : World} (h : abuild (AProg.of p) t parts = some v) (hp : PR ρ I parts ps.toList) :
    ∃ x, (Instr.build t ps).run p w = .ok x w ∧ VR ρ I v x := by
  unfold abuild at h
  simp only [Option.bind_eq_bind, Option.bind_eq_some_iff] at h
  obtain ⟨i, hi, z, hz, h⟩ := h
  obtain ⟨f, x, hf, hfz, hzx⟩ := zero_of (ρ := ρ) (I := I) hi hz
  obtain ⟨f', hf', _, _, hkind, _, _⟩ := ti_info hi
  split at h
  · rename_i fs hk
    rw [hkind] at hk
    obtain ⟨gs, hu, rfl⟩ := kind_struct hk
    simp only [Option.bind_eq_some_iff] at h
    obtain ⟨places, hpl, h⟩ := h
    simp only [Option.map_eq_some_iff] at h
    obtain ⟨out, hout, rfl⟩ := h
    obtain ⟨hl, hat⟩ := mapOpt_some hpl
    have hsizes : ∀ g ∈ gs.toList, (sizeOf g.type).run p w = .ok (p.cellsOf g.type) w := by
      intro g hg
      obtain ⟨k, hk⟩ := List.getElem?_of_mem hg
      obtain ⟨b, hb, hfb⟩ := hat k { type := g.type, offset := g.offset, blank := g.name == "_" } (by simp [hk])
      simp only [Option.map_eq_some_iff] at hfb
      obtain ⟨j, hj, _⟩ := hfb
      obtain ⟨fj, hfj, _⟩ := ti_info hj
      rw [run_sizeOf' hfj]; simp [Program.cellsOf, hfj]
    have hplaces : (gs.mapM fun (g : Field) => (do pure (g.offset, ← sizeOf g.type) : Sem (Nat × Nat))).run p w = .ok (gs.map fun (g : Field) => (g.offset, p.cellsOf g.type)) w := by
      have := run_mapM_ok (p := p) (f := fun (g : Field) => (do pure (g.offset, ← sizeOf g.type) : Sem (Nat × Nat))) (g := fun (g : Field) => (g.offset, p.cellsOf g.type)) w gs.toList (fun a ha => by simp [hsizes a ha])
      rw [Array.mapM_eq_mapM_toList]
      simp only [Sem.run_map, this, Result.andThen_ok]
      rw [← Array.toList_map, Array.toArray_toList]
    have hpeq : places = (gs.toList.map fun g => (g.offset, p.cellsOf g.type)) := by
      apply List.ext_getElem?
      intro k
      by_cases hk : k < gs.toList.length
      · obtain ⟨b, hb, hfb⟩ := hat k _ (by rw [List.getElem?_map, List.getElem?_eq_getElem hk]; rfl)
        simp only [Option.map_eq_some_iff] at hfb
        obtain ⟨j, hj, hjb⟩ := hfb
        obtain ⟨fj, hfj, hsz, _⟩ := ti_info hj
        rw [hb, List.getElem?_map, List.getElem?_eq_getElem hk, ← hjb]
        simp only [Option.map_some, Program.cellsOf, hfj, Option.getD_some, hsz]
      · rw [List.getElem?_eq_none (by simp at hl; simp at hk; omega), List.getElem?_eq_none (by simp at hk ⊢; omega)]
    obtain ⟨cs', h1, h2⟩ := afill_sound parts ps.toList z.cells out x.cells hout hzx.cells hp.1 hp.2
    have hfun : (fun (i : Nat) => (gs.map fun (g : Field) => (g.offset, p.cellsOf g.type))[i]?) = (fun (i : Nat) => places[i]?) := by
      funext k; rw [hpeq]; simp
    refine ⟨.agg cs', ?_, VR.agg_iff.2 ⟨cs', rfl, h2⟩⟩
    simp only [Instr.build, Sem.run_bind, run_zeroValue' hf hfz, Result.andThen_ok, run_underlying' hu, hplaces]
    rw [hfun, h1]
    rfl
  · rename_i n e hk
    rw [hkind] at hk
    have hu := kind_array hk
    simp only [Option.bind_eq_some_iff] at h
    obtain ⟨j, hj, h⟩ := h
    simp only [Option.map_eq_some_iff] at h
    obtain ⟨out, hout, rfl⟩ := h
    obtain ⟨fj, hfj, hsz, _⟩ := ti_info hj
    rw [hsz] at hout
    obtain ⟨cs', h1, h2⟩ := afill_sound parts ps.toList z.cells out x.cells hout hzx.cells hp.1 hp.2
    refine ⟨.agg cs', ?_, VR.agg_iff.2 ⟨cs', rfl, h2⟩⟩
    simp only [Instr.build, Sem.run_bind, run_zeroValue' hf hfz, Result.andThen_ok, run_underlying' hu, run_sizeOf' hfj, h1, Sem.run_pure]
  · cases h

/-! elements in a row -/
theorem splice_zero_mid {z : Nat} : ∀ (l : List AV) (i : Nat) (v : AV), (∀ e ∈ l, e.cells.length = z) → i < l.length → v.cells.length = z →
    (l.set i v).flatMap AV.cells = splice (l.flatMap AV.cells) (i * z) v.cells
  | [], i, v, _, h, _ => by simp at h
  | a :: l, 0, v, hz, _, hv => by
    have ha := hz a (by simp)
    simp only [List.set_cons_zero, List.flatMap_cons, splice, Nat.zero_mul, List.take_zero, List.nil_append, Nat.zero_add]
    rw [hv, ← ha, List.drop_left]
  | a :: l, i + 1, v, hz, h, hv => by
    have ha := hz a (by simp)
    have ih := splice_zero_mid l i v (fun e he => hz e (by simp [he])) (by simpa using h) hv
    simp only [List.set_cons_succ, List.flatMap_cons, ih, splice]
    have h1 : (i + 1) * z = a.cells.length + i * z := by rw [Nat.add_mul, ha]; omega
    have t1 : a.cells.take (a.cells.length + i * z) = a.cells := List.take_of_length_le (by omega)
    have d1 : a.cells.drop (a.cells.length + (i * z + v.cells.length)) = [] := List.drop_eq_nil_of_le (by omega)
    rw [h1, List.take_append, t1, Nat.add_sub_cancel_left, Nat.add_assoc, List.drop_append, d1, Nat.add_sub_cancel_left]
    simp

theorem setAll_sound {z : Nat} : ∀ (parts : List (Nat × AV)) (ps : List (Nat × Value)) (l : List AV) (cs : Array Value), (∀ e ∈ l, e.cells.length = z) →
    VRL ρ I (l.flatMap AV.cells) cs.toList → PR ρ I parts ps → (∀ q ∈ parts, q.1 < l.length ∧ q.2.cells.length = z) →
    ∃ cs', Instr.fill (fun i => some (i * z, z)) cs ps = some cs' ∧ VRL ρ I ((setAll l parts).flatMap AV.cells) cs'.toList ∧ (∀ e ∈ setAll l parts, e.cells.length = z) ∧ cs'.size = cs.size
  | [], ps, l, cs, hz, hc, hp, _ => by
    cases ps with
    | cons => have := hp.1; simp at this
    | nil => exact ⟨cs, rfl, hc, hz, rfl⟩
  | (i, v) :: parts, ps, l, cs, hz, hc, hp, hin => by
    cases ps with
    | nil => have := hp.1; simp at this
    | cons b ps =>
      obtain ⟨j, x⟩ := b
      obtain ⟨hij, hv⟩ := hp.2 0 _ _ rfl rfl
      simp only at hij hv
      subst hij
      obtain ⟨hil, hvz⟩ := hin (i, v) (by simp)
      simp only at hil hvz
      have hsz : x.cells.size = v.cells.length := by have := hv.cells.1; simp at this; omega
      have hflat := flat_length l hz
      have hcl : cs.size = l.length * z := by have := hc.1; simp at this; rw [← hflat]; simp; omega
      have hfit : i * z + z ≤ l.length * z := by have := Nat.mul_le_mul_right z hil; rw [Nat.succ_mul] at this; omega
      have hfold := fold_set (i * z) x.cells.toList 0 cs (by simp; omega)
      let cs1 := x.cells.zipIdx.foldl (fun cs (c, j) => cs.setIfInBounds (i * z + j) c) cs
      have hcs1 : cs1.toList = cs.toList.take (i * z) ++ x.cells.toList ++ cs.toList.drop (i * z + x.cells.toList.length) := by
        simp only [cs1]
        rw [← Array.foldl_toList, Array.toList_zipIdx]
        simpa using hfold
      have hset : ∀ e ∈ l.set i v, e.cells.length = z := by
        intro e he
        rcases List.mem_or_eq_of_mem_set he with h | h
        · exact hz e h
        · subst h; exact hvz
      have hcs1s : cs1.size = cs.size := by
        have := congrArg List.length hcs1
        simp at this
        omega
      obtain ⟨cs', h1, h2, h3, h4⟩ := setAll_sound parts ps (l.set i v) cs1 hset (by
        rw [hcs1, splice_zero_mid l i v hz hil hvz]; exact hc.splice hv (by rw [hflat]; omega))
        ⟨by have := hp.1; simpa using this, fun k a b ha hb => hp.2 (k + 1) a b (by simpa using ha) (by simpa using hb)⟩
        (fun q hq => by rw [List.length_set]; exact hin q (by simp [hq]))
      refine ⟨cs', ?_, h2, h3, h4.trans hcs1s⟩
      unfold Instr.fill
      simp only
      rw [if_neg (by rw [hsz, hcl]; simp; omega)]
      exact h1

/-! the operations that make memory -/
def ValOk (p : Program) (ρ : Emb) (I : Fix) (s : AS) (w : World) (sem : Sem Value) (v : AV) (s' : AS) : Prop :=
  s.next ≤ s'.next ∧ Stay s.next s'.next s.get s'.get ∧ ∃ x w' ρ' I', sem.run p w = .ok x w' ∧ Moved ρ I s.get w s.next s'.next ρ' I' s'.get w' ∧ VR ρ' I' v x

theorem ValOk.same {s : AS} {w : World} {sem : Sem Value} {v : AV} {x : Value} (sr : SR ρ I s.get w) (h : sem.run p w = .ok x w) (hv : VR ρ I v x) : ValOk p ρ I s w sem v s :=
  ⟨Nat.le_refl _, Stay.refl _ _ _, x, w, ρ, I, h, Moved.refl sr, hv⟩

theorem abuildSlice_sound {s s' : AS} {t : TypeId} {len : Nat} {parts : List (Nat × AV)} {ps : Array (Nat × Value)} {v : AV} {w : World}
    (h : abuildSlice (AProg.of p) s t len parts = some (v, s')) (sr : SR ρ I s.get w) (hp : PR ρ I parts ps.toList) (hfree : ∀ id, s.next ≤ id → id < s'.next → ρ id = none) :
    ValOk p ρ I s w (Instr.buildSlice t len ps) v s' := by
  unfold abuildSlice at h
  simp only [Option.bind_eq_bind, Option.bind_eq_some_iff] at h
  obtain ⟨i, hi, h⟩ := h
  obtain ⟨f, hf, _, _, hkind, _, _⟩ := ti_info hi
  split at h
  case h_2 => cases h
  rename_i e hk
  rw [hkind] at hk
  have hu := kind_slice hk
  simp only [Option.bind_eq_some_iff] at h
  obtain ⟨j, hj, h⟩ := h
  split at h
  case isTrue => cases h
  rename_i hlim
  simp only [Option.bind_eq_some_iff] at h
  obtain ⟨z, hz, h⟩ := h
  split at h
  case isTrue => cases h
  rename_i hany
  split at h
  case isTrue => cases h
  rename_i hzl
  cases h
  obtain ⟨fe, x, hfe, hfz, hzx⟩ := zero_of (ρ := ρ) (I := I) hj hz
  obtain ⟨fe', hfe', hsz, _⟩ := ti_info hj
  rw [hfe] at hfe'; cases hfe'
  have hlim1 : ¬ (len * j.size > 2 ^ 24) := by intro h; exact hlim (.inl h)
  have hpos : 0 < j.size := by
    rcases Nat.eq_zero_or_pos j.size with h | h
    · exact absurd (.inr h) hlim
    · exact h
  have hzl' : z.cells.length = j.size := by simpa using hzl
  have hxs : x.cells.size = j.size := by have := hzx.cells.1; simp at this; omega
  have hrep : ∀ e ∈ List.replicate len z, e.cells.length = j.size := by intro e he; rw [(List.mem_replicate.1 he).2]; exact hzl'
  have hcs0 := range_map_mod x.cells len j.size hxs hpos
  have hv0 : VRL ρ I ((List.replicate len z).flatMap AV.cells) ((Array.range (len * j.size)).map (x.cells[· % x.cells.size]!)).toList := by
    rw [flatMap_replicate_cells, hxs]
    rw [hxs] at hcs0
    rw [hcs0]; exact hzx.cells.flatten_replicate len
  have hin : ∀ q ∈ parts, q.1 < (List.replicate len z).length ∧ q.2.cells.length = j.size := by
    intro q hq
    have : ¬ (decide (len ≤ q.1) || decide (q.2.cells.length ≠ j.size)) = true := by
      intro hb; apply hany; rw [List.any_eq_true]; exact ⟨q, hq, hb⟩
    simp at this
    simp; omega
  obtain ⟨cs', h1, h2, h3, h4⟩ := setAll_sound parts ps.toList (List.replicate len z) _ hrep hv0 hp hin
  have hsize : cs'.size = len * j.size := by rw [h4]; simp
  have hal := alloc_row (p := p) (el := e) sr (hfree s.next (Nat.le_refl _) (Nat.lt_succ_self _)) (z := j.size) (es := setAll (List.replicate len z) parts) (cs := cs') (L := cs'.toList) (suf := []) (by simp) h3 h2
  refine ⟨by simp [AS.new], stay_new _ _, .slice (some ⟨w.heap.size, 0, none⟩) len len, _, _, I, ?_, hal.2, slice_new _ _ _ _ _ _ _ (by omega) (Nat.le_refl _) (fun k hk => by cases hk; rfl)⟩
  have hne : ¬ (len * fe.size > 2 ^ 24) := by rw [← hsz]; exact hlim1
  simp only [Instr.buildSlice, Sem.run_bind, run_underlying' hu, Result.andThen_ok, run_sizeOf' hfe, if_neg hne, Sem.run_pure, Sem.run_ite, run_zeroValue' hfe hfz]
  by_cases h0 : len = 0
  · subst h0
    have hps : ps.toList = [] := by
      have : parts = [] := by
        cases parts with
        | nil => rfl
        | cons q qs => have := (hin q (by simp)).1; simp at this
      rw [this] at hp
      exact List.length_eq_zero_iff.1 hp.1.symm
    have hc0 : cs' = #[] := Array.eq_empty_of_size_eq_zero (by rw [hsize]; omega)
    subst hc0
    rw [hps]
    simp only [Nat.zero_mul, if_true, Result.andThen_ok, Instr.fill]
    have : (Array.range 0).map (fun x => (#[] : Array Value)[x % (#[] : Array Value).size]!) = #[] := by simp
    rw [this]
    simp only [Sem.run_bind, hal.1, Result.andThen_ok, Sem.run_pure]
  · have : ¬ (len * fe.size = 0) := by rw [← hsz]; intro h; rcases Nat.mul_eq_zero.1 h with h | h <;> omega
    simp only [if_neg this, Result.andThen_ok]
    rw [← hsz, h1]
    simp only [Sem.run_bind, hal.1, Result.andThen_ok, Sem.run_pure]

end Go.AM
