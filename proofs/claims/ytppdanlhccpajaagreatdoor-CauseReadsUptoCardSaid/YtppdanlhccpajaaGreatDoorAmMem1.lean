/- Loads and stores. -/
import Derived.Test.YtppdanlhccpajaaGreatDoorAmOps3
import Derived.Laws.Cells
import Derived.Laws.CopyRow
set_option linter.unusedSimpArgs false
set_option linter.unusedVariables false
set_option linter.unusedSectionVars false
namespace Go.AM

variable {p : Program} {ρ : Emb} {I : Fix}

theorem run_part_load {t : TypeId} {cs : List AV} {off : Nat} {v : AV} {w : World} {a : Addr} (h : partM (AProg.of p) t cs off = some v) (hs : a.spot = none)
    (hc : ∀ (j : Nat) (c : AV), cs[j]? = some c → ∃ x, w.cell? ⟨a.block, a.off + j, none⟩ = some x ∧ VR ρ I c x) :
    ∃ x, (loadVar t ⟨a.block, a.off + off, none⟩).run p w = .ok x w ∧ VR ρ I v x := by
  unfold partM at h
  simp only [Option.bind_eq_bind, Option.bind_eq_some_iff] at h
  obtain ⟨i, hi, h⟩ := h
  split at h
  case isFalse => cases h
  rename_i hle
  unfold part at h
  simp only [Option.bind_eq_bind, Option.bind_eq_some_iff] at h
  obtain ⟨i', hi', h⟩ := h
  rw [hi] at hi'; cases hi'
  obtain ⟨f, hf, hsz, _, _, _, _⟩ := ti_info hi
  have hk : i.kind ≠ .other := by intro e; rw [e] at h; simp at h
  have hagg := run_isAgg hi hk w
  have h : (if i.isAgg then some (AV.agg ((cs.drop off).take i.size)) else cs[off]?) = some v := by
    split at h
    · cases h
    · exact h
  cases hb : i.isAgg
  · rw [hb] at h hagg
    simp only [Bool.false_eq_true, if_false] at h
    obtain ⟨x, hx, hv⟩ := hc off v h
    exact ⟨x, by simp [loadVar, hagg, hx], hv⟩
  · rw [hb] at h hagg
    simp only [if_true, Option.some.injEq] at h
    subst h
    let g : Nat → Value := fun j => (w.cell? ⟨a.block, a.off + off + j, none⟩).getD undef
    have hcell : ∀ j, j < i.size → ∃ x, w.cell? ⟨a.block, a.off + off + j, none⟩ = some x ∧ ∀ c, cs[off + j]? = some c → VR ρ I c x := by
      intro j hj
      have : off + j < cs.length := by omega
      obtain ⟨x, hx, hv⟩ := hc (off + j) _ (List.getElem?_eq_getElem this)
      refine ⟨x, by rw [← hx, Nat.add_assoc], fun c hc' => ?_⟩
      rw [List.getElem?_eq_getElem this] at hc'; cases hc'; exact hv
    have hrun := run_loadCells (P := p) (w := w) ⟨a.block, a.off + off, none⟩ i.size g (fun j hj => by
      obtain ⟨x, hx, _⟩ := hcell j hj
      rw [add_addr _ rfl]
      simp only [g]
      rw [hx]; rfl)
    refine ⟨_, by simp only [loadVar, Sem.run_bind, hagg, Result.andThen_ok, if_true, run_sizeOf' hf, ← hsz, hrun]; rfl, ?_⟩
    refine VR.agg_iff.2 ⟨_, rfl, ?_⟩
    refine ⟨by simp; omega, fun j c x hcj hx => ?_⟩
    rw [List.getElem?_take] at hcj
    split at hcj
    · rename_i hj
      rw [List.getElem?_drop] at hcj
      obtain ⟨y, hy, hv⟩ := hcell j hj
      have : x = g j := by
        simp at hx
        obtain ⟨k, hk, rfl⟩ := hx
        obtain ⟨h1, h2⟩ := List.getElem?_eq_some_iff.1 hk
        simp at h2
        rw [h2]
      rw [this]
      simp only [g]
      rw [hy]
      exact hv c hcj
    · cases hcj

theorem RowAt.cell {w : World} {h : Home} {z : Nat} {es : List AV} (hr : RowAt ρ I w h z es) {i : Nat} {e : AV} (he : es[i]? = some e) (j : Nat) (c : AV) (hj : e.cells[j]? = some c) :
    ∃ x, w.cell? ⟨h.block, h.base + i * h.z + j, none⟩ = some x ∧ VR ρ I c x := by
  obtain ⟨hz, cs, el, hc, _, hes⟩ := hr
  obtain ⟨x, hx, hv⟩ := (hes i e he).2 j c hj
  refine ⟨x, ?_, hv⟩
  subst hz
  simp [World.cell?, hc, hx]

theorem aload_sound {s : AS} {t : TypeId} {a v : AV} {av : Value} {w : World} (h : aload (AProg.of p) s t a = some v) (sr : SR ρ I s.get w) (ha : VR ρ I a av) :
    ∃ x, (Instr.loadAt t av).run p w = .ok x w ∧ VR ρ I v x := by
  unfold aload at h
  split at h
  · rename_i a
    split at h
    · rename_i z es ho
      split at h
      · rename_i e he
        cases ha with
        | ptr _ hm hh =>
          have hrow : RowAt ρ I w hm z es := sr.obj _ _ _ hh ho
          obtain ⟨x, hx, hv⟩ := run_part_load (p := p) (w := w) (a := ⟨hm.block, hm.base + a.idx * hm.z, none⟩) h rfl (fun j c hj => hrow.cell he j c hj)
          exact ⟨x, by simp only [Instr.loadAt, Instr.sureAddr, Sem.run_bind, Sem.run_pure, Result.andThen_ok]; exact hx, hv⟩
      · cases h
    · cases h
  · rename_i v' off
    cases ha with
    | iptr _ _ b o cs el fz f hb hc hv =>
      obtain ⟨x, hx, hv'⟩ := run_part_load (p := p) (w := w) (a := ⟨b, o, none⟩) h rfl (fun j c hj => by
        refine ⟨f j, ?_, hv j c hj⟩
        have := sr.fix b _ hb
        simp [World.cell?, this, hc j c hj])
      exact ⟨x, by simp only [Instr.loadAt, Instr.sureAddr, Sem.run_bind, Sem.run_pure, Result.andThen_ok]; exact hx, hv'⟩
  · cases h

/-! stores -/
theorem splice_length (cs : List AV) (off : Nat) (vs : List AV) (h : off + vs.length ≤ cs.length) : (splice cs off vs).length = cs.length := by
  simp [splice]; omega

theorem splice_at (cs : List AV) (off : Nat) (vs : List AV) (h : off + vs.length ≤ cs.length) (j : Nat) :
    (splice cs off vs)[j]? = if j < off then cs[j]? else if j < off + vs.length then vs[j - off]? else cs[j]? := by
  unfold splice
  have h1 : (cs.take off).length = off := by simp; omega
  by_cases h2 : j < off
  · rw [if_pos h2, List.append_assoc, List.getElem?_append_left (by omega), List.getElem?_take, if_pos h2]
  · rw [if_neg h2, List.append_assoc, List.getElem?_append_right (by omega), h1]
    by_cases h3 : j < off + vs.length
    · rw [if_pos h3, List.getElem?_append_left (by omega)]
    · rw [if_neg h3, List.getElem?_append_right (by omega), List.getElem?_drop]
      congr 1; omega

theorem stored_cells (e : AV) (off : Nat) (v : AV) (h : off + v.cells.length ≤ e.cells.length) (hpos : 0 < v.cells.length) (ha : v.cells.all AV.atom = true) :
    (stored e off v).cells.length = e.cells.length ∧ ∀ j, (stored e off v).cells[j]? = if j < off then e.cells[j]? else if j < off + v.cells.length then v.cells[j - off]? else e.cells[j]? := by
  have hagg : ∀ cs : List AV, e = .agg cs → (stored e off v).cells = splice cs off v.cells := fun cs he => by subst he; rfl
  by_cases hc : ∃ cs, e = .agg cs
  · obtain ⟨cs, rfl⟩ := hc
    rw [hagg cs rfl]
    exact ⟨splice_length cs off v.cells h, splice_at cs off v.cells h⟩
  · have he : e.cells = [e] := by cases e <;> first | rfl | exact absurd ⟨_, rfl⟩ hc
    rw [he] at h ⊢
    simp at h
    have h0 : off = 0 := by omega
    have h1 : v.cells.length = 1 := by omega
    subst h0
    have hst : stored e 0 v = v := by cases e <;> first | rfl | exact absurd ⟨_, rfl⟩ hc
    rw [hst]
    refine ⟨by simp [h1], fun j => ?_⟩
    by_cases hj : j < 1
    · rw [if_neg (by omega), if_pos (by omega)]; rfl
    · rw [if_neg (by omega), if_neg (by omega), List.getElem?_eq_none (by omega), List.getElem?_eq_none (by simp; omega)]

theorem setRow_heap_self {w : World} {g : Nat} {cur : Array Value} {t : TypeId} {fz : Nat × Nat} (hg : w.heap[g]? = some (.cells cur t fz)) (cs : Array Value) :
    (w.setRow g cs).heap[g]? = some (.cells cs t fz) := setRow_heap w g cur cs t fz hg

theorem setRow_heap_ne (w : World) (g : Nat) (cs : Array Value) {b : Nat} (hb : b ≠ g) : (w.setRow g cs).heap[b]? = w.heap[b]? := by
  simp only [World.setRow, Array.getElem?_modify]
  rw [if_neg (fun e => hb e.symm)]

/-- Another content in a block that is a home. -/
theorem Moved.put {s : AS} {w w' : World} {id : Nat} {h : Home} {o : AObj} {lo hi : Nat} (sr : SR ρ I s.get w) (hh : ρ id = some h) (hl : s.get id ≠ none)
    (hne : ∀ b, b ≠ h.block → w'.heap[b]? = w.heap[b]?) (hsz : w'.heap.size = w.heap.size) (hos : w'.os = w.os) (htape : w'.tape = w.tape) (hout : w'.output = w.output)
    (ho : ObjAt ρ I w' h o) : Moved ρ I s.get w lo hi ρ I (s.put id o).get w' := by
  refine ⟨⟨?_, ?_, ?_, ?_⟩, Ext.refl _, fun _ a b => absurd b a, fun _ _ a => a, fun _ a b => absurd b a, fun _ _ a b => by (rw [a] at b; cases b), ?_, by omega, hos, htape, hout⟩
  · intro b o' hb
    have := sr.fix b o' hb
    rw [hne b ?_]; exact this
    intro e
    subst e
    rw [sr.free id h hh hl] at hb; cases hb
  · intro j k o' hr ho'
    rw [AS.get_put] at ho'
    by_cases e : j = id
    · subst e
      rw [if_pos rfl] at ho'; cases ho'
      rw [hh] at hr; cases hr
      exact ho
    · rw [if_neg e] at ho'
      have hb : k.block ≠ h.block := sr.apart j id k h e hr hh (by rw [ho']; simp) hl
      exact (sr.obj j k o' hr ho').mono (Ext.refl _) (FixLe.refl _) (hne _ hb)
  · intro i j a b hij hi hj h1 h2
    have live : ∀ x, (s.put id o).get x ≠ none → s.get x ≠ none := by
      intro x hx
      rw [AS.get_put] at hx
      by_cases e : x = id
      · subst e; exact hl
      · rw [if_neg e] at hx; exact hx
    exact sr.apart i j a b hij hi hj (live i h1) (live j h2)
  · intro j k hr h1
    rw [AS.get_put] at h1
    by_cases e : j = id
    · subst e
      rw [hh] at hr; cases hr
      exact sr.free _ _ hh hl
    · rw [if_neg e] at h1; exact sr.free j k hr h1
  · intro b _ hf
    exact hne b (fun e => hf id h hh hl e.symm)

theorem oneCell_of_atom {v : AV} {x : Value} (h : VR ρ I v x) (ha : v.atom = true) : x.oneCell' = true := by
  cases h <;> simp_all [AV.atom, Value.oneCell']

theorem astore_sound {s s' : AS} {t : TypeId} {a v : AV} {av vv : Value} {w : World} {lo hi : Nat} (h : astore (AProg.of p) s t a v = some s') (sr : SR ρ I s.get w)
    (ha : VR ρ I a av) (hv : VR ρ I v vv) :
    s'.next = s.next ∧ Stay lo hi s.get s'.get ∧ ∃ w', (Instr.storeAt t av vv).run p w = .ok () w' ∧ Moved ρ I s.get w lo hi ρ I s'.get w' := by
  unfold astore at h
  split at h
  case h_2 => cases h
  rename_i a
  split at h
  case h_2 => cases h
  rename_i z es i ho hi
  split at h
  case h_2 => cases h
  rename_i e he
  split at h
  case isFalse => cases h
  rename_i hcond
  obtain ⟨hsize, hfit, hatom, hpos⟩ := hcond
  cases h
  obtain ⟨f, hf, hsz, _⟩ := ti_info hi
  cases ha with
  | ptr _ hm hh =>
    have hrow : RowAt ρ I w hm z es := sr.obj _ _ _ hh ho
    obtain ⟨hz, cs, el, hc, htot, hes⟩ := hrow
    subst hz
    have hcells := hv.cells
    have hn : vv.cells.size = v.cells.length := by have := hcells.1; simp at this; omega
    obtain ⟨hez, hecells⟩ := hes _ e he
    have hst := stored_cells e a.off v hfit hpos hatom
    have hbound : hm.base + a.idx * hm.z + a.off + v.cells.length ≤ cs.size := by
      obtain ⟨x, hx, _⟩ := hecells (a.off + v.cells.length - 1) _ (List.getElem?_eq_getElem (by omega))
      have := (Array.getElem?_eq_some_iff.1 hx).1
      omega
    have hone : ∀ x ∈ vv.cells.toList, x.oneCell' = true := by
      intro x hx
      obtain ⟨j, hj⟩ := List.getElem?_of_mem hx
      have hjl : j < v.cells.length := by have := (List.getElem?_eq_some_iff.1 hj).1; rw [hcells.1]; exact this
      have hva := hcells.2 j _ x (List.getElem?_eq_getElem hjl) hj
      exact oneCell_of_atom hva (by rw [List.all_eq_true] at hatom; exact hatom _ (List.getElem_mem hjl))
    have hrun := run_storeCells_at (P := p) hm.block (hm.base + a.idx * hm.z + a.off) el vv.cells.toList 0 cs w hc (by simp; omega) hone
    refine ⟨rfl, stay_put (by rw [ho]; simp) _ _, w.setRow hm.block (cs.toList.take (hm.base + a.idx * hm.z + a.off + 0) ++ vv.cells.toList ++ cs.toList.drop (hm.base + a.idx * hm.z + a.off + 0 + vv.cells.toList.length)).toArray, ?_, ?_⟩
    · simp only [Instr.storeAt, Instr.sureAddr, Sem.run_bind, Sem.run_pure, Result.andThen_ok, storeVar, run_sizeOf' hf]
      have : ¬ (vv.cells.size ≠ f.size) := by rw [hn, hsize, hsz]; simp
      rw [if_neg this]
      exact hrun
    · refine Moved.put sr hh (by rw [ho]; simp) (fun b hb => setRow_heap_ne _ _ _ hb) (by simp [World.setRow]) rfl rfl rfl ?_
      refine ⟨rfl, _, el, setRow_heap_self hc _, ?_, ?_⟩
      · simp [← htot]; omega
      · intro k e' hk
        rw [List.getElem?_set] at hk
        have hget : ∀ q, ((cs.toList.take (hm.base + a.idx * hm.z + a.off + 0) ++ vv.cells.toList ++ cs.toList.drop (hm.base + a.idx * hm.z + a.off + 0 + vv.cells.toList.length)).toArray)[q]? =
            if q < hm.base + a.idx * hm.z + a.off then cs[q]? else if q < hm.base + a.idx * hm.z + a.off + v.cells.length then vv.cells[q - (hm.base + a.idx * hm.z + a.off)]? else cs[q]? := by
          intro q
          have h1 : (cs.toList.take (hm.base + a.idx * hm.z + a.off)).length = hm.base + a.idx * hm.z + a.off := by simp; omega
          simp only [Nat.add_zero, List.getElem?_toArray]
          by_cases h2 : q < hm.base + a.idx * hm.z + a.off
          · rw [if_pos h2, List.append_assoc, List.getElem?_append_left (by omega), List.getElem?_take, if_pos h2]; simp
          · rw [if_neg h2, List.append_assoc, List.getElem?_append_right (by omega), h1]
            by_cases h3 : q < hm.base + a.idx * hm.z + a.off + v.cells.length
            · rw [if_pos h3, List.getElem?_append_left (by simp; omega)]; simp
            · rw [if_neg h3, List.getElem?_append_right (by simp; omega), List.getElem?_drop]
              simp only [Array.length_toList, hn, Array.getElem?_toList]
              congr 1; omega
        by_cases hki : a.idx = k
        · subst hki
          rw [if_pos rfl] at hk
          split at hk
          case isFalse => cases hk
          cases hk
          refine ⟨by rw [hst.1]; exact hez, fun j c hj => ?_⟩
          rw [hst.2] at hj
          rw [hget]
          by_cases h2 : j < a.off
          · rw [if_pos h2] at hj
            rw [if_pos (by omega)]
            exact hecells j c hj
          · rw [if_neg h2] at hj
            rw [if_neg (by omega)]
            by_cases h3 : j < a.off + v.cells.length
            · rw [if_pos h3] at hj
              rw [if_pos (by omega)]
              obtain ⟨x, hx, hvx⟩ := hcells.at hj
              refine ⟨x, ?_, hvx⟩
              have : hm.base + a.idx * hm.z + j - (hm.base + a.idx * hm.z + a.off) = j - a.off := by omega
              rw [this]; simpa using hx
            · rw [if_neg h3] at hj
              rw [if_neg (by omega)]
              exact hecells j c hj
        · rw [if_neg hki] at hk
          obtain ⟨hkz, hkc⟩ := hes k e' hk
          refine ⟨hkz, fun j c hj => ?_⟩
          have hjz : j < hm.z := by rw [← hkz]; exact (List.getElem?_eq_some_iff.1 hj).1
          obtain ⟨x, hx, hvx⟩ := hkc j c hj
          refine ⟨x, ?_, hvx⟩
          rw [hget]
          rcases Nat.lt_or_gt_of_ne hki with hlt | hlt
          · have : (a.idx + 1) * hm.z ≤ k * hm.z := Nat.mul_le_mul_right _ hlt
            rw [Nat.add_mul] at this
            rw [if_neg (by omega), if_neg (by omega)]; exact hx
          · have : (k + 1) * hm.z ≤ a.idx * hm.z := Nat.mul_le_mul_right _ hlt
            rw [Nat.add_mul] at this
            rw [if_pos (by omega)]; exact hx

end Go.AM
