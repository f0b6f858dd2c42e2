/- append: the abstract one and the model's. -/
import Derived.Test.YtppdanlhccpajaaGreatDoorAmMem6
set_option linter.unusedSimpArgs false
set_option linter.unusedVariables false
set_option linter.unusedSectionVars false
namespace Go.AM

variable {p : Program} {ρ : Emb} {I : Fix}

theorem wholes_iff {z : Nat} {es : List AV} (h : wholes z es = true) : (∀ e ∈ es, e.cells.length = z) ∧ ∀ c ∈ es.flatMap AV.cells, c.atom = true := by
  unfold wholes at h
  rw [List.all_eq_true] at h
  refine ⟨fun e he => ?_, fun c hc => ?_⟩
  · have := h e he; simp [Nat.beq_eq] at this; exact this.1
  · obtain ⟨e, he, hce⟩ := List.mem_flatMap.1 hc
    have := h e he
    rw [Bool.and_eq_true, List.all_eq_true] at this
    exact this.2 c hce

theorem VRL.one {F : List AV} {L : List Value} (h : VRL ρ I F L) (ha : ∀ c ∈ F, c.atom = true) : ∀ u ∈ L, u.oneCell' = true := by
  intro u hu
  obtain ⟨j, hj⟩ := List.getElem?_of_mem hu
  have hlt : j < F.length := by rw [h.1]; exact (List.getElem?_eq_some_iff.1 hj).1
  exact oneCell_of_atom (h.2 j _ u (List.getElem?_eq_getElem hlt) hj) (ha _ (List.getElem_mem hlt))

theorem zeroCells_list (z : Value) (n : Nat) (hpos : 0 < z.cells.size) : (Builtin.zeroCells z.cells n).toList = (List.replicate n z.cells.toList).flatten := by
  rw [← range_map_mod z.cells n z.cells.size rfl hpos]; rfl

/-- What is appended, as the model sees it. -/
theorem anew_sound {s : AS} {u e : TypeId} {j : TI} {fe : TypeInfo} {zv : Value} {y : AV} {yv : Value} {new : List AV} {made : Bool} {w : World} (h : anew (AProg.of p) s u j y = some (new, made))
    (hj : (AProg.of p).ti e = some j) (hfe : p.info? e = some fe) (hzv : fe.zero = some zv) (sr : SR ρ I s.get w) (hy : VR ρ I y yv) (hw : wholes j.size new = true) (hpos : 0 < j.size) :
    ∃ L : List Value, VRL ρ I (new.flatMap AV.cells) L ∧ L.length = new.length * fe.size ∧
      ((made = false ∧ Src p fe.size u yv new.length L w) ∨ (made = true ∧ SrcZ p fe zv u yv new.length ∧ L = (Builtin.zeroCells zv.cells new.length).toList ∧ zv.cells.size = fe.size)) := by
  obtain ⟨fe', hfe', hsz, hby, _, hzero, _⟩ := ti_info hj
  rw [hfe] at hfe'; cases hfe'
  obtain ⟨hz, hatom⟩ := wholes_iff hw
  unfold anew at h
  simp only [Option.bind_eq_bind, Option.bind_eq_some_iff] at h
  obtain ⟨ui, hui, h⟩ := h
  obtain ⟨fu, hfu, _, _, hukind, _, _⟩ := ti_info hui
  split at h
  · -- made
    rename_i k k' n hk
    rw [hukind] at hk
    cases hy.int_inv
    split at h
    case h_2 => cases h
    rename_i z hjz
    split at h
    case isFalse => cases h
    rename_i hcond
    obtain ⟨h0, h1, h2, h3⟩ := hcond
    cases h
    obtain ⟨f2, x, hf2, hfz, hzx⟩ := zero_of (ρ := ρ) (I := I) hj hjz
    rw [hfe] at hf2; cases hf2
    rw [hzv] at hfz; cases hfz
    obtain ⟨m, rfl⟩ := Int.eq_ofNat_of_zero_le h0
    have hzs : zv.cells.size = fe.size := by have := hzx.cells.1; simp at this; omega
    refine ⟨(Builtin.zeroCells zv.cells m).toList, ?_, ?_, .inr ⟨rfl, ⟨⟨k, kind_int hk⟩, ⟨k', ?_⟩, ?_, ?_⟩, ?_, hzs⟩⟩
    · simp only [Int.toNat_natCast]
      rw [zeroCells_list zv m (by omega), flatMap_replicate_cells]
      exact hzx.cells.flatten_replicate m
    · simp [zeroCells_size, hzs]
    · simp
    · simp only [List.length_replicate, Int.toNat_natCast]
      have h5 : ((m * fe.bytes : Nat) : Int) ≤ 140737488355328 := by
        rw [Int.natCast_mul, ← hby]
        have : (reach : Int) = 140737488355328 := rfl
        omega
      exact Int.ofNat_le.1 h5
    · simp only [List.length_replicate, Int.toNat_natCast]; exact h2
    · simp
  · -- a slice
    rename_i e' y' hk
    rw [hukind] at hk
    have huk := kind_slice hk
    split at h
    case h_2 => cases h
    rename_i es hes
    cases h
    obtain ⟨hall, ao, cap, rfl, hcap, hcase⟩ := aelems_sound hes sr hy
    rcases hcase with ⟨rfl, rfl⟩ | ⟨a, rfl, L, hL, hcells, _⟩
    · exact ⟨[], VRL.nil, by simp, .inl ⟨rfl, Src.ofNil w huk cap⟩⟩
    · have hlen : L.length = new.length * fe.size := by rw [← hL.1, flat_length new hall, hsz]
      exact ⟨L, hL, hlen, .inl ⟨rfl, Src.ofSlice w huk a new.length cap L hlen hcells (hL.one hatom)⟩⟩
  · -- a string
    rename_i l hk
    rw [hukind] at hk
    have huk := kind_str hk
    split at h
    case isFalse => cases h
    rename_i h1
    cases h
    obtain ⟨b, rfl, rfl⟩ := hy.str_inv
    have hf1 : fe.size = 1 := by rw [← hsz]; exact h1
    rw [hf1]
    refine ⟨byteCells b, ?_, ?_, .inl ⟨rfl, ?_⟩⟩
    · have hflat : ((b.data.toList.map UInt8.toNat).map fun (q : Nat) => AV.int .u8 (Int.ofNat q)).flatMap AV.cells = b.data.toList.map fun q => AV.int .u8 (Int.ofNat q.toNat) := by
        rw [List.map_map]
        induction b.data.toList with
        | nil => rfl
        | cons q l ih => simp only [List.map_cons, List.flatMap_cons, ih]; rfl
      refine ⟨by rw [hflat]; simp [byteCells], fun i c x hc hx => ?_⟩
      rw [hflat] at hc
      unfold byteCells at hx
      rw [List.getElem?_map] at hc hx
      cases hq : b.data.toList[i]? with
      | none => rw [hq] at hc; cases hc
      | some q => rw [hq] at hc hx; cases hc; cases hx; exact .int _ _
    · rw [byteCells_length]; simp
    · have := Src.ofString (P := p) w huk b
      simpa using this
  · cases h

theorem rowAt_parts {w : World} {h : Home} {z : Nat} {es : List AV} {cs : Array Value} {el : TypeId} {pre L suf : List Value} (hz : z = h.z) (hc : w.heap[h.block]? = some (.cells cs el (0, 0))) (ht : cs.size = h.tot)
    (hcs : cs.toList = pre ++ L ++ suf) (hpre : pre.length = h.base) (hes : ∀ e ∈ es, e.cells.length = z) (hv : VRL ρ I (es.flatMap AV.cells) L) : RowAt ρ I w h z es := by
  refine ⟨hz, cs, el, hc, ht, fun i e he => ⟨hes e (List.mem_of_getElem? he), fun j c hj => ?_⟩⟩
  obtain ⟨x, hx, hvx⟩ := hv.at (flat_at es hes i e j c he hj)
  refine ⟨x, ?_, hvx⟩
  have hlt := (List.getElem?_eq_some_iff.1 hx).1
  rw [← Array.getElem?_toList, hcs, List.append_assoc, List.getElem?_append_right (by omega), List.getElem?_append_left (by omega)]
  rw [← hx]; congr 1; omega

theorem grownCap_ge (w : World) (need old : Nat) (e : TypeId) (h : (need : Int) ≤ 9223372036854775807) : need ≤ grownCap w need old e := by
  unfold grownCap Question.cut
  simp only
  omega

/-- A new row behind an append: nothing that was is turned. -/
theorem appendNew_sound {s s' : AS} {j : TI} {e : TypeId} {fe : TypeInfo} {x v : AV} {len cap : Nat} {ao : Option Addr} {kill : Option Nat} {new : List AV} {L : List Value} {w : World} {sem : Sem Value} {zs : Array Value}
    (h : appendNew s j x len kill new = some (v, s')) (hj : (AProg.of p).ti e = some j) (hfe : p.info? e = some fe) (sr : SR ρ I s.get w) (hx : VR ρ I x (.slice ao len cap)) (hfree : ∀ id, s.next ≤ id → id < s'.next → ρ id = none)
    (hnew : ∀ q ∈ new, q.cells.length = j.size) (hL : VRL ρ I (new.flatMap AV.cells) L) (hzs : zs.size = fe.size) (h63 : ((len + new.length : Nat) : Int) ≤ 9223372036854775807)
    (hrun : ∀ olds : List Value, (Builtin.firstCells fe.size len (.slice ao len cap)).run p w.drew = .ok olds.toArray w.drew →
      sem.run p w = .ok (.slice (some ⟨w.heap.size, 0, none⟩) (len + new.length) (grownCap w (len + new.length) cap e))
        (w.drew.alloc (.cells ((olds ++ L).toArray ++ Builtin.zeroCells zs (grownCap w (len + new.length) cap e - (len + new.length))) e))) :
    ValOk p ρ I s w sem v s' := by
  obtain ⟨fe', hfe', hsz, _⟩ := ti_info hj
  rw [hfe] at hfe'; cases hfe'
  unfold appendNew at h
  split at h
  case h_2 => cases h
  rename_i old hold
  cases h
  obtain ⟨hall, ao', cap', he, hcap, hcase⟩ := aelems_sound hold sr hx
  cases he
  obtain ⟨olds, holds, hfirst⟩ : ∃ olds : List Value, VRL ρ I (old.flatMap AV.cells) olds ∧ (Builtin.firstCells fe.size old.length (.slice ao old.length cap)).run p w.drew = .ok olds.toArray w.drew := by
    rcases hcase with ⟨rfl, rfl⟩ | ⟨a, rfl, L', hL', hcells, _⟩
    · exact ⟨[], VRL.nil, run_firstCells_none w.drew fe.size 0 0 cap⟩
    · have hlen : L'.length = old.length * fe.size := by rw [← hL'.1, flat_length old hall, hsz]
      exact ⟨L', hL', run_firstCells_some w.drew fe.size old.length a old.length cap L' hlen (by simpa using hcells)⟩
  have hr := hrun olds hfirst
  have hge := grownCap_ge w (old.length + new.length) cap e h63
  let st := match kill with | some i => s.kill i | none => s
  have hst : st.next = s.next := by cases kill <;> rfl
  have srk : SR ρ I st.get w := by cases kill <;> first | exact sr | exact sr.kill
  have srd : SR ρ I st.get w.drew := srk.heap rfl
  have hn : ρ st.next = none := by rw [hst]; exact hfree s.next (Nat.le_refl _) (by show s.next < st.next + 1; omega)
  let cs : Array Value := (olds ++ L).toArray ++ Builtin.zeroCells zs (grownCap w (old.length + new.length) cap e - (old.length + new.length))
  have hal := alloc_row (p := p) (el := e) srd hn (z := j.size) (es := old ++ new) (cs := cs) (L := olds ++ L) (suf := (Builtin.zeroCells zs (grownCap w (old.length + new.length) cap e - (old.length + new.length))).toList) (by simp [cs])
    (fun q hq => by rcases List.mem_append.1 hq with h | h; exact hall q h; exact hnew q h) (by rw [List.flatMap_append]; exact holds.append hL)
  have hsize : cs.size = grownCap w (old.length + new.length) cap e * j.size := by
    have h1 : olds.length = old.length * j.size := by rw [← holds.1, flat_length old hall]
    have h2 : L.length = new.length * j.size := by rw [← hL.1, flat_length new hnew]
    have h3 : grownCap w (old.length + new.length) cap e * j.size = (old.length + new.length) * j.size + (grownCap w (old.length + new.length) cap e - (old.length + new.length)) * j.size := by
      rw [← Nat.add_mul]; congr 1; omega
    simp [cs, zeroCells_size, hzs, ← hsz, h1, h2]
    rw [h3, Nat.add_mul]
  have hm := hal.2
  refine ⟨by show s.next ≤ st.next + 1; omega, ?_, _, _, ρ.add s.next ⟨w.heap.size, 0, j.size, cs.size⟩, I, hr, ?_, slice_new s.next w.heap.size j.size cs.size _ _ none (by rw [hsize]; exact Nat.le_refl _) hge (fun k hk => by cases hk)⟩
  · cases kill with
    | none => exact stay_new _ _
    | some i => exact stay_kill_new _ _ _
  · have hm2 : Moved ρ I st.get w st.next (st.next + 1) (ρ.add st.next ⟨w.heap.size, 0, j.size, cs.size⟩) I (st.new (.arr j.size (old ++ new))).2.get (w.drew.alloc (.cells cs e)) :=
      { hm with frame := fun b hb hf => hm.frame b hb hf, size := hm.size, os := hm.os, tape := hm.tape, output := hm.output, home := hm.home, newfix := hm.newfix }
    rw [hst] at hm2
    cases kill with
    | none => exact hm2
    | some i => exact hm2.weaken (fun id h => kill_live id h)

end Go.AM
