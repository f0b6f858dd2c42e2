/- append in place; the whole of append; copy. -/
import Derived.Test.YtppdanlhccpajaaGreatDoorAmMem7
set_option linter.unusedSimpArgs false
set_option linter.unusedVariables false
set_option linter.unusedSectionVars false
namespace Go.AM

variable {p : Program} {ρ : Emb} {I : Fix}

theorem mid_at (cs : List Value) (o : Nat) (L : List Value) (h : o + L.length ≤ cs.length) (q : Nat) :
    (cs.take o ++ L ++ cs.drop (o + L.length))[q]? = if q < o then cs[q]? else if q < o + L.length then L[q - o]? else cs[q]? := by
  have h1 : (cs.take o).length = o := by simp; omega
  by_cases h2 : q < o
  · rw [if_pos h2, List.append_assoc, List.getElem?_append_left (by omega), List.getElem?_take, if_pos h2]
  · rw [if_neg h2, List.append_assoc, List.getElem?_append_right (by omega), h1]
    by_cases h3 : q < o + L.length
    · rw [if_pos h3, List.getElem?_append_left (by omega)]
    · rw [if_neg h3, List.getElem?_append_right (by omega), List.getElem?_drop]
      congr 1; omega

/-- Some elements of a row, written over. -/
theorem rowAt_splice {w w' : World} {h : Home} {z k : Nat} {es new : List AV} {cs : Array Value} {el : TypeId} {L : List Value} (hr : RowAt ρ I w h z es) (hc : w.heap[h.block]? = some (.cells cs el (0, 0)))
    (hk : k + new.length ≤ es.length) (hnew : ∀ e ∈ new, e.cells.length = z) (hL : VRL ρ I (new.flatMap AV.cells) L) (hpos : 0 < z) (hn : 0 < new.length)
    (hw : w'.heap[h.block]? = some (.cells (cs.toList.take (h.base + k * z) ++ L ++ cs.toList.drop (h.base + k * z + L.length)).toArray el (0, 0))) :
    h.base + k * z + L.length ≤ cs.size ∧ RowAt ρ I w' h z (es.take k ++ new ++ es.drop (k + new.length)) := by
  obtain ⟨hz, cs0, el0, hc0, htot, hes⟩ := hr
  rw [hc] at hc0; cases hc0
  have hlen : L.length = new.length * z := by rw [← hL.1, flat_length new hnew]
  have hfit : h.base + k * z + L.length ≤ cs.size := by
    obtain ⟨hez, hcell⟩ := hes (k + new.length - 1) _ (List.getElem?_eq_getElem (by omega))
    obtain ⟨x, hx, _⟩ := hcell (z - 1) _ (List.getElem?_eq_getElem (by omega))
    have := (Array.getElem?_eq_some_iff.1 hx).1
    have e1 : (k + new.length) * z = (k + new.length - 1) * z + z := by rw [← Nat.succ_mul]; congr 1; omega
    rw [Nat.add_mul] at e1
    omega
  refine ⟨hfit, hz, _, el, hw, by rw [← htot]; simp; omega, fun i e he => ?_⟩
  have hat := mid_at cs.toList (h.base + k * z) L (by simpa using hfit)
  have hat' : ∀ q : Nat, ((cs.toList.take (h.base + k * z) ++ L ++ cs.toList.drop (h.base + k * z + L.length)).toArray)[q]? = if q < h.base + k * z then cs[q]? else if q < h.base + k * z + L.length then L[q - (h.base + k * z)]? else cs[q]? := by
    intro q
    rw [List.getElem?_toArray, hat]; simp
  have htk : (es.take k).length = k := by simp; omega
  by_cases h1 : i < k
  · rw [List.append_assoc, List.getElem?_append_left (by omega), List.getElem?_take, if_pos h1] at he
    obtain ⟨hez, hcell⟩ := hes i e he
    refine ⟨hez, fun j c hj => ?_⟩
    obtain ⟨x, hx, hvx⟩ := hcell j c hj
    refine ⟨x, ?_, hvx⟩
    have hjz : j < z := by rw [← hez]; exact (List.getElem?_eq_some_iff.1 hj).1
    have : (i + 1) * z ≤ k * z := Nat.mul_le_mul_right _ h1
    rw [Nat.succ_mul] at this
    rw [hat', if_pos (by omega)]; exact hx
  · rw [List.append_assoc, List.getElem?_append_right (by omega), htk] at he
    by_cases h2 : i < k + new.length
    · rw [List.getElem?_append_left (by omega)] at he
      have hez := hnew e (List.mem_of_getElem? he)
      refine ⟨hez, fun j c hj => ?_⟩
      obtain ⟨x, hx, hvx⟩ := hL.at (flat_at new hnew (i - k) e j c he hj)
      refine ⟨x, ?_, hvx⟩
      have hlt := (List.getElem?_eq_some_iff.1 hx).1
      have e1 : i * z = k * z + (i - k) * z := by rw [← Nat.add_mul]; congr 1; omega
      rw [hat', if_neg (by omega), if_pos (by omega), ← hx]
      congr 1; omega
    · rw [List.getElem?_append_right (by omega), List.getElem?_drop] at he
      have hik : k + new.length + (i - k - new.length) = i := by omega
      rw [hik] at he
      obtain ⟨hez, hcell⟩ := hes i e he
      refine ⟨hez, fun j c hj => ?_⟩
      obtain ⟨x, hx, hvx⟩ := hcell j c hj
      refine ⟨x, ?_, hvx⟩
      have : (k + new.length) * z ≤ i * z := Nat.mul_le_mul_right _ (by omega)
      rw [Nat.add_mul] at this
      rw [hat', if_neg (by omega), if_neg (by omega)]; exact hx

theorem appendAt_sound {s s' : AS} {t u ty e : TypeId} {j : TI} {fe : TypeInfo} {a : SAddr} {v : AV} {len c : Nat} {xv yv : Value} {new : List AV} {L : List Value} {w : World}
    (h : appendAt s j a len c new = some (v, s')) (hu : p.underlying t = some (.slice e)) (hj : (AProg.of p).ti e = some j) (hfe : p.info? e = some fe) (sr : SR ρ I s.get w)
    (hx : VR ρ I (.slice (some a) len (some c)) xv) (hroom : len + new.length ≤ c) (hn : 0 < new.length) (hpos : 0 < j.size)
    (hnew : ∀ q ∈ new, q.cells.length = j.size) (hL : VRL ρ I (new.flatMap AV.cells) L) (hs : Src p fe.size u yv new.length L w) :
    ValOk p ρ I s w (Builtin.append_ #[t, u] ty #[xv, yv]) v s' := by
  obtain ⟨fe', hfe', hsz, _⟩ := ti_info hj
  rw [hfe] at hfe'; cases hfe'
  unfold appendAt at h
  split at h
  case h_2 => cases h
  rename_i z es ho
  split at h
  case isFalse => cases h
  rename_i hcond
  obtain ⟨hfit, hz, haz⟩ := hcond
  cases h
  subst hz
  cases hx with
  | sliceZero _ y _ hac =>
    exfalso
    rcases hac with h0 | h0 <;> simp at h0
    omega
  | slice _ _ c' _ hm hh hmz ht hl hac =>
    have := hac c rfl
    subst this
    have hrow : RowAt ρ I w hm j.size es := sr.obj _ _ _ hh ho
    have hrow' := hrow
    obtain ⟨hzz, cs, el, hc, htot, hes⟩ := hrow
    let w' := w.setRow hm.block (cs.toList.take (hm.base + (a.st + len) * j.size) ++ L ++ cs.toList.drop (hm.base + (a.st + len) * j.size + L.length)).toArray
    have hspl := rowAt_splice (w' := w') (k := a.st + len) hrow' hc (by omega) hnew hL hpos hn (setRow_heap_self hc _)
    have hoff : hm.base + a.st * hm.z + len * fe.size = hm.base + (a.st + len) * j.size := by rw [← hsz, ← hzz, Nat.add_mul]; omega
    have hrun := run_append_room_row w t u ty e fe hu hfe hm.block (hm.base + a.st * hm.z) len c yv new.length L hs hroom hc (by rw [hoff]; exact hspl.1)
    rw [hoff] at hrun
    refine ⟨Nat.le_refl _, stay_put (by rw [ho]; simp) _ _, _, w', ρ, I, hrun, ?_, .slice a _ c (some c) hm hh hmz ht hroom (fun k hk => by cases hk; rfl)⟩
    exact Moved.put sr hh (by rw [ho]; simp) (fun b hb => setRow_heap_ne _ _ _ hb) (by simp [w', World.setRow]) rfl rfl rfl hspl.2

theorem nextcap_fits {need cap b : Nat} (h : cap < need) (hb : need * b ≤ reach) : Builtin.nextslicecap need cap * b ≤ 281474976710656 := by
  have h1 := Room.nextslicecap_le' h
  have h2 := Nat.mul_le_mul_right b h1
  have h3 : 2 * need * b = 2 * (need * b) := by rw [Nat.mul_assoc]
  have h4 : reach = 140737488355328 := rfl
  omega

theorem append_grows {t u ty e : TypeId} {fe : TypeInfo} {zv : Value} {ao : Option Addr} {len cap : Nat} {yv : Value} {new : List AV} {made : Bool} {L : List Value} {w : World}
    (hu : p.underlying t = some (.slice e)) (hfe : p.info? e = some fe) (hzv : fe.zero = some zv) (hgrow : cap < len + new.length) (h63 : ((len + new.length : Nat) : Int) ≤ 9223372036854775807)
    (hreach : (len + new.length) * fe.bytes ≤ reach) (hn : 0 < new.length) (hpos : 0 < fe.size)
    (hcase : (made = false ∧ Src p fe.size u yv new.length L w) ∨ (made = true ∧ SrcZ p fe zv u yv new.length ∧ L = (Builtin.zeroCells zv.cells new.length).toList ∧ zv.cells.size = fe.size)) :
    ∃ zs : Array Value, (zs.size = zv.cells.size) ∧ ∀ olds : List Value, (Builtin.firstCells fe.size len (.slice ao len cap)).run p w.drew = .ok olds.toArray w.drew →
      (Builtin.append_ #[t, u] ty #[.slice ao len cap, yv]).run p w = .ok (.slice (some ⟨w.heap.size, 0, none⟩) (len + new.length) (grownCap w (len + new.length) cap e))
        (w.drew.alloc (.cells ((olds ++ L).toArray ++ Builtin.zeroCells zs (grownCap w (len + new.length) cap e - (len + new.length))) e)) := by
  refine ⟨zv.cells, rfl, fun olds hold => ?_⟩
  have hfits := nextcap_fits hgrow hreach
  rcases hcase with ⟨_, hs⟩ | ⟨_, hs, rfl, hzs⟩
  · exact run_append_grow_src w t u ty e fe zv hu hfe hzv ao len cap olds hold yv new.length L hs hgrow h63 hfits
  · exact run_append_grow_zero w t u ty e fe zv hu hfe hzv hzs ao len cap olds hold yv new.length hs hgrow hn hpos h63 hfits

theorem aappend_sound {s s' : AS} {ats : Array TypeId} {ty : TypeId} {x y v : AV} {xv yv : Value} {w : World} (h : aappend (AProg.of p) s ats x y = some (v, s')) (sr : SR ρ I s.get w)
    (hx : VR ρ I x xv) (hy : VR ρ I y yv) (hfree : ∀ id, s.next ≤ id → id < s'.next → ρ id = none) (h2 : ats.size = 2) : ValOk p ρ I s w (Builtin.append_ ats ty #[xv, yv]) v s' := by
  unfold aappend at h
  simp only [Option.bind_eq_bind, Option.bind_eq_some_iff] at h
  obtain ⟨t, ht, u, hut, i, hi, h⟩ := h
  have hats : ats = #[t, u] := by
    apply Array.ext'
    apply List.ext_getElem?
    intro k
    match k with
    | 0 => simpa using ht
    | 1 => simpa using hut
    | k + 2 => rw [List.getElem?_eq_none (by simp; omega)]; simp
  subst hats
  obtain ⟨f, hf, _, _, hkind, _, _⟩ := ti_info hi
  split at h
  case h_2 => cases h
  rename_i e hk
  rw [hkind] at hk
  have hu := kind_slice hk
  simp only [Option.bind_eq_some_iff] at h
  obtain ⟨j, hj, ⟨new, made⟩, hnew, h⟩ := h
  obtain ⟨fe, hfe, hsz, hby, _, hzero, _⟩ := ti_info hj
  simp only at h
  split at h
  case h_2 => cases h
  rename_i a len cap
  obtain ⟨ao, c, rfl, hlc, hcap⟩ : ∃ ao c, xv = .slice ao len c ∧ len ≤ c ∧ (∀ k, cap = some k → k = c) := by
    cases hx with
    | sliceNil => exact ⟨_, _, rfl, Nat.le_refl _, fun k hk => by cases hk; rfl⟩
    | slice _ _ c _ hm hh hmz ht hl hac => exact ⟨_, c, rfl, hl, hac⟩
    | sliceZero _ y _ hac => exact ⟨_, 0, rfl, Nat.le_refl _, fun k hk => by rcases hac with h0 | h0 <;> rw [h0] at hk <;> cases hk; rfl⟩
  split at h
  · -- nothing is appended
    rename_i h0
    cases h
    refine ValOk.same sr ?_ hx
    unfold anew at hnew
    simp only [Option.bind_eq_bind, Option.bind_eq_some_iff] at hnew
    obtain ⟨ui, hui, hnew⟩ := hnew
    obtain ⟨fu, hfu, _, _, hukind, _, _⟩ := ti_info hui
    split at hnew
    · rename_i k k' n hk'
      rw [hukind] at hk'
      cases hy.int_inv
      split at hnew
      case h_2 => cases hnew
      split at hnew
      case isFalse => cases hnew
      rename_i hc
      cases hnew
      have hn0 : n = 0 := by simp at h0; omega
      subst hn0
      exact run_append_zero_nothing w t u ty e fe hu hfe k k' (kind_int hk') ao len c hlc
    · rename_i e' y' hk'
      rw [hukind] at hk'
      have huk := kind_slice hk'
      split at hnew
      case h_2 => cases hnew
      rename_i es hes
      cases hnew
      obtain ⟨hall, ao', cap', rfl, hcap', hcase⟩ := aelems_sound hes sr hy
      have hnil : new = [] := List.length_eq_zero_iff.1 h0
      subst hnil
      rcases hcase with ⟨rfl, _⟩ | ⟨a', rfl, L, hL, hcells, _⟩
      · exact run_append_nothing w t u ty e fe hu hfe ao len c hlc _ (Src.ofNil w huk cap')
      · have : L = [] := by have := hL.1; simp at this; exact List.length_eq_zero_iff.1 this.symm
        subst this
        exact run_append_nothing w t u ty e fe hu hfe ao len c hlc _ (Src.ofSlice w huk a' 0 cap' [] (by simp) (by simp) (by simp))
    · rename_i l hk'
      rw [hukind] at hk'
      have huk := kind_str hk'
      split at hnew
      case isFalse => cases hnew
      rename_i h1
      cases hnew
      obtain ⟨b, rfl, rfl⟩ := hy.str_inv
      have hb : b.size = 0 := by simpa using h0
      have hf1 : fe.size = 1 := by rw [← hsz]; exact h1
      have hsrc := Src.ofString (P := p) w huk b
      rw [hb] at hsrc
      have hbc : byteCells b = [] := List.length_eq_zero_iff.1 (by rw [byteCells_length]; exact hb)
      rw [hbc] at hsrc
      exact run_append_nothing w t u ty e fe hu hfe ao len c hlc _ (by rw [hf1]; exact hsrc)
    · cases hnew
  · rename_i hn0
    split at h
    case isTrue => cases h
    rename_i hlim
    simp only [not_or] at hlim
    obtain ⟨hr, hpos', hw, h63, _, hjz⟩ := hlim
    have hpos : 0 < j.size := by omega
    have hw' : wholes j.size new = true := by simpa using hw
    obtain ⟨z, hz, hzl⟩ : ∃ z, j.zero = some z ∧ z.cells.length = j.size := by
      unfold zeroOk at hjz
      cases e : j.zero with
      | none => rw [e] at hjz; simp at hjz
      | some z => rw [e] at hjz; exact ⟨z, rfl, by simpa [Nat.beq_eq] using hjz⟩
    obtain ⟨fe2, zv, hfe2, hzv, hzx⟩ := zero_of (ρ := ρ) (I := I) hj hz
    rw [hfe] at hfe2; cases hfe2
    obtain ⟨L, hL, hLlen, hcase⟩ := anew_sound hnew hj hfe hzv sr hy hw' hpos
    have hwh := (wholes_iff hw').1
    have hnpos : 0 < new.length := by omega
    have h63' : ((len + new.length : Nat) : Int) ≤ 9223372036854775807 := by omega
    have hreach : (len + new.length) * fe.bytes ≤ reach := by rw [← hby]; omega
    have hposf : 0 < fe.size := by omega
    split at h
    · -- the capacity is known
      rename_i _ c'
      have := hcap c' rfl
      subst this
      split at h
      · rename_i hgrow
        obtain ⟨zs, hzs, hg⟩ := append_grows (ty := ty) (ao := ao) hu hfe hzv hgrow h63' hreach hnpos hposf hcase
        have hzsz : zs.size = fe.size := by
          rw [hzs]
          have h1 := hzx.cells.1
          simp at h1
          omega
        exact appendNew_sound h hj hfe sr hx hfree hwh hL hzsz h63' hg
      · rename_i hroom
        split at h
        · rename_i a0
          rcases hcase with ⟨_, hs⟩ | ⟨hm, _⟩
          · exact appendAt_sound h hu hj hfe sr hx (by omega) hnpos hpos hwh hL hs
          · cases hm
        · cases h
    · -- it is not
      rename_i a0
      split at h
      case h_2 => cases h
      rename_i z0 es0 hlive
      split at h
      case isFalse => cases h
      rename_i hzz
      obtain ⟨hz0, haz⟩ := hzz
      subst hz0
      have hcase' : Src p fe.size u yv new.length L w := by
        rcases hcase with ⟨_, hs⟩ | ⟨hm, _⟩
        · exact hs
        · cases hm
      by_cases hgrow : c < len + new.length
      · obtain ⟨zs, hzs, hg⟩ := append_grows (ty := ty) (ao := ao) hu hfe hzv hgrow h63' hreach hnpos hposf hcase
        have hzsz : zs.size = fe.size := by
          rw [hzs]
          have h1 := hzx.cells.1
          simp at h1
          omega
        exact appendNew_sound h hj hfe sr hx hfree hwh hL hzsz h63' hg
      · -- in place: the row goes over to a new name
        have hroom : len + new.length ≤ c := by omega
        unfold appendNew at h
        split at h
        case h_2 => cases h
        rename_i old hold
        cases h
        cases hx with
        | sliceZero _ y _ hac => omega
        | slice _ _ _ _ hm hh hmz ht hl hac =>
          have hrow : RowAt ρ I w hm j.size es0 := sr.obj _ _ _ hh hlive
          obtain ⟨hzz, cs, el, hc, htot, hes⟩ := hrow
          obtain ⟨hall, ao', cap', he, hcap', hcase2⟩ := aelems_sound hold sr (.slice a0 len c none hm hh hmz ht hl hac)
          obtain ⟨he1, he2, he3⟩ := Value.slice.inj he
          subst he1
          rcases hcase2 with ⟨h0, _⟩ | ⟨a1, ha1, olds, holds, hcells, _⟩
          · cases h0
          cases ha1
          have holen : olds.length = len * j.size := by rw [← holds.1, flat_length old hall, ← he2]
          have hbase : hm.base + a0.st * hm.z + len * j.size + L.length ≤ cs.size := by
            have h5 : a0.st + (len + new.length) ≤ a0.st + c := by omega
            have h6 := Nat.mul_le_mul_right hm.z h5
            rw [htot, hLlen, ← hsz]
            rw [← hzz] at h6 ht ⊢
            rw [Nat.add_mul, Nat.add_mul] at h6
            omega
          have hoff : hm.base + a0.st * hm.z + len * fe.size = hm.base + a0.st * hm.z + len * j.size := by rw [hsz]
          have hrun := run_append_room_row w t u ty e fe hu hfe hm.block (hm.base + a0.st * hm.z) len c yv new.length L hcase' hroom hc (by rw [hoff]; exact hbase)
          rw [hoff] at hrun
          let h' : Home := ⟨hm.block, hm.base + a0.st * hm.z, j.size, hm.tot⟩
          refine ⟨by simp [AS.new, AS.kill], stay_kill_new _ _ _, _, _, ρ.add s.next h', I, hrun, ?_, ?_⟩
          · have hn : ρ s.next = none := hfree s.next (Nat.le_refl _) (Nat.lt_succ_self _)
            refine Moved.rename sr hn hh (by rw [hlive]; simp) rfl (fun b hb => setRow_heap_ne _ _ _ hb) (by simp [World.setRow]) rfl rfl rfl ?_
            refine rowAt_parts (el := el) (pre := cs.toList.take (hm.base + a0.st * hm.z)) (L := olds ++ L) (suf := cs.toList.drop (hm.base + a0.st * hm.z + len * j.size + L.length)) rfl (setRow_heap_self hc _) ?_ ?_ ?_ ?_ ?_
            · simp [h', ← htot]; omega
            · have h7 : cs.toList.take (hm.base + a0.st * hm.z + len * j.size) = cs.toList.take (hm.base + a0.st * hm.z) ++ olds := by
                apply List.ext_getElem?
                intro q
                have hq1 : (cs.toList.take (hm.base + a0.st * hm.z)).length = hm.base + a0.st * hm.z := by simp; omega
                by_cases hq : q < hm.base + a0.st * hm.z
                · rw [List.getElem?_append_left (by omega), List.getElem?_take, List.getElem?_take, if_pos (by omega), if_pos hq]
                · rw [List.getElem?_append_right (by omega), hq1, List.getElem?_take]
                  by_cases hq2 : q < hm.base + a0.st * hm.z + len * j.size
                  · rw [if_pos hq2]
                    have hlt : q - (hm.base + a0.st * hm.z) < olds.length := by omega
                    have := hcells _ _ (List.getElem?_eq_getElem hlt)
                    rw [add_addr _ rfl] at this
                    simp only [World.cell?, hc, Option.isSome_none, Bool.false_eq_true, if_false] at this
                    have e9 : hm.base + a0.st * hm.z + (q - (hm.base + a0.st * hm.z)) = q := by omega
                    rw [e9] at this
                    rw [List.getElem?_eq_getElem hlt, Array.getElem?_toList]; exact this
                  · rw [if_neg hq2, List.getElem?_eq_none (by omega)]
              simp only [h7]
              simp
            · simp [h']; omega
            · intro q hq; rcases List.mem_append.1 hq with h | h; exact hall q h; exact hwh q h
            · rw [List.flatMap_append]; exact (holds.append hL).mono (Emb.ext_add hn) (FixLe.refl _)
          · have := VR.slice (ρ := ρ.add s.next h') (I := I) ⟨s.next, 0, j.size⟩ (len + new.length) c none h' (Emb.add_self _ _ _) rfl (by
              simp only [h', Nat.zero_add]
              rw [hzz, Nat.add_assoc, ← Nat.add_mul]; exact ht) hroom (fun k hk => by cases hk)
            simpa [h'] using this
    · cases h

end Go.AM
