/- New memory: variables, rows, maps. -/
import Derived.Test.YtppdanlhccpajaaGreatDoorAmMem1
set_option linter.unusedSimpArgs false
set_option linter.unusedVariables false
set_option linter.unusedSectionVars false
namespace Go.AM

variable {p : Program} {ρ : Emb} {I : Fix}

theorem flat_at {z : Nat} : ∀ (es : List AV), (∀ e ∈ es, e.cells.length = z) → ∀ (i : Nat) (e : AV) (j : Nat) (c : AV), es[i]? = some e → e.cells[j]? = some c →
    (es.flatMap AV.cells)[i * z + j]? = some c
  | [], _, i, e, j, c, he, _ => by simp at he
  | a :: es, hz, i, e, j, c, he, hj => by
    have ha : a.cells.length = z := hz a (by simp)
    rw [List.flatMap_cons]
    cases i with
    | zero =>
      simp at he; subst he
      have : j < a.cells.length := (List.getElem?_eq_some_iff.1 hj).1
      rw [Nat.zero_mul, Nat.zero_add, List.getElem?_append_left this]; exact hj
    | succ i =>
      have h1 : (i + 1) * z + j = a.cells.length + (i * z + j) := by rw [Nat.add_mul, ha]; omega
      rw [h1, List.getElem?_append_right (by omega), Nat.add_sub_cancel_left]
      exact flat_at es (fun e h => hz e (by simp [h])) i e j c (by simpa using he) hj

theorem flat_length {z : Nat} : ∀ (es : List AV), (∀ e ∈ es, e.cells.length = z) → (es.flatMap AV.cells).length = es.length * z
  | [], _ => by simp
  | a :: es, hz => by
    rw [List.flatMap_cons, List.length_append, hz a (by simp), flat_length es (fun e h => hz e (by simp [h])), List.length_cons, Nat.add_mul]
    omega

theorem rowAt_flat {w : World} {h : Home} {z : Nat} {es : List AV} {cs : Array Value} {el : TypeId} {L suf : List Value} (hz : z = h.z) (hc : w.heap[h.block]? = some (.cells cs el (0, 0))) (ht : cs.size = h.tot)
    (hbase : h.base = 0) (hcs : cs.toList = L ++ suf) (hes : ∀ e ∈ es, e.cells.length = z) (hv : VRL ρ I (es.flatMap AV.cells) L) : RowAt ρ I w h z es := by
  refine ⟨hz, cs, el, hc, ht, fun i e he => ⟨hes e (List.mem_of_getElem? he), fun j c hj => ?_⟩⟩
  obtain ⟨x, hx, hvx⟩ := hv.at (flat_at es hes i e j c he hj)
  refine ⟨x, ?_, hvx⟩
  have hlt := (List.getElem?_eq_some_iff.1 hx).1
  rw [hbase, Nat.zero_add, ← Array.getElem?_toList, hcs, List.getElem?_append_left hlt]
  exact hx

/-- A new row of cells. -/
theorem alloc_row {s : AS} {w : World} (sr : SR ρ I s.get w) (hn : ρ s.next = none) {z : Nat} {es : List AV} {cs : Array Value} {el : TypeId} {L suf : List Value}
    (hcs : cs.toList = L ++ suf) (hes : ∀ e ∈ es, e.cells.length = z) (hv : VRL ρ I (es.flatMap AV.cells) L) :
    (newRow el cs).run p w = .ok ⟨w.heap.size, 0, none⟩ { w with heap := w.heap.push (.cells cs el) } ∧
    Moved ρ I s.get w s.next (s.next + 1) (ρ.add s.next ⟨w.heap.size, 0, z, cs.size⟩) I (s.new (.arr z es)).2.get { w with heap := w.heap.push (.cells cs el) } := by
  refine ⟨by simp [newRow], Moved.alloc sr hn _ _ _ rfl sr.fix_lt ?_⟩
  refine rowAt_flat (el := el) (L := L) (suf := suf) rfl ?_ rfl rfl hcs hes ?_
  · show (w.heap.push _)[w.heap.size]? = _
    rw [Array.getElem?_push_size]
  · exact hv.mono (Emb.ext_add hn) (FixLe.refl _)

theorem alloc_var {s : AS} {w : World} (sr : SR ρ I s.get w) (hn : ρ s.next = none) {t : TypeId} {v : AV} {x : Value} (hv : VR ρ I v x) :
    (newVar t x).run p w = .ok ⟨w.heap.size, 0, none⟩ { w with heap := w.heap.push (.cells x.cells t) } ∧
    Moved ρ I s.get w s.next (s.next + 1) (ρ.add s.next ⟨w.heap.size, 0, v.cells.length, x.cells.size⟩) I (s.new (.arr v.cells.length [v])).2.get { w with heap := w.heap.push (.cells x.cells t) } :=
  alloc_row (p := p) sr hn (L := x.cells.toList) (suf := []) (by simp) (by simp) (by simpa using hv.cells)

theorem ptr_new (i b z tot : Nat) : VR (ρ.add i ⟨b, 0, z, tot⟩) I (.ptr (some ⟨i, 0, 0⟩)) (.pointer (some ⟨b, 0, none⟩)) := by
  have := VR.ptr (ρ := ρ.add i ⟨b, 0, z, tot⟩) (I := I) ⟨i, 0, 0⟩ ⟨b, 0, z, tot⟩ (Emb.add_self _ _ _)
  simpa using this

theorem slice_new (i b z tot len c : Nat) (ac : Option Nat) (ht : c * z ≤ tot) (hl : len ≤ c) (hac : ∀ k, ac = some k → k = c) :
    VR (ρ.add i ⟨b, 0, z, tot⟩) I (.slice (some ⟨i, 0, z⟩) len ac) (.slice (some ⟨b, 0, none⟩) len c) := by
  have := VR.slice (ρ := ρ.add i ⟨b, 0, z, tot⟩) (I := I) ⟨i, 0, z⟩ len c ac ⟨b, 0, z, tot⟩ (Emb.add_self _ _ _) rfl (by simpa using ht) hl hac
  simpa using this

theorem zero_of {t : TypeId} {i : TI} {z : AV} (hi : (AProg.of p).ti t = some i) (hz : i.zero = some z) : ∃ f x, p.info? t = some f ∧ f.zero = some x ∧ VR ρ I z x := by
  obtain ⟨f, hf, _, _, _, hzero, _⟩ := ti_info hi
  rw [hz] at hzero
  cases e : f.zero with
  | none => rw [e] at hzero; cases hzero
  | some x =>
    rw [e] at hzero
    exact ⟨f, x, hf, e, VR.of_avOf _ _ _ hzero.symm⟩

theorem range_map_mod (zero : Array Value) (n z : Nat) (hz : zero.size = z) (hpos : 0 < z) :
    ((Array.range (n * z)).map (zero[· % zero.size]!)).toList = (List.replicate n zero.toList).flatten := by
  apply List.ext_getElem?
  intro q
  have hlen : (List.replicate n zero.toList).flatten.length = n * z := by simp [hz]
  by_cases hq : q < n * z
  · have h1 : ((Array.range (n * z)).map (zero[· % zero.size]!)).toList[q]? = some (zero[q % z]!) := by
      simp [hq, hz]
    rw [h1]
    have hmod : q % z < z := Nat.mod_lt _ hpos
    have key : ∀ (n q : Nat), q < n * z → (List.replicate n zero.toList).flatten[q]? = some (zero[q % z]!) := by
      intro n
      induction n with
      | zero => intro q h; simp at h
      | succ n ih =>
        intro q h
        rw [List.replicate_succ, List.flatten_cons]
        by_cases h2 : q < z
        · rw [List.getElem?_append_left (by simp [hz]; exact h2), Nat.mod_eq_of_lt h2]
          have : q < zero.size := by omega
          simp [this]
        · rw [List.getElem?_append_right (by simp [hz]; omega)]
          simp only [Array.length_toList, hz]
          rw [ih (q - z) (by rw [Nat.add_mul] at h; omega)]
          rw [Nat.mod_eq_sub_mod (a := q) (by omega)]
    rw [key n q hq]
  · rw [List.getElem?_eq_none (by simp; omega), List.getElem?_eq_none (by omega)]

theorem flatMap_replicate_cells (z : AV) (n : Nat) : (List.replicate n z).flatMap AV.cells = (List.replicate n z.cells).flatten := by
  induction n with
  | zero => rfl
  | succ n ih => simp [List.replicate_succ, ih]

theorem VRL.flatten_replicate {as : List AV} {vs : List Value} (h : VRL ρ I as vs) (n : Nat) : VRL ρ I (List.replicate n as).flatten (List.replicate n vs).flatten := by
  induction n with
  | zero => exact VRL.nil
  | succ n ih => simp only [List.replicate_succ, List.flatten_cons]; exact h.append ih

end Go.AM
