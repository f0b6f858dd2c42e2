/- What a slice holds, read as cells. -/
import Derived.Test.YtppdanlhccpajaaGreatDoorAmMem4
import Derived.Deep.AppendSrc
import Derived.Deep.Upon
import Derived.Room.Entries
set_option linter.unusedSimpArgs false
set_option linter.unusedVariables false
set_option linter.unusedSectionVars false
namespace Go.AM

variable {p : Program} {ρ : Emb} {I : Fix}

theorem flat_cells {w : World} {z b : Nat} : ∀ (es : List AV) (o : Nat), (∀ e ∈ es, e.cells.length = z) →
    (∀ (i : Nat) (e : AV) (j : Nat) (c : AV), es[i]? = some e → e.cells[j]? = some c → ∃ x, w.cell? ⟨b, o + (i * z + j), none⟩ = some x ∧ VR ρ I c x) →
    ∀ (q : Nat) (c : AV), (es.flatMap AV.cells)[q]? = some c → ∃ x, w.cell? ⟨b, o + q, none⟩ = some x ∧ VR ρ I c x
  | [], o, _, _, q, c, hq => by simp at hq
  | a :: es, o, hz, h, q, c, hq => by
    have ha := hz a (by simp)
    rw [List.flatMap_cons] at hq
    by_cases hlt : q < z
    · rw [List.getElem?_append_left (by omega)] at hq
      have := h 0 a q c rfl hq
      simpa using this
    · rw [List.getElem?_append_right (by omega), ha] at hq
      have := flat_cells es (o + z) (fun e he => hz e (by simp [he])) (fun i e j c he hj => by
        have := h (i + 1) e j c (by simpa using he) hj
        have e1 : o + ((i + 1) * z + j) = o + z + (i * z + j) := by rw [Nat.add_mul]; omega
        rw [e1] at this; exact this) (q - z) c hq
      have e2 : o + z + (q - z) = o + q := by omega
      rw [e2] at this; exact this

/-- The cells of a list, as they lie from an address on. -/
theorem cells_list {w : World} {b o : Nat} : ∀ (F : List AV), (∀ (q : Nat) (c : AV), F[q]? = some c → ∃ x, w.cell? ⟨b, o + q, none⟩ = some x ∧ VR ρ I c x) →
    ∃ L : List Value, VRL ρ I F L ∧ ∀ j v, L[j]? = some v → w.cell? ⟨b, o + j, none⟩ = some v := by
  intro F h
  refine ⟨(List.range F.length).map fun j => (w.cell? ⟨b, o + j, none⟩).getD undef, ⟨by simp, fun i c x hc hx => ?_⟩, fun j v hv => ?_⟩
  · obtain ⟨y, hy, hvy⟩ := h i c hc
    simp at hx
    obtain ⟨k, hk, rfl⟩ := hx
    obtain ⟨_, h2⟩ := List.getElem?_eq_some_iff.1 hk
    simp at h2
    subst h2
    rw [hy]; exact hvy
  · simp at hv
    obtain ⟨k, hk, rfl⟩ := hv
    obtain ⟨h1, h2⟩ := List.getElem?_eq_some_iff.1 hk
    simp at h1 h2
    subst h2
    obtain ⟨y, hy, _⟩ := h j _ (List.getElem?_eq_getElem h1)
    rw [hy]; rfl

/-- What a slice's value and its elements say of memory. -/
theorem aelems_sound {s : AS} {z : Nat} {x : AV} {xv : Value} {es : List AV} {w : World} (h : aelems s z x = some es) (sr : SR ρ I s.get w) (hx : VR ρ I x xv) :
    (∀ e ∈ es, e.cells.length = z) ∧ ∃ ao cap, xv = .slice ao es.length cap ∧ es.length ≤ cap ∧
      ((ao = none ∧ es = []) ∨ ∃ a : Addr, ao = some a ∧ ∃ L : List Value, VRL ρ I (es.flatMap AV.cells) L ∧ (∀ j v, L[j]? = some v → w.cell? (a.add j) = some v) ∧
        (es ≠ [] → a.spot = none)) := by
  unfold aelems at h
  split at h
  · cases h
    cases hx with
    | sliceNil => exact ⟨by simp, none, 0, rfl, Nat.le_refl _, .inl ⟨rfl, rfl⟩⟩
  · rename_i a len ac
    by_cases hl0 : len = 0
    · rw [if_pos hl0] at h
      cases h
      subst hl0
      refine ⟨by simp, ?_⟩
      cases hx with
      | slice _ _ c _ hm hh hz ht hl hac => exact ⟨_, c, rfl, Nat.zero_le _, .inr ⟨_, rfl, [], VRL.nil, by simp, by simp⟩⟩
      | sliceZero _ y _ hac => exact ⟨_, 0, rfl, Nat.le_refl _, .inr ⟨y, rfl, [], VRL.nil, by simp, by simp⟩⟩
    · rw [if_neg hl0] at h
      split at h
      case h_2 => cases h
      rename_i z' es' ho
      split at h
      case isFalse => cases h
      rename_i hcond
      obtain ⟨hfit, hz⟩ := hcond
      cases h
      have hlen : ((es'.drop a.st).take len).length = len := by simp; omega
      have hget : ∀ (i : Nat) (e : AV), ((es'.drop a.st).take len)[i]? = some e → es'[a.st + i]? = some e := by
        intro i e he
        rw [List.getElem?_take] at he
        split at he
        · rwa [List.getElem?_drop] at he
        · cases he
      cases hx with
      | sliceZero _ y _ hac => exact absurd rfl hl0
      | slice _ _ c _ hm hh hmz ht hl hac =>
        have hrow : RowAt ρ I w hm z' es' := sr.obj _ _ _ hh ho
        have hzz : hm.z = z := by rw [← hmz, hz]
        obtain ⟨hz', cs, el, hc, htot, hes⟩ := hrow
        subst hz'
        have hall : ∀ e ∈ (es'.drop a.st).take len, e.cells.length = z := by
          intro e he
          obtain ⟨i, hi⟩ := List.getElem?_of_mem he
          rw [← hzz]; exact (hes _ e (hget i e hi)).1
        refine ⟨hall, some ⟨hm.block, hm.base + a.st * hm.z, none⟩, c, by rw [hlen], by rw [hlen]; exact hl, .inr ⟨_, rfl, ?_⟩⟩
        obtain ⟨L, hL, hcells⟩ := cells_list (w := w) (b := hm.block) (o := hm.base + a.st * hm.z) _ (flat_cells (ρ := ρ) (I := I) ((es'.drop a.st).take len) _ hall (fun i e j c' he hj => by
          obtain ⟨y, hy, hvy⟩ := (hes _ e (hget i e he)).2 j c' hj
          refine ⟨y, ?_, hvy⟩
          have e1 : hm.base + a.st * hm.z + (i * z + j) = hm.base + (a.st + i) * hm.z + j := by rw [Nat.add_mul, hzz]; omega
          rw [e1]
          simp [World.cell?, hc, hy]))
        exact ⟨L, hL, fun j v hv => by rw [add_addr _ rfl]; exact hcells j v hv, fun _ => rfl⟩
  · rename_i y xs
    split at h
    case isFalse => cases h
    rename_i hy
    cases h
    subst hy
    obtain ⟨a, cap, rfl, hcap, hs, cs, el, fz, f, hI, hz, hc, hv⟩ := hx.isl_inv
    have hall : ∀ e ∈ es, e.cells.length = y := by
      intro e he
      obtain ⟨i, hi⟩ := List.getElem?_of_mem he
      exact hz i e hi
    refine ⟨hall, some a, cap, rfl, hcap, .inr ⟨a, rfl, ?_⟩⟩
    obtain ⟨L, hL, hcells⟩ := cells_list (w := w) (b := a.block) (o := a.off) _ (flat_cells (ρ := ρ) (I := I) es _ hall (fun i e j c' he hj => by
      refine ⟨f i j, ?_, hv i e j c' he hj⟩
      have hb := hI (by intro e0; subst e0; simp at he)
      have := sr.fix _ _ hb
      rw [← Nat.add_assoc]
      simp [World.cell?, this, hc i e j c' he hj]))
    exact ⟨L, hL, fun j v hv => by rw [add_addr _ hs]; exact hcells j v hv, fun _ => hs⟩
  · cases h

theorem Moved.weaken {H H1 H' : Nat → Option AObj} {w w' : World} {lo hi : Nat} {ρ' : Emb} {I' : Fix} (m : Moved ρ I H1 w lo hi ρ' I' H' w') (h : ∀ id, H1 id ≠ none → H id ≠ none) : Moved ρ I H w lo hi ρ' I' H' w' where
  sr := m.sr
  ext := m.ext
  new := m.new
  fix := m.fix
  newfix := m.newfix
  home := fun id k h1 h2 => by
    rcases m.home id k h1 h2 with a | ⟨j, q, hj, hl, e⟩
    · exact .inl a
    · exact .inr ⟨j, q, hj, h j hl, e⟩
  frame := fun b hb hf => m.frame b hb (fun id k hr hl => hf id k hr (h id hl))
  size := m.size
  os := m.os
  tape := m.tape
  output := m.output

theorem kill_live {s : AS} {i : Nat} : ∀ id, (s.kill i).get id ≠ none → s.get id ≠ none := by
  intro id h e
  rw [AS.get_kill] at h
  split at h
  · exact h rfl
  · exact h e

theorem SR.kill {s : AS} {i : Nat} {w : World} (sr : SR ρ I s.get w) : SR ρ I (s.kill i).get w :=
  sr.less fun id o h => by
    rw [AS.get_kill] at h
    split at h
    · cases h
    · exact h

theorem stay_kill_new (s : AS) (i : Nat) (o : AObj) : Stay s.next (s.next + 1) s.get ((s.kill i).new o).2.get := fun id hid h => by
  rw [AS.get_new, AS.next_kill, if_neg (by omega), AS.get_kill]
  split
  · rfl
  · exact h

/-- A row's block goes over to a new name. -/
theorem Moved.rename {s : AS} {w w' : World} {i : Nat} {h h' : Home} {o : AObj} (sr : SR ρ I s.get w) (hn : ρ s.next = none) (hh : ρ i = some h) (hl : s.get i ≠ none) (hb : h'.block = h.block)
    (hne : ∀ b, b ≠ h.block → w'.heap[b]? = w.heap[b]?) (hsz : w'.heap.size = w.heap.size) (hos : w'.os = w.os) (htape : w'.tape = w.tape) (hout : w'.output = w.output)
    (ho : ObjAt (ρ.add s.next h') I w' h' o) :
    Moved ρ I s.get w s.next (s.next + 1) (ρ.add s.next h') I ((s.kill i).new o).2.get w' := by
  have hext : Ext ρ (ρ.add s.next h') := Emb.ext_add hn
  have hget : ∀ id, ((s.kill i).new o).2.get id = if id = s.next then some o else if id = i then none else s.get id := by
    intro id; rw [AS.get_new, AS.next_kill, AS.get_kill]
  have hi : i ≠ s.next := by intro e; subst e; rw [hn] at hh; cases hh
  refine ⟨⟨?_, ?_, ?_, ?_⟩, hext, ?_, fun _ _ h => h, fun _ h k => absurd k h, ?_, ?_, by omega, hos, htape, hout⟩
  · intro b o' hb'
    have := sr.fix b o' hb'
    rw [hne b ?_]; exact this
    intro e; subst e
    rw [sr.free i h hh hl] at hb'; cases hb'
  · intro id k o' hr ho'
    rw [hget] at ho'
    by_cases e : id = s.next
    · subst e
      rw [if_pos rfl] at ho'; cases ho'
      rw [Emb.add_self] at hr; cases hr
      exact ho
    · rw [if_neg e] at ho'
      rw [Emb.add_ne _ _ _ e] at hr
      split at ho'
      · cases ho'
      · rename_i ei
        have := sr.obj id k o' hr ho'
        exact this.mono hext (FixLe.refl _) (hne _ (sr.apart id i k h ei hr hh (by rw [ho']; simp) hl))
  · intro a b ha hb' hab h1 h2 l1 l2
    rw [hget] at l1 l2
    by_cases ea : a = s.next
    · subst ea
      rw [Emb.add_self] at h1; cases h1
      have eb : b ≠ s.next := fun e => hab e.symm
      rw [Emb.add_ne _ _ _ eb] at h2
      rw [if_neg eb] at l2
      split at l2
      · exact absurd rfl l2
      · rename_i ebi
        rw [hb]; exact fun e => sr.apart b i _ _ ebi h2 hh l2 hl e.symm
    · rw [Emb.add_ne _ _ _ ea] at h1
      rw [if_neg ea] at l1
      split at l1
      · exact absurd rfl l1
      · rename_i eai
        by_cases eb : b = s.next
        · subst eb
          rw [Emb.add_self] at h2; cases h2
          rw [hb]; exact sr.apart a i _ _ eai h1 hh l1 hl
        · rw [Emb.add_ne _ _ _ eb] at h2
          rw [if_neg eb] at l2
          split at l2
          · exact absurd rfl l2
          · exact sr.apart a b _ _ hab h1 h2 l1 l2
  · intro id k hr h1
    rw [hget] at h1
    by_cases e : id = s.next
    · subst e
      rw [Emb.add_self] at hr; cases hr
      rw [hb]; exact sr.free i h hh hl
    · rw [if_neg e] at h1
      rw [Emb.add_ne _ _ _ e] at hr
      split at h1
      · exact absurd rfl h1
      · exact sr.free id k hr h1
  · intro id h1 h2
    by_cases e : id = s.next
    · subst e; omega
    · rw [Emb.add_ne _ _ _ e] at h1; exact absurd h2 h1
  · intro id k h1 h2
    by_cases e : id = s.next
    · subst e
      rw [Emb.add_self] at h1; cases h1
      exact .inr ⟨i, h, hh, hl, hb.symm⟩
    · rw [Emb.add_ne _ _ _ e] at h1; rw [h1] at h2; cases h2
  · intro b _ hf
    exact hne b (fun e => hf i h hh hl e.symm)

end Go.AM
