/- States: what the abstract heap says of the model's, and what a step may turn. -/
import Derived.Test.YtppdanlhccpajaaGreatDoorAmPure
import Derived.RowKit3
import Derived.Below
set_option linter.unusedSimpArgs false
set_option linter.unusedVariables false
set_option linter.unusedSectionVars false
namespace Go.AM

/-- A row in memory: elements of z cells each, from the home's base on. -/
def RowAt (ρ : Emb) (I : Fix) (w : World) (h : Home) (z : Nat) (es : List AV) : Prop :=
  z = h.z ∧ ∃ cs el, w.heap[h.block]? = some (.cells cs el (0, 0)) ∧ cs.size = h.tot ∧
    ∀ (i : Nat) (e : AV), es[i]? = some e → e.cells.length = z ∧ ∀ (j : Nat) (c : AV), e.cells[j]? = some c → ∃ x, cs[h.base + i * z + j]? = some x ∧ VR ρ I c x

def MapAt (ρ : Emb) (I : Fix) (w : World) (h : Home) (es : List (AV × AV)) : Prop :=
  ∃ ms clock, w.heap[h.block]? = some (.map ms clock) ∧ ms.size = es.length ∧
    ∀ (i : Nat) (e : AV × AV) (m : MapEntry), es[i]? = some e → ms[i]? = some m → VR ρ I e.1 m.key ∧ VR ρ I e.2 m.val

def ObjAt (ρ : Emb) (I : Fix) (w : World) (h : Home) : AObj → Prop
  | .arr z es => RowAt ρ I w h z es
  | .map es => MapAt ρ I w h es

structure SR (ρ : Emb) (I : Fix) (H : Nat → Option AObj) (w : World) : Prop where
  fix : ∀ b o, I b = some o → w.heap[b]? = some o
  obj : ∀ id h o, ρ id = some h → H id = some o → ObjAt ρ I w h o
  apart : ∀ i j h k, i ≠ j → ρ i = some h → ρ j = some k → H i ≠ none → H j ≠ none → h.block ≠ k.block
  free : ∀ id h, ρ id = some h → H id ≠ none → I h.block = none

structure Moved (ρ : Emb) (I : Fix) (H : Nat → Option AObj) (w : World) (lo hi : Nat) (ρ' : Emb) (I' : Fix) (H' : Nat → Option AObj) (w' : World) : Prop where
  sr : SR ρ' I' H' w'
  ext : Ext ρ ρ'
  new : ∀ id, ρ' id ≠ none → ρ id = none → lo ≤ id ∧ id < hi
  fix : ∀ b o, I b = some o → I' b = some o
  newfix : ∀ b, I' b ≠ none → I b = none → w.heap.size ≤ b
  home : ∀ id h, ρ' id = some h → ρ id = none → w.heap.size ≤ h.block ∨ ∃ j k, ρ j = some k ∧ H j ≠ none ∧ k.block = h.block
  frame : ∀ b, b < w.heap.size → (∀ id h, ρ id = some h → H id ≠ none → h.block ≠ b) → w'.heap[b]? = w.heap[b]?
  size : w.heap.size ≤ w'.heap.size
  os : w'.os = w.os
  tape : w'.tape = w.tape
  output : w'.output = w.output

/-- What is not there outside of lo .. hi comes not to be there. -/
def Stay (lo hi : Nat) (H H' : Nat → Option AObj) : Prop := ∀ id, (id < lo ∨ hi ≤ id) → H id = none → H' id = none

theorem Stay.refl (lo hi : Nat) (H : Nat → Option AObj) : Stay lo hi H H := fun _ _ h => h
theorem Stay.trans {lo mid hi : Nat} {H H1 H2 : Nat → Option AObj} (h1 : lo ≤ mid) (h2 : mid ≤ hi) (a : Stay lo mid H H1) (b : Stay mid hi H1 H2) : Stay lo hi H H2 :=
  fun id hid h => b id (by omega) (a id (by omega) h)

theorem Moved.fixLe {ρ ρ' : Emb} {I I' : Fix} {H H' : Nat → Option AObj} {w w' : World} {lo hi : Nat} (m : Moved ρ I H w lo hi ρ' I' H' w') : FixLe I I' :=
  fun b _ _ _ h => m.fix b _ h

theorem Moved.refl {ρ : Emb} {I : Fix} {H : Nat → Option AObj} {w : World} {lo hi : Nat} (h : SR ρ I H w) : Moved ρ I H w lo hi ρ I H w where
  sr := h
  ext := Ext.refl _
  new := fun _ h k => absurd k h
  fix := fun _ _ h => h
  newfix := fun _ h k => absurd k h
  home := fun _ _ h k => by rw [h] at k; cases k
  frame := fun _ _ _ => rfl
  size := Nat.le_refl _
  os := rfl
  tape := rfl
  output := rfl

theorem Moved.trans {ρ ρ1 ρ2 : Emb} {I I1 I2 : Fix} {H H1 H2 : Nat → Option AObj} {w w1 w2 : World} {lo mid hi : Nat} (hlm : lo ≤ mid) (hmh : mid ≤ hi)
    (free : ∀ id, lo ≤ id → id < mid → ρ id = none) (stay : Stay lo mid H H1)
    (a : Moved ρ I H w lo mid ρ1 I1 H1 w1) (b : Moved ρ1 I1 H1 w1 mid hi ρ2 I2 H2 w2) : Moved ρ I H w lo hi ρ2 I2 H2 w2 := by
  have live : ∀ id h, ρ1 id = some h → H1 id ≠ none → w.heap.size ≤ h.block ∨ ∃ j k, ρ j = some k ∧ H j ≠ none ∧ k.block = h.block := by
    intro id h hr hl
    cases hρ : ρ id with
    | none => exact a.home id h hr hρ
    | some k =>
      have := a.ext id k hρ
      rw [hr] at this; cases this
      refine .inr ⟨id, h, hρ, fun hn => hl (stay id ?_ hn), rfl⟩
      rcases Nat.lt_or_ge id lo with h1 | h1
      · exact .inl h1
      · rcases Nat.lt_or_ge id mid with h2 | h2
        · rw [free id h1 h2] at hρ; cases hρ
        · exact .inr h2
  refine ⟨b.sr, a.ext.trans b.ext, ?_, fun b' o h => b.fix b' o (a.fix b' o h), ?_, ?_, ?_, Nat.le_trans a.size b.size, b.os.trans a.os, b.tape.trans a.tape, b.output.trans a.output⟩
  · intro id h2 h0
    cases h1 : ρ1 id with
    | none => have := b.new id h2 h1; omega
    | some k => have := a.new id (by rw [h1]; simp) h0; omega
  · intro b' h2 h0
    cases h1 : I1 b' with
    | none => exact Nat.le_trans a.size (b.newfix b' h2 h1)
    | some o => exact a.newfix b' (by rw [h1]; simp) h0
  · intro id h h2 h0
    cases h1 : ρ1 id with
    | none =>
      rcases b.home id h h2 h1 with hb | ⟨j, k, hj, hl, he⟩
      · exact .inl (Nat.le_trans a.size hb)
      · rw [← he]; exact live j k hj hl
    | some k =>
      have := b.ext id k h1
      rw [h2] at this; cases this
      exact a.home id h h1 h0
  · intro b' hb hf
    rw [b.frame b' (Nat.lt_of_lt_of_le hb a.size) ?_, a.frame b' hb hf]
    intro id h hr hl he
    rcases live id h hr hl with h1 | ⟨j, k, hj, hjl, hk⟩
    · omega
    · exact hf j k hj hjl (hk.trans he)

/-- What is embedded dead may be left out of the heap's account: a smaller heap is a weaker word. -/
theorem SR.less {ρ : Emb} {I : Fix} {H H' : Nat → Option AObj} {w : World} (h : SR ρ I H w) (hl : ∀ id o, H' id = some o → H id = some o) : SR ρ I H' w where
  fix := h.fix
  obj := fun id k o hr ho => h.obj id k o hr (hl id o ho)
  apart := fun i j a b hij hi hj h1 h2 => h.apart i j a b hij hi hj
    (by cases e : H' i with | none => exact absurd e h1 | some o => rw [hl i o e]; simp)
    (by cases e : H' j with | none => exact absurd e h2 | some o => rw [hl j o e]; simp)
  free := fun id k hr h1 => h.free id k hr (by cases e : H' id with | none => exact absurd e h1 | some o => rw [hl id o e]; simp)

theorem RowAt.mono {ρ ρ' : Emb} {I I' : Fix} {w w' : World} {h : Home} {z : Nat} {es : List AV} (hρ : Ext ρ ρ') (hI : FixLe I I') (hw : w'.heap[h.block]? = w.heap[h.block]?)
    (k : RowAt ρ I w h z es) : RowAt ρ' I' w' h z es := by
  obtain ⟨hz, cs, el, hc, ht, he⟩ := k
  refine ⟨hz, cs, el, hw.trans hc, ht, fun i e hie => ⟨(he i e hie).1, fun j c hj => ?_⟩⟩
  obtain ⟨x, hx, hv⟩ := (he i e hie).2 j c hj
  exact ⟨x, hx, hv.mono hρ hI⟩

theorem MapAt.mono {ρ ρ' : Emb} {I I' : Fix} {w w' : World} {h : Home} {es : List (AV × AV)} (hρ : Ext ρ ρ') (hI : FixLe I I') (hw : w'.heap[h.block]? = w.heap[h.block]?)
    (k : MapAt ρ I w h es) : MapAt ρ' I' w' h es := by
  obtain ⟨ms, cl, hc, hs, he⟩ := k
  exact ⟨ms, cl, hw.trans hc, hs, fun i e m hi hm => ⟨((he i e m hi hm).1).mono hρ hI, ((he i e m hi hm).2).mono hρ hI⟩⟩

theorem ObjAt.mono {ρ ρ' : Emb} {I I' : Fix} {w w' : World} {h : Home} {o : AObj} (hρ : Ext ρ ρ') (hI : FixLe I I') (hw : w'.heap[h.block]? = w.heap[h.block]?)
    (k : ObjAt ρ I w h o) : ObjAt ρ' I' w' h o := by
  cases o with
  | arr z es => exact RowAt.mono hρ hI hw k
  | map es => exact MapAt.mono hρ hI hw k

theorem ObjAt.lt {ρ : Emb} {I : Fix} {w : World} {h : Home} {o : AObj} (k : ObjAt ρ I w h o) : h.block < w.heap.size := by
  cases o with
  | arr z es => obtain ⟨_, cs, el, hc, _⟩ := k; exact (Array.getElem?_eq_some_iff.1 hc).1
  | map es => obtain ⟨ms, cl, hc, _⟩ := k; exact (Array.getElem?_eq_some_iff.1 hc).1

/-- A draw turns nothing. -/
theorem SR.heap {ρ : Emb} {I : Fix} {H : Nat → Option AObj} {w w' : World} (h : SR ρ I H w) (e : w'.heap = w.heap) : SR ρ I H w' where
  fix := fun b o hb => by rw [e]; exact h.fix b o hb
  obj := fun id k o hr ho => (h.obj id k o hr ho).mono (Ext.refl _) (FixLe.refl _) (by rw [e])
  apart := h.apart
  free := h.free

/-- One more home. -/
def Emb.add (ρ : Emb) (i : Nat) (h : Home) : Emb := fun j => if j = i then some h else ρ j
theorem Emb.add_self (ρ : Emb) (i : Nat) (h : Home) : ρ.add i h i = some h := by simp [Emb.add]
theorem Emb.add_ne (ρ : Emb) (i : Nat) (h : Home) {j : Nat} (hj : j ≠ i) : ρ.add i h j = ρ j := by simp [Emb.add, hj]
theorem Emb.ext_add {ρ : Emb} {i : Nat} {h : Home} (hn : ρ i = none) : Ext ρ (ρ.add i h) := fun j k e => by
  by_cases hj : j = i
  · subst hj; rw [hn] at e; cases e
  · rw [Emb.add_ne _ _ _ hj]; exact e

/-- A new block for a new object. -/
theorem Moved.alloc {ρ : Emb} {I : Fix} {s : AS} {w : World} (h : SR ρ I s.get w) (hn : ρ s.next = none) (o : AObj) (obj : Obj) (hm : Home) (hb : hm.block = w.heap.size)
    (hI : I w.heap.size = none)
    (ho : ObjAt (ρ.add s.next hm) I { w with heap := w.heap.push obj } hm o) :
    Moved ρ I s.get w s.next (s.next + 1) (ρ.add s.next hm) I (s.new o).2.get { w with heap := w.heap.push obj } := by
  have hext : Ext ρ (ρ.add s.next hm) := Emb.ext_add hn
  have hold : ∀ b, b < w.heap.size → ({ w with heap := w.heap.push obj } : World).heap[b]? = w.heap[b]? := by
    intro b hlt
    show (w.heap.push obj)[b]? = _
    rw [Array.getElem?_push, if_neg (by omega)]
  refine ⟨⟨?_, ?_, ?_, ?_⟩, hext, ?_, fun _ _ h => h, fun _ h k => absurd k h, ?_, fun b hlt _ => hold b hlt, by simp, rfl, rfl, rfl⟩
  · intro b o' hb'
    have := h.fix b o' hb'
    rw [hold b (Array.getElem?_eq_some_iff.1 this).1]; exact this
  · intro id k o' hr ho'
    rw [AS.get_new] at ho'
    by_cases e : id = s.next
    · subst e
      rw [if_pos rfl] at ho'; cases ho'
      rw [Emb.add_self] at hr; cases hr
      exact ho
    · rw [if_neg e] at ho'
      rw [Emb.add_ne _ _ _ e] at hr
      have := h.obj id k o' hr ho'
      exact this.mono hext (FixLe.refl _) (hold _ this.lt)
  · intro i j a b hij hi hj h1 h2
    rw [AS.get_new] at h1 h2
    by_cases ei : i = s.next
    · subst ei
      rw [Emb.add_self] at hi; cases hi
      have ej : j ≠ s.next := fun e => hij e.symm
      rw [Emb.add_ne _ _ _ ej] at hj
      rw [if_neg ej] at h2
      cases e : s.get j with
      | none => exact absurd e h2
      | some o' => have := (h.obj j b o' hj e).lt; omega
    · rw [Emb.add_ne _ _ _ ei] at hi
      rw [if_neg ei] at h1
      by_cases ej : j = s.next
      · subst ej
        rw [Emb.add_self] at hj; cases hj
        cases e : s.get i with
        | none => exact absurd e h1
        | some o' => have := (h.obj i a o' hi e).lt; omega
      · rw [Emb.add_ne _ _ _ ej] at hj
        rw [if_neg ej] at h2
        exact h.apart i j a b hij hi hj h1 h2
  · intro id k hr hl
    by_cases e : id = s.next
    · subst e
      rw [Emb.add_self] at hr; cases hr
      rw [hb]; exact hI
    · rw [Emb.add_ne _ _ _ e] at hr
      rw [AS.get_new, if_neg e] at hl
      exact h.free id k hr hl
  · intro id h1 h2
    by_cases e : id = s.next
    · subst e; omega
    · rw [Emb.add_ne _ _ _ e] at h1; exact absurd h2 h1
  · intro id k h1 h2
    by_cases e : id = s.next
    · subst e
      rw [Emb.add_self] at h1; cases h1
      exact .inl (by omega)
    · rw [Emb.add_ne _ _ _ e] at h1; rw [h1] at h2; cases h2

theorem stay_new (s : AS) (o : AObj) : Stay s.next (s.next + 1) s.get (s.new o).2.get := fun id hid h => by
  rw [AS.get_new, if_neg (by omega)]; exact h
theorem stay_put {s : AS} {i : Nat} {o : AObj} (hl : s.get i ≠ none) (lo hi : Nat) : Stay lo hi s.get (s.put i o).get := fun id _ h => by
  rw [AS.get_put]
  by_cases e : id = i
  · subst e; exact absurd h hl
  · rw [if_neg e]; exact h

/-- Blocks that are not there yet are not held fast. -/
theorem SR.fix_lt {ρ : Emb} {I : Fix} {H : Nat → Option AObj} {w : World} (h : SR ρ I H w) : I w.heap.size = none := by
  cases e : I w.heap.size with
  | none => rfl
  | some o => have := h.fix _ o e; simp at this

end Go.AM
