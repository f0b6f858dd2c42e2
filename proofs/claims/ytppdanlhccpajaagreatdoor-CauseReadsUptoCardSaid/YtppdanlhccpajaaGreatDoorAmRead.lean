/- Arguments as data: what is read is a value of the machine's, by value. -/
import Derived.Test.YtppdanlhccpajaaGreatDoorAmSound
import GoSem.ClaimChange
import Derived.ChangeFn
set_option linter.unusedSimpArgs false
set_option linter.unusedVariables false
set_option linter.unusedSectionVars false
namespace Go.AM

abbrev NoE : Emb := fun _ => none

theorem mapM_some {α β : Type} {f : α → Option β} : ∀ (l : List α) (r : List β), l.mapM f = some r → l.length = r.length ∧ ∀ (i : Nat) (a : α), l[i]? = some a → ∃ b, r[i]? = some b ∧ f a = some b
  | [], r, h => by
    simp only [List.mapM_nil, Option.pure_def, Option.some.injEq] at h
    subst h
    exact ⟨rfl, fun i a hi => by simp at hi⟩
  | a :: l, r, h => by
    rw [List.mapM_cons] at h
    simp only [Option.bind_eq_bind, Option.bind_eq_some_iff, Option.pure_def, Option.some.injEq] at h
    obtain ⟨b, hb, bs, hbs, rfl⟩ := h
    obtain ⟨hl, hi⟩ := mapM_some l bs hbs
    refine ⟨by simp [hl], fun i x hx => ?_⟩
    cases i with
    | zero => simp at hx; subst hx; exact ⟨b, rfl, hb⟩
    | succ i => simp at hx; simpa using hi i x hx

/-- How a slice that came in lies: it is nil; it has no room; it has. -/
inductive SForm where
  | nil | zero | real
  deriving DecidableEq

def sl (f : SForm) (z : Nat) (xs : List AV) : AV :=
  match xs, f with
  | [], .nil => .slice none 0 (some 0)
  | [], .zero => .slice (some ⟨0, 0, z⟩) 0 (some 0)
  | xs, _ => .isl z xs

theorem sl_cons (f : SForm) (z : Nat) (x : AV) (xs : List AV) : sl f z (x :: xs) = .isl z (x :: xs) := by cases f <;> rfl
theorem sl_real (z : Nat) (xs : List AV) : sl .real z xs = .isl z xs := by cases xs <;> rfl

section
variable {H : Type} {enc : TypeId × Value → H} {P : Program} {W : World} {fuel : Nat} {t : TypeId} {cs : List Value} {d : DataW H} {ps : List MemPlace}

theorem read_int {k : IntKind} (ht : P.underlying t = some (.int k)) (h : DataW.trod enc P W 0 (fun _ => true) true fuel t cs = some (d, ps)) :
    ∃ n, cs = [.int k n] ∧ d = .lit (.int k n) ∧ (Lit.int k n).wf = true := by
  cases fuel with
  | zero => simp [DataW.trod] at h
  | succ fuel =>
    unfold DataW.trod at h
    rw [ht] at h
    split at h
    all_goals first
      | (rename_i e _; cases e; done)
      | skip
    all_goals simp_all
    all_goals obtain ⟨⟨rfl, h1⟩, rfl, _⟩ := h
    all_goals exact h1

theorem read_str (ht : P.underlying t = some .string) (h : DataW.trod enc P W 0 (fun _ => true) true fuel t cs = some (d, ps)) :
    ∃ s : ByteArray, cs = [.string s] ∧ d = .lit (.string s.data.toList) ∧ s.size ≤ maxLen := by
  cases fuel with
  | zero => simp [DataW.trod] at h
  | succ fuel =>
    unfold DataW.trod at h
    rw [ht] at h
    split at h
    all_goals simp_all

theorem read_struct {fs : Array Field} (ht : P.underlying t = some (.struct fs)) (h : DataW.trod enc P W 0 (fun _ => true) true (fuel + 1) t cs = some (d, ps)) :
    cs.length = P.cellsOf t ∧ ∃ xs : List (DataW H × List MemPlace), fs.toList.mapM (fun f => DataW.trod enc P W 0 (fun _ => true) true fuel f.type ((cs.drop f.offset).take (P.cellsOf f.type))) = some xs ∧ d = .agg (xs.map (·.1)) := by
  unfold DataW.trod at h
  rw [ht] at h
  split at h
  case h_9 fs' cs' he =>
    simp only [Option.some.injEq, TypeDesc.struct.injEq] at he
    subst he
    split at h
    case isFalse => cases h
    rename_i hlen
    simp only [Option.map_eq_some_iff, Prod.mk.injEq] at h
    obtain ⟨xs, hxs, rfl, _⟩ := h
    exact ⟨hlen, xs, hxs, rfl⟩
  all_goals first
    | (rename_i e _; cases e; done)
    | (rename_i e; cases e; done)
    | (cases h; done)
    | simp_all

theorem cell_of {a : Addr} {x : Value} (h : W.cell? a = some x) : a.spot = none ∧ ∃ c el fz, W.heap[a.block]? = some (.cells c el fz) ∧ c[a.off]? = some x := by
  unfold World.cell? at h
  split at h
  · rename_i c el fz hc
    split at h
    · cases h
    · rename_i hs
      exact ⟨by simpa using hs, c, el, fz, hc, h⟩
  · cases h

theorem cells_of {a : Addr} {n : Nat} {l : List Value} (h : W.cells? 0 a n = some l) : l.length = n ∧ ∀ j, j < n → ∃ x, l[j]? = some x ∧ W.cell? (a.add j) = some x := by
  unfold World.cells? at h
  rw [if_pos (Nat.zero_le _)] at h
  obtain ⟨h1, h2⟩ := mapM_some _ _ h
  refine ⟨by simpa using h1.symm, fun j hj => ?_⟩
  obtain ⟨b, hb, hc⟩ := h2 j j (by simp [hj])
  exact ⟨b, hb, hc⟩

theorem add_block (a : Addr) (n : Nat) : (a.add n).block = a.block := by unfold Addr.add; split <;> rfl
theorem add_off (a : Addr) (n : Nat) : (a.add n).off = a.off + n := by
  unfold Addr.add
  split
  · rename_i h; rw [h]; rfl
  · rfl
theorem add_zero (a : Addr) : a.add 0 = a := by simp [Addr.add]

def elemsOf : DataW H → List (DataW H)
  | .slice es _ => es
  | _ => []

theorem read_slice {e : TypeId} {z : Nat} (ht : P.underlying t = some (.slice e)) (hz : P.cellsOf e = z) (hz0 : 0 < z) {Φ : AV → DataW H → Prop}
    (hel : ∀ cs d ps, DataW.trod enc P W 0 (fun _ => true) true fuel e cs = some (d, ps) → cs.length = z → ∃ v : AV, Φ v d ∧ v.cells.length = z ∧ VRL NoE (pins W) v.cells cs)
    (h : DataW.trod enc P W 0 (fun _ => true) true (fuel + 1) t cs = some (d, ps)) :
    ∃ (x : Value) (f : SForm) (xs : List AV), cs = [x] ∧ VR NoE (pins W) (sl f z xs) x ∧ xs.length = (elemsOf d).length ∧ ∀ (i : Nat) (v : AV) (b : DataW H), xs[i]? = some v → (elemsOf d)[i]? = some b → Φ v b := by
  unfold DataW.trod at h
  rw [ht] at h
  split at h
  case h_7 =>
    simp only [Option.some.injEq, Prod.mk.injEq] at h
    obtain ⟨rfl, rfl⟩ := h
    exact ⟨_, .nil, [], rfl, .sliceNil, rfl, fun i v b hv => by simp at hv⟩
  case h_8 e' a len cap he =>
    simp only [Option.some.injEq, TypeDesc.slice.injEq] at he
    subst he
    simp only [hz] at h
    split at h
    case isFalse => cases h
    rename_i hc
    obtain ⟨_, hlc, hcap⟩ := hc
    simp only [Option.bind_eq_some_iff, Option.map_eq_some_iff, Prod.mk.injEq] at h
    obtain ⟨elems, hel1, rest, hrest, rfl, rfl⟩ := h
    obtain ⟨hlen, hat⟩ := mapM_some _ _ hel1
    simp only [List.length_range] at hlen
    have at_ : ∀ i, i < len → ∃ y l, elems[i]? = some y ∧ W.cells? 0 (a.add (i * z)) z = some l ∧ DataW.trod enc P W 0 (fun _ => true) true fuel e l = some y := fun i hi => by
      obtain ⟨y, hy, hf⟩ := hat i i (by simp [hi])
      simp only [Option.bind_eq_some_iff] at hf
      obtain ⟨l, hl, ht⟩ := hf
      exact ⟨y, l, hy, hl, ht⟩
    by_cases hcz : cap = 0
    · have hl0 : len = 0 := by omega
      subst hcz; subst hl0
      have : elems = [] := by cases elems with | nil => rfl | cons => simp at hlen
      subst this
      exact ⟨_, .zero, [], rfl, .sliceZero _ _ _ (.inr rfl), rfl, fun i v b hv => by simp at hv⟩
    · -- there is room: the block is there
      have hblock : a.spot = none ∧ ∃ c el fz, W.heap[a.block]? = some (.cells c el fz) := by
        have key : ∀ l, W.cells? 0 (a.add (0 * z)) z = some l → a.spot = none ∧ ∃ c el fz, W.heap[a.block]? = some (.cells c el fz) := fun l hl => by
          obtain ⟨_, h2⟩ := cells_of hl
          obtain ⟨x, _, hx⟩ := h2 0 hz0
          rw [Nat.zero_mul, add_zero, add_zero] at hx
          obtain ⟨h3, c, el, fz, h4, _⟩ := cell_of hx
          exact ⟨h3, c, el, fz, h4⟩
        by_cases hl0 : 0 < len
        · obtain ⟨_, l, _, hl, _⟩ := at_ 0 hl0
          exact key l hl
        · have hl0 : len = 0 := by omega
          subst hl0
          simp only [if_true] at hrest
          obtain ⟨_, hr⟩ := mapM_some _ _ hrest
          obtain ⟨_, _, hf⟩ := hr 0 0 (by rw [List.getElem?_range (by omega)])
          simp only [Option.bind_eq_some_iff] at hf
          obtain ⟨l, hl, _⟩ := hf
          rw [Nat.zero_add] at hl
          exact key l hl
      obtain ⟨hspot, c, el, fz, hb⟩ := hblock
      have pick : ∀ i, ∃ v : AV, i < len → ∃ y l, elems[i]? = some y ∧ W.cells? 0 (a.add (i * z)) z = some l ∧ Φ v y.1 ∧ v.cells.length = z ∧ VRL NoE (pins W) v.cells l := fun i => by
        by_cases hi : i < len
        · obtain ⟨y, l, hy, hl, ht⟩ := at_ i hi
          obtain ⟨v, h1, h2, h3⟩ := hel l y.1 y.2 ht (cells_of hl).1
          exact ⟨v, fun _ => ⟨y, l, hy, hl, h1, h2, h3⟩⟩
        · exact ⟨aundef, fun h => absurd h hi⟩
      obtain ⟨g, hg⟩ := Classical.axiomOfChoice pick
      let xs := (List.range len).map g
      have hxl : xs.length = len := by simp [xs]
      have hxi : ∀ i v, xs[i]? = some v → i < len ∧ v = g i := fun i v hv => by
        simp only [xs, List.getElem?_map, Option.map_eq_some_iff] at hv
        obtain ⟨k, hk, rfl⟩ := hv
        have := List.getElem?_eq_some_iff.1 hk
        obtain ⟨h1, h2⟩ := this
        simp at h1 h2
        subst h2
        exact ⟨h1, rfl⟩
      have cellAt : ∀ i v j x, xs[i]? = some v → v.cells[j]? = some x → ∃ y, c[a.off + i * z + j]? = some y ∧ VR NoE (pins W) x y := fun i v j x hv hx => by
        obtain ⟨hi, rfl⟩ := hxi i v hv
        obtain ⟨y, l, _, hl, _, hvz, hr⟩ := hg i hi
        have hj : j < z := by rw [← hvz]; exact (List.getElem?_eq_some_iff.1 hx).1
        obtain ⟨u, hu, hcu⟩ := (cells_of hl).2 j hj
        obtain ⟨_, c', el', fz', hb', hoff⟩ := cell_of hcu
        rw [add_block, add_block] at hb'
        rw [hb] at hb'; cases hb'
        rw [add_off, add_off] at hoff
        exact ⟨u, hoff, hr.2 j x u hx hu⟩
      refine ⟨_, .real, xs, rfl, ?_, by simp [elemsOf, hxl, hlen], fun i v b hv hbd => ?_⟩
      · rw [sl_real]
        have := VR.isl (ρ := NoE) (I := pins W) z xs a cap c el fz (fun i j => (c[a.off + i * z + j]?).getD undef) hspot (by rw [hxl]; exact hlc) (fun _ => hb)
          (fun i v hv => by obtain ⟨hi, rfl⟩ := hxi i v hv; obtain ⟨_, _, _, _, _, h, _⟩ := hg i hi; exact h)
          (fun i v j x hv hx => by obtain ⟨y, hy, _⟩ := cellAt i v j x hv hx; rw [hy]; rfl)
          (fun i v j x hv hx => by obtain ⟨y, hy, hr⟩ := cellAt i v j x hv hx; simp only [hy, Option.getD_some]; exact hr)
        rw [hxl] at this
        exact this
      · obtain ⟨hi, rfl⟩ := hxi i v hv
        obtain ⟨y, l, hy, hl, h1, _⟩ := hg i hi
        simp only [elemsOf, List.getElem?_map, hy, Option.map_some, Option.some.injEq] at hbd
        subst hbd
        exact h1
  all_goals first
    | (rename_i e _; cases e; done)
    | (rename_i e; cases e; done)
    | (cases h; done)
    | simp_all

end
end Go.AM
