/- How the abstract machine's values and states stand to the model's. -/
import Derived.Test.YtppdanlhccpajaaGreatDoorAmBase
set_option linter.unusedSimpArgs false
set_option linter.unusedVariables false
set_option linter.unusedSectionVars false
namespace Go.AM

/-! ### tries -/
theorem beqF {a b : Nat} : Nat.beq a b = false ↔ a ≠ b := by
  constructor
  · intro h e; subst e; simp at h
  · intro h; cases hb : Nat.beq a b with
    | false => rfl
    | true => exact absurd (Nat.eq_of_beq_eq_true hb) h

theorem Trie.get_leaf {α : Type} (k : Nat) : (Trie.leaf : Trie α).get k = none := rfl

theorem Trie.get_setF {α : Type} : ∀ (n : Nat) (t : Trie α) (k : Nat) (x : Option α) (j : Nat), k < n →
    (Trie.setF n t k x).get j = if j = k then x else t.get j
  | 0, _, _, _, _, h => absurd h (Nat.not_lt_zero _)
  | n + 1, t, k, x, j, h => by
    have key : ∀ (l : Trie α) (v : Option α) (r : Trie α),
        (cond (Nat.beq k 0) (Trie.node l x r) (cond (Nat.beq (k % 2) 1) (.node (Trie.setF n l ((k - 1) / 2) x) v r) (.node l v (Trie.setF n r ((k - 1) / 2) x)))).get j
          = if j = k then x else (Trie.node l v r).get j := by
      intro l v r
      have ihl := Trie.get_setF n l ((k - 1) / 2) x ((j - 1) / 2)
      have ihr := Trie.get_setF n r ((k - 1) / 2) x ((j - 1) / 2)
      by_cases hk0 : k = 0
      · subst hk0
        by_cases hj0 : j = 0
        · subst hj0; simp [Trie.get]
        · have : Nat.beq j 0 = false := by rw [beqF]; exact hj0
          simp [Trie.get, this, hj0]
      · have hkb : Nat.beq k 0 = false := by rw [beqF]; exact hk0
        rw [hkb]
        simp only [cond_false]
        by_cases hj0 : j = 0
        · subst hj0
          have : ¬ (0 = k) := fun e => hk0 e.symm
          cases hb : Nat.beq (k % 2) 1 <;> simp [Trie.get, this]
        · have hjb : Nat.beq j 0 = false := by rw [beqF]; exact hj0
          cases hb : Nat.beq (k % 2) 1
          · have hke : k % 2 ≠ 1 := by rwa [beqF] at hb
            simp only [cond_false, Trie.get, hjb]
            cases hc : Nat.beq (j % 2) 1
            · have hje : j % 2 ≠ 1 := by rwa [beqF] at hc
              simp only [cond_false]
              rw [ihr (by omega)]
              by_cases e : j = k
              · subst e; simp
              · rw [if_neg (by omega), if_neg e]
            · have hje : j % 2 = 1 := Nat.eq_of_beq_eq_true hc
              simp only [cond_true]
              rw [if_neg (by omega)]
          · have hke : k % 2 = 1 := Nat.eq_of_beq_eq_true hb
            simp only [cond_true, Trie.get, hjb, cond_false]
            cases hc : Nat.beq (j % 2) 1
            · have hje : j % 2 ≠ 1 := by rwa [beqF] at hc
              simp only [cond_false]
              rw [if_neg (by omega)]
            · have hje : j % 2 = 1 := Nat.eq_of_beq_eq_true hc
              simp only [cond_true]
              rw [ihl (by omega)]
              by_cases e : j = k
              · subst e; simp
              · rw [if_neg (by omega), if_neg e]
    cases t with
    | leaf =>
      have := key .leaf none .leaf
      simp only [Trie.setF]
      rw [this]
      simp only [Trie.get]
      cases Nat.beq j 0 <;> cases Nat.beq (j % 2) 1 <;> rfl
    | node l v r => exact key l v r

theorem Trie.get_set {α : Type} (t : Trie α) (k : Nat) (x : Option α) (j : Nat) : (t.set k x).get j = if j = k then x else t.get j :=
  Trie.get_setF _ _ _ _ _ (Nat.lt_succ_self k)

theorem Trie.get_tab {α : Type} : ∀ (d : Nat) (f : Nat → Option α) (k : Nat) (x : α), (Trie.tab d f).get k = some x → f k = some x
  | 0, _, _, _, h => by simp [Trie.tab, Trie.get] at h
  | d + 1, f, k, x, h => by
    simp only [Trie.tab, Trie.get] at h
    by_cases hk : k = 0
    · subst hk; simpa using h
    · have hkb : Nat.beq k 0 = false := by rw [beqF]; exact hk
      rw [hkb] at h
      simp only [cond_false] at h
      cases hb : Nat.beq (k % 2) 1
      · have hke : k % 2 ≠ 1 := by rwa [beqF] at hb
        rw [hb] at h
        have := Trie.get_tab d _ _ _ h
        have e : 2 * ((k - 1) / 2) + 2 = k := by omega
        rwa [e] at this
      · have hke : k % 2 = 1 := Nat.eq_of_beq_eq_true hb
        rw [hb] at h
        have := Trie.get_tab d _ _ _ h
        have e : 2 * ((k - 1) / 2) + 1 = k := by omega
        rwa [e] at this

theorem AProg.ti_of {p : Program} {t : TypeId} {i : TI} (h : (AProg.of p).ti t = some i) : tiOf p t = some i := Trie.get_tab _ _ _ _ h
theorem AProg.fn_of {p : Program} {f : FuncId} {fn : Func} (h : (AProg.of p).fn f = some fn) : p.funcs[f]? = some fn := Trie.get_tab _ _ _ _ h

theorem AS.get_put (s : AS) (i : Nat) (o : AObj) (j : Nat) : (s.put i o).get j = if j = i then some o else s.get j := by simp [AS.get, AS.put, Trie.get_set]
theorem AS.get_kill (s : AS) (i j : Nat) : (s.kill i).get j = if j = i then none else s.get j := by simp [AS.get, AS.kill, Trie.get_set]
theorem AS.get_new (s : AS) (o : AObj) (j : Nat) : (s.new o).2.get j = if j = s.next then some o else s.get j := by simp [AS.get, AS.new, Trie.get_set]
theorem AS.next_put (s : AS) (i : Nat) (o : AObj) : (s.put i o).next = s.next := rfl
theorem AS.next_kill (s : AS) (i : Nat) : (s.kill i).next = s.next := rfl
theorem AS.next_new (s : AS) (o : AObj) : (s.new o).2.next = s.next + 1 := rfl

/-! ### the relation of values -/
structure Home where
  block : Nat
  base : Nat
  z : Nat
  tot : Nat

abbrev Emb := Nat → Option Home
abbrev Fix := Nat → Option Obj

inductive VR (ρ : Emb) (I : Fix) : AV → Value → Prop
  | int (k : IntKind) (n : Int) : VR ρ I (.int k n) (.int k n)
  | bool (b : Bool) : VR ρ I (.bool b) (.bool b)
  | str (b : ByteArray) : VR ρ I (.str (b.data.toList.map UInt8.toNat)) (.string b)
  | ptrNil : VR ρ I (.ptr none) (.pointer none)
  | ptr (a : AAddr) (h : Home) (hh : ρ a.id = some h) : VR ρ I (.ptr (some a)) (.pointer (some ⟨h.block, h.base + a.idx * h.z + a.off, none⟩))
  | iptr (v : AV) (off b o : Nat) (cs : Array Value) (el : TypeId) (fz : Nat × Nat) (f : Nat → Value) (hI : I b = some (.cells cs el fz))
      (hc : ∀ (j : Nat) (c : AV), v.cells[j]? = some c → cs[o + j]? = some (f j)) (hv : ∀ (j : Nat) (c : AV), v.cells[j]? = some c → VR ρ I c (f j)) :
      VR ρ I (.iptr v off) (.pointer (some ⟨b, o + off, none⟩))
  | sliceNil : VR ρ I (.slice none 0 (some 0)) (.slice none 0 0)
  | slice (a : SAddr) (len c : Nat) (ac : Option Nat) (h : Home) (hh : ρ a.id = some h) (hz : a.z = h.z) (ht : h.base + (a.st + c) * h.z ≤ h.tot)
      (hl : len ≤ c) (hac : ∀ k, ac = some k → k = c) : VR ρ I (.slice (some a) len ac) (.slice (some ⟨h.block, h.base + a.st * h.z, none⟩) len c)
  | sliceZero (a : SAddr) (x : Addr) (ac : Option Nat) (hac : ac = none ∨ ac = some 0) : VR ρ I (.slice (some a) 0 ac) (.slice (some x) 0 0)
  | isl (z : Nat) (xs : List AV) (a : Addr) (cap : Nat) (cs : Array Value) (el : TypeId) (fz : Nat × Nat) (f : Nat → Nat → Value) (hs : a.spot = none)
      (hcap : xs.length ≤ cap) (hI : xs ≠ [] → I a.block = some (.cells cs el fz)) (hz : ∀ (i : Nat) (e : AV), xs[i]? = some e → e.cells.length = z)
      (hc : ∀ (i : Nat) (e : AV) (j : Nat) (c : AV), xs[i]? = some e → e.cells[j]? = some c → cs[a.off + i * z + j]? = some (f i j))
      (hv : ∀ (i : Nat) (e : AV) (j : Nat) (c : AV), xs[i]? = some e → e.cells[j]? = some c → VR ρ I c (f i j)) :
      VR ρ I (.isl z xs) (.slice (some a) xs.length cap)
  | mapNil : VR ρ I (.map none) (.map none)
  | map (r : Nat) (h : Home) (hh : ρ r = some h) : VR ρ I (.map (some r)) (.map (some h.block))
  | func (fn : Fn) (as bs : List AV) (vs ws : Array Value) (hfn : ∀ l, fn ≠ .yield l) (hl : as.length = vs.size) (hm : bs.length = ws.size)
      (hv : ∀ (i : Nat) (c : AV) (x : Value), as[i]? = some c → vs[i]? = some x → VR ρ I c x) (hw : ∀ (i : Nat) (c : AV) (x : Value), bs[i]? = some c → ws[i]? = some x → VR ρ I c x) :
      VR ρ I (.func fn as bs) (.func fn vs ws)
  | yield (y : Nat) (h : Home) (hh : ρ y = some h) : VR ρ I (.func (.yield y) [] []) (.func (.yield h.block) #[] #[])
  | nilFunc : VR ρ I .nilFunc .nilFunc
  | iface (t : TypeId) (v : AV) (x : Value) (hv : VR ρ I v x) : VR ρ I (.iface t v) (.iface t x)
  | nilIface : VR ρ I .nilIface .nilIface
  | agg (cs : List AV) (vs : Array Value) (hl : cs.length = vs.size) (hv : ∀ (i : Nat) (c : AV) (x : Value), cs[i]? = some c → vs[i]? = some x → VR ρ I c x) : VR ρ I (.agg cs) (.agg vs)
  | tuple (cs : List AV) (vs : Array Value) (hl : cs.length = vs.size) (hv : ∀ (i : Nat) (c : AV) (x : Value), cs[i]? = some c → vs[i]? = some x → VR ρ I c x) : VR ρ I (.tuple cs) (.tuple vs)

/-- More is embedded; what was stays. -/
def Ext (ρ ρ' : Emb) : Prop := ∀ id h, ρ id = some h → ρ' id = some h
def FixLe (I I' : Fix) : Prop := ∀ b c e f, I b = some (.cells c e f) → I' b = some (.cells c e f)

theorem Ext.refl (ρ : Emb) : Ext ρ ρ := fun _ _ h => h
theorem Ext.trans {a b c : Emb} (h : Ext a b) (k : Ext b c) : Ext a c := fun i x e => k i x (h i x e)
theorem FixLe.refl (I : Fix) : FixLe I I := fun _ _ _ _ h => h
theorem FixLe.trans {a b c : Fix} (h : FixLe a b) (k : FixLe b c) : FixLe a c := fun i x y z e => k i x y z (h i x y z e)

theorem VR.mono {ρ ρ' : Emb} {I I' : Fix} (hρ : Ext ρ ρ') (hI : FixLe I I') {v : AV} {x : Value} (h : VR ρ I v x) : VR ρ' I' v x := by
  induction h with
  | int k n => exact .int k n
  | bool b => exact .bool b
  | str b => exact .str b
  | ptrNil => exact .ptrNil
  | ptr a h hh => exact .ptr a h (hρ _ _ hh)
  | iptr v off b o cs el fz f hb hc hv ih => exact .iptr v off b o cs el fz f (hI _ _ _ _ hb) hc ih
  | sliceNil => exact .sliceNil
  | slice a len c ac h hh hz ht hl hac => exact .slice a len c ac h (hρ _ _ hh) hz ht hl hac
  | sliceZero a x ac hac => exact .sliceZero a x ac hac
  | isl z xs a cap cs el fz f hs hcap hb hz hc hv ih => exact .isl z xs a cap cs el fz f hs hcap (fun h => hI _ _ _ _ (hb h)) hz hc ih
  | mapNil => exact .mapNil
  | map r h hh => exact .map r h (hρ _ _ hh)
  | func fn as bs vs ws hfn hl hm hv hw ih1 ih2 => exact .func fn as bs vs ws hfn hl hm ih1 ih2
  | yield y h hh => exact .yield y h (hρ _ _ hh)
  | nilFunc => exact .nilFunc
  | iface t v x hv ih => exact .iface t v x ih
  | nilIface => exact .nilIface
  | agg cs vs hl hv ih => exact .agg cs vs hl ih
  | tuple cs vs hl hv ih => exact .tuple cs vs hl ih

/-- Lists of values, one by one. -/
def VRL (ρ : Emb) (I : Fix) (as : List AV) (vs : List Value) : Prop := as.length = vs.length ∧ ∀ (i : Nat) (c : AV) (x : Value), as[i]? = some c → vs[i]? = some x → VR ρ I c x

theorem VRL.nil {ρ : Emb} {I : Fix} : VRL ρ I [] [] := ⟨rfl, fun _ _ _ h => by simp at h⟩
theorem VRL.cons {ρ : Emb} {I : Fix} {a : AV} {v : Value} {as : List AV} {vs : List Value} (h : VR ρ I a v) (hs : VRL ρ I as vs) : VRL ρ I (a :: as) (v :: vs) :=
  ⟨by simp [hs.1], fun i c x hc hx => by
    cases i with
    | zero => simp at hc hx; subst hc; subst hx; exact h
    | succ i => exact hs.2 i c x (by simpa using hc) (by simpa using hx)⟩
theorem VRL.inv_cons {ρ : Emb} {I : Fix} {a : AV} {as : List AV} {vs : List Value} (h : VRL ρ I (a :: as) vs) : ∃ v vs', vs = v :: vs' ∧ VR ρ I a v ∧ VRL ρ I as vs' := by
  obtain ⟨hl, hv⟩ := h
  cases vs with
  | nil => simp at hl
  | cons v vs' => exact ⟨v, vs', rfl, hv 0 _ _ rfl rfl, by simpa using hl, fun i c x hc hx => hv (i + 1) c x (by simpa using hc) (by simpa using hx)⟩
theorem VRL.inv_nil {ρ : Emb} {I : Fix} {vs : List Value} (h : VRL ρ I [] vs) : vs = [] := by
  obtain ⟨hl, _⟩ := h; cases vs with | nil => rfl | cons => simp at hl
theorem VRL.mono {ρ ρ' : Emb} {I I' : Fix} (hρ : Ext ρ ρ') (hI : FixLe I I') {as : List AV} {vs : List Value} (h : VRL ρ I as vs) : VRL ρ' I' as vs :=
  ⟨h.1, fun i c x hc hx => (h.2 i c x hc hx).mono hρ hI⟩
theorem VRL.append {ρ : Emb} {I : Fix} {as bs : List AV} {vs ws : List Value} (h : VRL ρ I as vs) (k : VRL ρ I bs ws) : VRL ρ I (as ++ bs) (vs ++ ws) := by
  refine ⟨by simp [h.1, k.1], fun i c x hc hx => ?_⟩
  by_cases hi : i < as.length
  · rw [List.getElem?_append_left hi] at hc
    rw [List.getElem?_append_left (by rw [← h.1]; exact hi)] at hx
    exact h.2 i c x hc hx
  · rw [List.getElem?_append_right (by omega)] at hc
    rw [List.getElem?_append_right (by rw [← h.1]; omega)] at hx
    exact k.2 _ c x hc (by rw [h.1]; exact hx)
theorem VRL.take {ρ : Emb} {I : Fix} {as : List AV} {vs : List Value} (h : VRL ρ I as vs) (n : Nat) : VRL ρ I (as.take n) (vs.take n) :=
  ⟨by simp [h.1], fun i c x hc hx => by
    rw [List.getElem?_take] at hc hx
    split at hc
    · rename_i hi; rw [if_pos hi] at hx; exact h.2 i c x hc hx
    · simp at hc⟩
theorem VRL.drop {ρ : Emb} {I : Fix} {as : List AV} {vs : List Value} (h : VRL ρ I as vs) (n : Nat) : VRL ρ I (as.drop n) (vs.drop n) :=
  ⟨by simp [h.1], fun i c x hc hx => by
    rw [List.getElem?_drop] at hc hx
    exact h.2 _ c x hc hx⟩
theorem VRL.at {ρ : Emb} {I : Fix} {as : List AV} {vs : List Value} (h : VRL ρ I as vs) {i : Nat} {c : AV} (hc : as[i]? = some c) : ∃ x, vs[i]? = some x ∧ VR ρ I c x := by
  have hi : i < as.length := (List.getElem?_eq_some_iff.1 hc).1
  have : i < vs.length := by rw [← h.1]; exact hi
  exact ⟨vs[i], List.getElem?_eq_getElem this, h.2 i c _ hc (List.getElem?_eq_getElem this)⟩
theorem VRL.replicate {ρ : Emb} {I : Fix} {a : AV} {v : Value} (h : VR ρ I a v) (n : Nat) : VRL ρ I (List.replicate n a) (List.replicate n v) :=
  ⟨by simp, fun i c x hc hx => by
    rw [List.getElem?_replicate] at hc hx
    split at hc
    · rename_i hi; rw [if_pos hi] at hx; cases hc; cases hx; exact h
    · simp at hc⟩
theorem VRL.set {ρ : Emb} {I : Fix} {as : List AV} {vs : List Value} (h : VRL ρ I as vs) (n : Nat) {a : AV} {v : Value} (k : VR ρ I a v) : VRL ρ I (as.set n a) (vs.set n v) :=
  ⟨by simp [h.1], fun i c x hc hx => by
    rw [List.getElem?_set] at hc hx
    by_cases hn : n = i
    · subst hn
      rw [if_pos rfl] at hc hx
      split at hc
      · rename_i hi; rw [if_pos (by rw [← h.1]; exact hi)] at hx; cases hc; cases hx; exact k
      · simp at hc
    · rw [if_neg hn] at hc hx; exact h.2 i c x hc hx⟩

theorem VR.agg_iff {ρ : Emb} {I : Fix} {cs : List AV} {x : Value} : VR ρ I (.agg cs) x ↔ ∃ vs, x = .agg vs ∧ VRL ρ I cs vs.toList := by
  constructor
  · intro h; cases h with | agg _ vs hl hv => exact ⟨vs, rfl, by simpa using hl, fun i c x hc hx => hv i c x hc (by simpa using hx)⟩
  · rintro ⟨vs, rfl, hl, hv⟩; exact .agg cs vs (by simpa using hl) (fun i c x hc hx => hv i c x hc (by simpa using hx))
theorem VR.tuple_iff {ρ : Emb} {I : Fix} {cs : List AV} {x : Value} : VR ρ I (.tuple cs) x ↔ ∃ vs, x = .tuple vs ∧ VRL ρ I cs vs.toList := by
  constructor
  · intro h; cases h with | tuple _ vs hl hv => exact ⟨vs, rfl, by simpa using hl, fun i c x hc hx => hv i c x hc (by simpa using hx)⟩
  · rintro ⟨vs, rfl, hl, hv⟩; exact .tuple cs vs (by simpa using hl) (fun i c x hc hx => hv i c x hc (by simpa using hx))

/-- A value's cells. -/
theorem VR.cells {ρ : Emb} {I : Fix} {v : AV} {x : Value} (h : VR ρ I v x) : VRL ρ I v.cells x.cells.toList := by
  cases h with
  | agg cs vs hl hv => exact ⟨by simpa [AV.cells, Value.cells] using hl, fun i c x hc hx => hv i c x hc (by simpa [Value.cells] using hx)⟩
  | _ => exact VRL.cons (by constructor <;> assumption) VRL.nil

theorem VR.atom {ρ : Emb} {I : Fix} {v : AV} {x : Value} (h : VR ρ I v x) (ha : v.atom = true) : (∀ a, x ≠ .agg a) ∧ (∀ a, x ≠ .tuple a) := by
  cases h <;> simp_all [AV.atom]

theorem VR.undef {ρ : Emb} {I : Fix} : VR ρ I aundef undef := VR.tuple_iff.2 ⟨#[], rfl, VRL.nil⟩

end Go.AM
