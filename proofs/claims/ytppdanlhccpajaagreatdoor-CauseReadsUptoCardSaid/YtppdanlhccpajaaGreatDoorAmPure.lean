/- The operations that only compute: what the abstract machine computes the model does. -/
import Derived.Test.YtppdanlhccpajaaGreatDoorAmRel
import Derived.Laws.Sem
import Derived.Laws.Entries
import Derived.Control
import Derived.Laws.Strings
import Derived.Lib.Strings
set_option linter.unusedSimpArgs false
set_option linter.unusedVariables false
set_option linter.unusedSectionVars false
namespace Go.AM

variable {p : Program} {ρ : Emb} {I : Fix}

theorem ti_info {t : TypeId} {i : TI} (h : (AProg.of p).ti t = some i) : ∃ f, p.info? t = some f ∧ i.size = f.size ∧ i.bytes = f.bytes ∧ i.kind = kindOf p t ∧ i.zero = f.zero.bind (avOf 4) ∧ i.held = p.stoodInHeld t := by
  have h := AProg.ti_of h
  unfold tiOf at h
  cases hf : p.info? t with
  | none => rw [hf] at h; cases h
  | some f => rw [hf] at h; cases h; exact ⟨f, rfl, rfl, rfl, rfl, rfl, rfl⟩

theorem run_typeInfo' {t : TypeId} {f : TypeInfo} (h : p.info? t = some f) (w : World) : (typeInfo t).run p w = .ok f w := by
  simp [typeInfo, h]
theorem run_sizeOf' {t : TypeId} {f : TypeInfo} (h : p.info? t = some f) (w : World) : (sizeOf t).run p w = .ok f.size w := by
  simp [sizeOf, run_typeInfo' h]
theorem run_underlying' {t : TypeId} {d : TypeDesc} (h : p.underlying t = some d) (w : World) : (underlying t).run p w = .ok d w := by
  simp [underlying, h]
theorem run_zeroValue' {t : TypeId} {f : TypeInfo} {z : Value} (h : p.info? t = some f) (hz : f.zero = some z) (w : World) : (zeroValue t).run p w = .ok z w := by
  simp [zeroValue, run_typeInfo' h, hz]

theorem underlying_some {t : TypeId} {f : TypeInfo} (h : p.info? t = some f) : (∃ d, p.underlying t = some d) ∨ p.underlying t = none := by
  cases p.underlying t with | none => exact .inr rfl | some d => exact .inl ⟨d, rfl⟩

/-! what a kind says of a type -/
theorem kind_int {t : TypeId} {k : IntKind} (h : kindOf p t = .int k) : p.underlying t = some (.int k) := by
  unfold kindOf at h; split at h <;> simp_all
theorem kind_bool {t : TypeId} (h : kindOf p t = .bool) : p.underlying t = some .bool := by
  unfold kindOf at h; split at h <;> simp_all
theorem kind_str {t : TypeId} (h : kindOf p t = .str) : p.underlying t = some .string := by
  unfold kindOf at h; split at h <;> simp_all
theorem kind_ptr {t e : TypeId} (h : kindOf p t = .ptr e) : p.underlying t = some (.pointer e) := by
  unfold kindOf at h; split at h <;> simp_all
theorem kind_slice {t e : TypeId} (h : kindOf p t = .slice e) : p.underlying t = some (.slice e) := by
  unfold kindOf at h; split at h <;> simp_all
theorem kind_array {t e : TypeId} {n : Nat} (h : kindOf p t = .array n e) : p.underlying t = some (.array n e) := by
  unfold kindOf at h; split at h <;> simp_all
theorem kind_map {t k e : TypeId} (h : kindOf p t = .map k e) : p.underlying t = some (.map k e) := by
  unfold kindOf at h; split at h <;> simp_all
theorem kind_func {t : TypeId} (h : kindOf p t = .func) : ∃ a b c, p.underlying t = some (.func a b c) := by
  unfold kindOf at h; split at h <;> simp_all
theorem kind_iface {t : TypeId} {b : Bool} (h : kindOf p t = .iface b) : ∃ ms, p.underlying t = some (.interface ms) ∧ b = !ms.isEmpty := by
  unfold kindOf at h; split at h <;> simp_all
theorem kind_struct {t : TypeId} {fs : List AField} (h : kindOf p t = .struct fs) :
    ∃ gs, p.underlying t = some (.struct gs) ∧ fs = gs.toList.map fun f => { type := f.type, offset := f.offset, blank := f.name == "_" } := by
  unfold kindOf at h; split at h <;> simp_all

theorem run_isAgg {t : TypeId} {i : TI} (h : (AProg.of p).ti t = some i) (hk : i.kind ≠ .other) (w : World) : (isAgg t).run p w = .ok i.isAgg w := by
  obtain ⟨f, hf, _, _, hkind, _, _⟩ := ti_info h
  unfold isAgg TI.isAgg
  rw [hkind] at hk ⊢
  unfold kindOf at hk ⊢
  cases hu : p.underlying t with
  | none => rw [hu] at hk; exact absurd rfl hk
  | some d => rw [hu] at hk; cases d <;> first | exact absurd rfl hk | simp [run_underlying' hu]

/-! constants -/
theorem VRL_of_mapM {d : Nat} (ih : ∀ v a, avOf d v = some a → VR ρ I a v) : ∀ (vs : List Value) (as : List AV), vs.mapM (avOf d) = some as → VRL ρ I as vs
  | [], as, h => by simp at h; subst h; exact VRL.nil
  | v :: vs, as, h => by
    simp only [List.mapM_cons, Option.bind_eq_bind, Option.bind_eq_some_iff] at h
    obtain ⟨a, ha, as', has, h⟩ := h
    simp at h; subst h
    exact VRL.cons (ih v a ha) (VRL_of_mapM ih vs as' has)

theorem VR.of_avOf : ∀ (d : Nat) (v : Value) (a : AV), avOf d v = some a → VR ρ I a v := by
  intro d
  induction d with
  | zero => intro v a h; simp [avOf] at h
  | succ d ih =>
    intro v a h
    unfold avOf at h
    split at h <;> try (cases h)
    all_goals try (constructor; done)
    · rename_i d' cs he
      obtain rfl : d = d' := by omega
      simp only [Option.map_eq_some_iff] at h
      obtain ⟨as, has, rfl⟩ := h
      exact VR.agg_iff.2 ⟨_, rfl, VRL_of_mapM ih _ _ has⟩
    · rename_i d' cs he
      obtain rfl : d = d' := by omega
      simp only [Option.map_eq_some_iff] at h
      obtain ⟨as, has, rfl⟩ := h
      exact VR.tuple_iff.2 ⟨_, rfl, VRL_of_mapM ih _ _ has⟩

/-! temporaries -/
structure TR (ρ : Emb) (I : Fix) (t : ATmps) (tmps : Array Value) : Prop where
  n : t.n = tmps.size
  at_ : ∀ i, VR ρ I (t.get i) (tmps.getD i undef)

theorem TR.mono {ρ' : Emb} {I' : Fix} (hρ : Ext ρ ρ') (hI : FixLe I I') {t : ATmps} {tmps : Array Value} (h : TR ρ I t tmps) : TR ρ' I' t tmps :=
  ⟨h.n, fun i => (h.at_ i).mono hρ hI⟩

def D16.val : D16 → Nat
  | .d0 => 0
  | .d1 => 1
  | .d2 => 2
  | .d3 => 3
  | .d4 => 4
  | .d5 => 5
  | .d6 => 6
  | .d7 => 7
  | .d8 => 8
  | .d9 => 9
  | .da => 10
  | .db => 11
  | .dc => 12
  | .dd => 13
  | .de => 14
  | .df => 15

theorem digitOf_val : ∀ m, m < 16 → (digitOf m).val = m := by decide
theorem digit_val (k : Nat) : (digit k).val = k % 16 := digitOf_val _ (Nat.mod_lt _ (by decide))

theorem N16.get_set_self {α : Type} (d : D16) (n : N16 α) (x : α) : N16.get d (N16.set d n x) = x := by
  cases n; cases d <;> rfl
theorem N16.get_set_ne {α : Type} (d e : D16) (n : N16 α) (x : α) (h : d ≠ e) : N16.get d (N16.set e n x) = N16.get d n := by
  cases n; cases e <;> cases d <;> first | rfl | exact absurd rfl h
theorem N16.get_all {α : Type} (d : D16) (x : α) : N16.get d (N16.all x) = x := by cases d <;> rfl

theorem ATmps.get_put (t : ATmps) (i : Nat) (v : AV) (j : Nat) : (t.put i v).get j = if j = i then v else t.get j := by
  unfold ATmps.put ATmps.get
  cases hi : Nat.ble 256 i <;> cases hj : Nat.ble 256 j <;> simp only [cond_true, cond_false]
  · have h1 : ¬ 256 ≤ i := fun h => by rw [Nat.ble_eq_true_of_le h] at hi; cases hi
    have h2 : ¬ 256 ≤ j := fun h => by rw [Nat.ble_eq_true_of_le h] at hj; cases hj
    by_cases e : j = i
    · subst e; rw [if_pos rfl, N16.get_set_self, N16.get_set_self]
    · rw [if_neg e]
      by_cases e1 : digit (j / 16) = digit (i / 16)
      · rw [e1, N16.get_set_self, N16.get_set_ne]
        intro e2
        have a := digit_val j; have b := digit_val i; have c := digit_val (j / 16); have d := digit_val (i / 16)
        rw [e2] at a; rw [e1] at c
        omega
      · rw [N16.get_set_ne _ _ _ _ e1]
  · have h1 : ¬ 256 ≤ i := fun h => by rw [Nat.ble_eq_true_of_le h] at hi; cases hi
    have h2 : 256 ≤ j := Nat.le_of_ble_eq_true hj
    rw [if_neg (by omega)]
  · have h1 : 256 ≤ i := Nat.le_of_ble_eq_true hi
    have h2 : ¬ 256 ≤ j := fun h => by rw [Nat.ble_eq_true_of_le h] at hj; cases hj
    rw [if_neg (by omega)]
  · rw [Trie.get_set]
    by_cases e : j = i
    · simp [e]
    · simp [e]

theorem ATmps.get_new (n j : Nat) : (ATmps.new n).get j = aundef := by
  unfold ATmps.new ATmps.get
  cases Nat.ble 256 j
  · simp only [cond_false, N16.get_all]
  · rfl

theorem ATmps.get_set (t : ATmps) (i : Nat) (v : AV) (j : Nat) : (t.set i v).get j = if j = i ∧ i < t.n then v else t.get j := by
  unfold ATmps.set
  cases hb : Nat.blt i t.n
  · have : ¬ i < t.n := by simpa [Nat.blt_eq] using (by rw [hb]; simp : ¬ Nat.blt i t.n = true)
    simp [this]
  · have : i < t.n := by simpa [Nat.blt_eq] using hb
    simp only [cond_true, ATmps.get_put]
    by_cases e : j = i
    · simp [e, this]
    · simp [e]

theorem ATmps.n_put (t : ATmps) (i : Nat) (v : AV) : (t.put i v).n = t.n := by unfold ATmps.put; cases Nat.ble 256 i <;> rfl
theorem ATmps.n_set (t : ATmps) (i : Nat) (v : AV) : (t.set i v).n = t.n := by unfold ATmps.set; cases Nat.blt i t.n <;> first | rfl | exact ATmps.n_put t i v

theorem TR.set {t : ATmps} {tmps : Array Value} (h : TR ρ I t tmps) (i : Nat) {v : AV} {x : Value} (hv : VR ρ I v x) : TR ρ I (t.set i v) (tmps.setIfInBounds i x) := by
  refine ⟨by rw [ATmps.n_set, h.n]; simp, fun j => ?_⟩
  rw [ATmps.get_set]
  by_cases e : j = i ∧ i < t.n
  · obtain ⟨rfl, hi⟩ := e
    rw [if_pos ⟨rfl, hi⟩]
    rw [h.n] at hi
    simp [Array.getD, hi]
    exact hv
  · rw [if_neg e]
    have : (tmps.setIfInBounds i x).getD j undef = tmps.getD j undef := by
      simp only [Array.getD_eq_getD_getElem?, Array.getElem?_setIfInBounds]
      by_cases e2 : i = j
      · subst e2
        have : ¬ i < tmps.size := fun hi => e ⟨rfl, by rw [h.n]; exact hi⟩
        simp [this]
      · simp [e2]
    rw [this]; exact h.at_ j

theorem aeval_sound {t : ATmps} {a : Act} (h : TR ρ I t a.tmps) {x : Operand} {v : AV} (hv : aeval t x = some v) : VR ρ I v (a.eval x) := by
  cases x with
  | tmp i => simp only [aeval, Option.some.injEq] at hv; subst hv; exact h.at_ i
  | const c => exact VR.of_avOf _ _ _ hv
  | global g => simp [aeval] at hv
  | func f =>
    simp only [aeval, Option.some.injEq] at hv; subst hv
    exact .func _ _ _ _ _ (by simp) rfl rfl (by simp) (by simp)

/-! parts -/
theorem part_sound {t : TypeId} {cs : List AV} {off : Nat} {v : AV} {vs : Array Value} (h : part (AProg.of p) t cs off = some v) (hc : VRL ρ I cs vs.toList) (w : World) :
    ∃ x, (Go.part t vs off).run p w = .ok x w ∧ VR ρ I v x := by
  unfold part at h
  simp only [Option.bind_eq_bind, Option.bind_eq_some_iff] at h
  obtain ⟨i, hi, h⟩ := h
  obtain ⟨f, hf, hsz, _, _, _, _⟩ := ti_info hi
  have hk : i.kind ≠ .other := by intro e; rw [e] at h; simp at h
  have hagg := run_isAgg hi hk w
  have h : (if i.isAgg then some (AV.agg ((cs.drop off).take i.size)) else cs[off]?) = some v := by
    split at h
    · cases h
    · exact h
  cases hb : i.isAgg
  · rw [hb] at h hagg
    simp only [Bool.false_eq_true, if_false] at h
    obtain ⟨x, hx, hv⟩ := hc.at h
    refine ⟨x, ?_, hv⟩
    have hx' : vs[off]? = some x := by simpa using hx
    simp [Go.part, hagg, hx']
  · rw [hb] at h hagg
    simp only [if_true, Option.some.injEq] at h
    subst h
    refine ⟨.agg (vs.extract off (off + f.size)), ?_, ?_⟩
    · simp [Go.part, hagg, run_sizeOf' hf]
    · refine VR.agg_iff.2 ⟨_, rfl, ?_⟩
      have : (vs.extract off (off + f.size)).toList = (vs.toList.drop off).take f.size := by
        simp [List.drop_take]
      rw [this, hsz]
      exact (hc.drop off).take _

/-! comparisons -/
theorem VR.str_inv {s : List Nat} {x : Value} (h : VR ρ I (.str s) x) : ∃ b : ByteArray, x = .string b ∧ s = b.data.toList.map UInt8.toNat := by
  cases h with | str b => exact ⟨b, rfl, rfl⟩

theorem map_toNat_inj {a b : List UInt8} (h : a.map UInt8.toNat = b.map UInt8.toNat) : a = b := by
  induction a generalizing b with
  | nil => cases b with | nil => rfl | cons => simp at h
  | cons x xs ih =>
    cases b with
    | nil => simp at h
    | cons y ys =>
      simp only [List.map_cons, List.cons.injEq] at h
      rw [UInt8.toNat_inj.1 h.1, ih h.2]

theorem str_beq (a b : ByteArray) : ((a.data.toList.map UInt8.toNat) == (b.data.toList.map UInt8.toNat)) = (a.toList == b.toList) := by
  rw [Bool.eq_iff_iff, beq_iff_eq, beq_iff_eq, ByteArray.toList_eq, ByteArray.toList_eq]
  exact ⟨map_toNat_inj, fun h => by rw [h]⟩

end Go.AM
