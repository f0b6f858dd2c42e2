/- Operations that compute from values alone. -/
import Derived.Test.YtppdanlhccpajaaGreatDoorAmState
set_option linter.unusedSimpArgs false
set_option linter.unusedVariables false
set_option linter.unusedSectionVars false
namespace Go.AM

variable {p : Program} {ρ : Emb} {I : Fix}

theorem VR.int_inv {k : IntKind} {n : Int} {x : Value} (h : VR ρ I (.int k n) x) : x = .int k n := by cases h; rfl
theorem VR.bool_inv {b : Bool} {x : Value} (h : VR ρ I (.bool b) x) : x = .bool b := by cases h; rfl

theorem aun_sound {op : UnOp} {x v : AV} {xv : Value} (h : aun op x = some v) (hx : VR ρ I x xv) (w : World) :
    ∃ y, (Op.unary op xv).run p w = .ok y w ∧ VR ρ I v y := by
  unfold aun at h
  split at h
  · rename_i k n
    cases h; cases hx.int_inv
    exact ⟨.int k (k.wrap (0 - n)), by simp [Op.unary, Op.intArith], .int _ _⟩
  · rename_i b
    cases h; cases hx.bool_inv
    exact ⟨_, by simp [Op.unary], .bool _⟩
  · cases h

theorem aint_sound {op : BinOp} {k k' : IntKind} {a b : Int} {v : AV} (t : TypeId) (h : aint op k a k' b = some v) (w : World) :
    ∃ y, (binOp op t (.int k a) (.int k' b)).run p w = .ok y w ∧ VR ρ I v y := by
  cases op <;> simp only [aint] at h
  all_goals (split at h)
  all_goals first
    | (cases h; done)
    | (rename_i hk; subst hk; cases h; first | exact ⟨_, by simp [binOp, Op.intArith, Op.intBits, Op.intCmp, wrapi], .int _ _⟩ | exact ⟨_, by simp [binOp, Op.intCmp, GT.gt, GE.ge], .bool _⟩)
    | (rename_i hk; cases h; exact ⟨_, by simp [binOp, Op.shift, hk, wrapi], .int _ _⟩)
    | (rename_i hk; subst hk; split at h
       · cases h
       · rename_i hb; cases h
         exact ⟨_, by simp [binOp, Op.intDiv, hb, wrapi], .int _ _⟩)

theorem size_data (b : ByteArray) : b.data.toList.length = b.size := by simp

theorem astr_sound {op : BinOp} {a b : List Nat} {v : AV} {x y : Value} (t : TypeId) (h : astr op a b = some v)
    (hx : VR ρ I (.str a) x) (hy : VR ρ I (.str b) y) (w : World) :
    ∃ z, (binOp op t x y).run p w = .ok z w ∧ VR ρ I v z := by
  obtain ⟨ba, rfl, rfl⟩ := hx.str_inv
  obtain ⟨bb, rfl, rfl⟩ := hy.str_inv
  cases op <;> simp only [astr] at h <;> try (cases h; done)
  · simp only [ List.length_map, Array.length_toList] at h
    split at h
    · rename_i hle
      cases h
      refine ⟨.string (ba ++ bb), ?_, ?_⟩
      · have : ¬ (((ba.size + bb.size : Nat) : Int) > IntKind.i64.max) := by
          have h1 : ba.data.size = ba.size := rfl
          have h2 : bb.data.size = bb.size := rfl
          have h3 : IntKind.i64.max = 9223372036854775807 := by rfl
          omega
        simp only [binOp, Op.stringOp]
        rw [if_neg this]; rfl
      · have : (ba.data.toList.map UInt8.toNat) ++ (bb.data.toList.map UInt8.toNat) = (ba ++ bb).data.toList.map UInt8.toNat := by simp
        rw [this]; exact .str _
    · cases h
  · simp only [Option.some.injEq] at h
    subst h
    rw [str_beq]
    exact ⟨_, by simp [binOp, Op.stringOp], .bool _⟩
  · simp only [Option.some.injEq] at h
    subst h
    rw [str_beq]
    exact ⟨_, by simp [binOp, Op.stringOp], .bool _⟩

/-! struct fields -/
theorem field_at {t : TypeId} {i : TI} {fs : List AField} {g : AField} {n : Nat} (hi : (AProg.of p).ti t = some i) (hk : i.kind = .struct fs) (hg : fs[n]? = some g) :
    ∃ gs f, p.underlying t = some (.struct gs) ∧ gs[n]? = some f ∧ g.type = f.type ∧ g.offset = f.offset ∧ g.blank = (f.name == "_") := by
  obtain ⟨f, hf, _, _, hkind, _, _⟩ := ti_info hi
  rw [hkind] at hk
  obtain ⟨gs, hu, rfl⟩ := kind_struct hk
  simp only [List.getElem?_map, Option.map_eq_some_iff] at hg
  obtain ⟨f', hf', rfl⟩ := hg
  exact ⟨gs, f', hu, by simpa using hf', rfl, rfl, rfl⟩

theorem afield_sound {t : TypeId} {x v : AV} {n : Nat} {xv : Value} (h : afield (AProg.of p) t x n = some v) (hx : VR ρ I x xv) (w : World) :
    ∃ y, (Instr.field t xv n).run p w = .ok y w ∧ VR ρ I v y := by
  unfold afield at h
  simp only [Option.bind_eq_bind, Option.bind_eq_some_iff] at h
  obtain ⟨i, hi, h⟩ := h
  split at h
  · rename_i fs hk
    simp only [Option.bind_eq_some_iff] at h
    obtain ⟨g, hg, h⟩ := h
    obtain ⟨gs, f, hu, hf, ht, ho, _⟩ := field_at hi hk hg
    split at h
    · rename_i cs
      obtain ⟨vs, rfl, hcs⟩ := VR.agg_iff.1 hx
      obtain ⟨y, hy, hv⟩ := part_sound h hcs w
      refine ⟨y, ?_, hv⟩
      simp [Instr.field, run_underlying' hu, hf, asAgg, ← ht, ← ho, hy]
    · cases h
  · cases h

theorem afieldAddr_sound {t : TypeId} {x v : AV} {n : Nat} {xv : Value} (h : afieldAddr (AProg.of p) t x n = some v) (hx : VR ρ I x xv) (w : World) :
    ∃ y, (Instr.fieldAt t xv n).run p w = .ok y w ∧ VR ρ I v y := by
  unfold afieldAddr at h
  simp only [Option.bind_eq_bind, Option.bind_eq_some_iff] at h
  obtain ⟨i, hi, h⟩ := h
  split at h
  · rename_i fs hk
    simp only [Option.bind_eq_some_iff] at h
    obtain ⟨g, hg, j, hj, h⟩ := h
    obtain ⟨gs, f, hu, hf, ht, ho, _⟩ := field_at hi hk hg
    obtain ⟨fi, hfi, hsz, _⟩ := ti_info hj
    rw [ht] at hfi
    split at h
    · cases h
    · rename_i hne
      have hne' : fi.size ≠ 0 := by rw [← hsz]; exact hne
      split at h
      · rename_i a
        cases h
        cases hx with
        | ptr _ hm hh =>
          refine ⟨_, ?_, .ptr _ hm hh⟩
          simp only [Instr.fieldAt, Sem.run_bind, run_underlying' hu, Result.andThen_ok, hf, Instr.sureAddr, Sem.run_pure, fieldPlace, run_sizeOf' hfi, if_neg hne']
          by_cases hz : f.offset = 0
          · simp [Addr.add, hz, ho]
          · simp [Addr.add, hz, ho, Nat.add_assoc]
      · rename_i v' off
        cases h
        cases hx with
        | iptr _ _ b o cs el fz ff hb hc hv =>
          refine ⟨_, ?_, .iptr v' (off + g.offset) b o cs el fz ff hb hc hv⟩
          simp only [Instr.fieldAt, Sem.run_bind, run_underlying' hu, Result.andThen_ok, hf, Instr.sureAddr, Sem.run_pure, fieldPlace, run_sizeOf' hfi, if_neg hne']
          by_cases hz : f.offset = 0
          · simp [Addr.add, hz, ho]
          · simp [Addr.add, hz, ho, Nat.add_assoc]
      · cases h
  · cases h

end Go.AM
