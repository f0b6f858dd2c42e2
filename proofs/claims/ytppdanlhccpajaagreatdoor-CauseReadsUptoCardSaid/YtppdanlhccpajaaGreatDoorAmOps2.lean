/- More operations that compute from values alone: indexes, slices, parts put together. -/
import Derived.Test.YtppdanlhccpajaaGreatDoorAmOps1
set_option linter.unusedSimpArgs false
set_option linter.unusedVariables false
set_option linter.unusedSectionVars false
namespace Go.AM

variable {p : Program} {ρ : Emb} {I : Fix}

theorem add_addr (a : Addr) (hs : a.spot = none) (n : Nat) : a.add n = ⟨a.block, a.off + n, none⟩ := by
  obtain ⟨b, o, sp⟩ := a
  simp only at hs
  subst hs
  by_cases hn : n = 0 <;> simp [Addr.add, hn]

theorem aindexAddr_sound {t : TypeId} {x ix v : AV} {xv iv : Value} (h : aindexAddr (AProg.of p) t x ix = some v) (hx : VR ρ I x xv) (hi : VR ρ I ix iv) (w : World) :
    ∃ y, (Instr.indexAt t xv iv).run p w = .ok y w ∧ VR ρ I v y := by
  unfold aindexAddr at h
  simp only [Option.bind_eq_bind, Option.bind_eq_some_iff] at h
  obtain ⟨i, hti, h⟩ := h
  split at h
  · rename_i e hk
    simp only [Option.bind_eq_some_iff] at h
    obtain ⟨j, htj, h⟩ := h
    split at h
    · rename_i k n
      cases hi.int_inv
      obtain ⟨f, hf, _, _, hkind, _, _⟩ := ti_info hti
      rw [hkind] at hk
      have hu := kind_slice hk
      obtain ⟨fe, hfe, hsz, _⟩ := ti_info htj
      split at h
      · rename_i a len ac
        split at h
        · rename_i hb
          obtain ⟨h0, h1, h2⟩ := hb
          cases h
          cases hx with
          | slice _ _ c _ hm hh hz ht hl hac =>
            refine ⟨_, ?_, .ptr _ hm hh⟩
            have hlt : (0 ≤ n ∧ n < (len : Int)) := ⟨h0, h1⟩
            simp only [Instr.indexAt, Sem.run_bind, asIntOf, Sem.run_pure, Result.andThen_ok, run_underlying' hu, Bool.and_false, if_pos hlt, run_sizeOf' hfe]
            rw [add_addr _ rfl, ← hsz, ← h2, hz]
            simp [Nat.add_mul, Nat.add_assoc]
          | sliceZero _ _ _ hac => simp at h1; omega
        · cases h
      · rename_i z xs
        split at h
        · rename_i hb
          obtain ⟨h0, h2⟩ := hb
          simp only [Option.map_eq_some_iff] at h
          obtain ⟨e, he, rfl⟩ := h
          have hlen : n.toNat < xs.length := (List.getElem?_eq_some_iff.1 he).1
          cases hx with
          | isl _ _ a cap cs el fz ff hs hcap hI hz hc hv =>
            refine ⟨.pointer (some (a.add (n.toNat * fe.size))), ?_, ?_⟩
            · have hlt : (0 ≤ n ∧ n < (xs.length : Int)) := ⟨h0, by omega⟩
              simp only [Instr.indexAt, Sem.run_bind, asIntOf, Sem.run_pure, Result.andThen_ok, run_underlying' hu, Bool.and_false, if_pos hlt, run_sizeOf' hfe]
            · rw [add_addr _ hs, ← hsz, ← h2]
              refine .iptr e 0 a.block (a.off + n.toNat * z) cs el fz (ff n.toNat) (hI (by intro e0; subst e0; simp at hlen)) ?_ ?_
              · exact fun j c hj => hc n.toNat e j c he hj
              · exact fun j c hj => hv n.toNat e j c he hj
        · cases h
      · cases h
    · cases h
  · cases h

theorem aindex_sound {t : TypeId} {x ix v : AV} {xv iv : Value} (h : aindex (AProg.of p) t x ix = some v) (hx : VR ρ I x xv) (hi : VR ρ I ix iv) (w : World) :
    ∃ y, (Instr.index t xv iv).run p w = .ok y w ∧ VR ρ I v y := by
  unfold aindex at h
  simp only [Option.bind_eq_bind, Option.bind_eq_some_iff] at h
  obtain ⟨i, hti, h⟩ := h
  obtain ⟨f, hf, _, _, hkind, _, _⟩ := ti_info hti
  split at h
  · rename_i k n
    cases hi.int_inv
    split at h
    · rename_i s hk
      rw [hkind] at hk
      have hu := kind_str hk
      obtain ⟨b, rfl, rfl⟩ := hx.str_inv
      split at h
      · rename_i h0
        split at h
        · rename_i m hm
          cases h
          simp only [Option.map_eq_some_iff, List.getElem?_map] at hm
          obtain ⟨c, hc, rfl⟩ := hm
          have hlt : n.toNat < b.size := by have := (List.getElem?_eq_some_iff.1 hc).1; simpa using this
          have hb : b[n.toNat]? = some c := by
            rw [getElem?_pos b n.toNat hlt]
            have h2 := List.getElem?_eq_some_iff.1 hc
            obtain ⟨h3, h4⟩ := h2
            rw [← h4]; simp [ByteArray.getElem_eq_getElem_data]
          refine ⟨.int .u8 c.toNat, ?_, ?_⟩
          · simp only [Instr.index, Sem.run_bind, asIntOf, Sem.run_pure, Result.andThen_ok, run_underlying' hu]
            rw [if_pos h0, hb]; rfl
          · exact .int _ _
        · cases h
      · cases h
    · rename_i len e cs hk
      rw [hkind] at hk
      have hu := kind_array hk
      simp only [Option.bind_eq_some_iff] at h
      obtain ⟨j, htj, h⟩ := h
      obtain ⟨fe, hfe, hsz, _⟩ := ti_info htj
      obtain ⟨vs, rfl, hcs⟩ := VR.agg_iff.1 hx
      split at h
      · rename_i hb
        obtain ⟨y, hy, hv⟩ := part_sound h hcs w
        refine ⟨y, ?_, hv⟩
        simp only [Instr.index, Sem.run_bind, asIntOf, Sem.run_pure, Result.andThen_ok, run_underlying' hu, Sem.run_ite, if_pos hb, run_sizeOf' hfe]
        rw [← hsz]; exact hy
      · cases h
    · cases h
  · cases h

theorem bound_sound {v : AV} {x : Value} {y n : Nat} (h : bound v y = some n) (hv : VR ρ I v x) (code : BoundsCode) (w : World) : (Instr.sliceBound x y code).run p w = .ok n w := by
  unfold bound at h
  split at h
  · rename_i k m
    cases hv.int_inv
    split at h
    · rename_i hb
      cases h
      simp [Instr.sliceBound, asIntOf, hb]
    · cases h
  · cases h

/-- An operand that may be left out. -/
def VRO (ρ : Emb) (I : Fix) : Option AV → Option Value → Prop
  | some a, some v => VR ρ I a v
  | none, none => True
  | _, _ => False

theorem sized_iff {a : Option SAddr} {z : Nat} : sized a z = true ↔ ∀ s, a = some s → s.z = z := by
  unfold sized
  cases a with
  | none => simp
  | some s => simp [Nat.beq_eq]

theorem obound_le {v : Option AV} {y d n : Nat} (h : obound v y d = some n) (hd : d ≤ y) : n ≤ y := by
  unfold obound bound at h
  split at h
  · split at h
    · split at h
      · rename_i hb; cases h; omega
      · cases h
    · cases h
  · cases h; exact hd
theorem bound_le {v : AV} {y n : Nat} (h : bound v y = some n) : n ≤ y := by
  unfold bound at h
  split at h
  · split at h
    · rename_i hb; cases h; omega
    · cases h
  · cases h

/-- The two bounds of 'x[l:h]' with no third. -/
theorem bounds2 {isSlice : Bool} {len cap : Nat} {lo hi : Option AV} {lov hiv : Option Value} {h' l : Nat} (y : Nat) (hy : y ≤ cap)
    (hh : obound hi y len = some h') (hl : obound lo h' 0 = some l) (hlo : VRO ρ I lo lov) (hhi : VRO ρ I hi hiv) (w : World) :
    (Instr.sliceBounds isSlice len cap lov hiv none).run p w = .ok (l, h', cap) w := by
  have key : ∀ (v : AV) (x : Value) (n : Nat), bound v y = some n → VR ρ I v x → ∀ code w, (Instr.sliceBound x cap code).run p w = .ok n w := by
    intro v x n hb hv code w
    unfold bound at hb
    split at hb
    · rename_i k m
      cases hv.int_inv
      split at hb
      · rename_i hb2
        cases hb
        have : 0 ≤ m ∧ m ≤ (cap : Int) := by omega
        simp [Instr.sliceBound, asIntOf, this]
      · cases hb
    · cases hb
  unfold obound at hh hl
  cases hi with
  | none =>
    cases hiv with
    | some _ => exact hhi.elim
    | none =>
      cases hh
      cases lo with
      | none =>
        cases lov with
        | some _ => exact hlo.elim
        | none => cases hl; simp [Instr.sliceBounds]
      | some a =>
        cases lov with
        | none => exact hlo.elim
        | some v => simp [Instr.sliceBounds, bound_sound hl hlo]
  | some a =>
    cases hiv with
    | none => exact hhi.elim
    | some v =>
      have hk := key a v h' hh hhi
      cases lo with
      | none =>
        cases lov with
        | some _ => exact hlo.elim
        | none => cases hl; simp [Instr.sliceBounds, hk]
      | some b =>
        cases lov with
        | none => exact hlo.elim
        | some u => simp [Instr.sliceBounds, hk, bound_sound hl hlo]

/-- The three bounds of 'x[l:h:m]'. -/
theorem bounds3 {isSlice : Bool} {len cap : Nat} {lo : Option AV} {hi mx : AV} {lov : Option Value} {hiv mxv : Value} {h' l m : Nat} (y : Nat) (hy : y ≤ cap)
    (hm : bound mx y = some m) (hh : bound hi m = some h') (hl : obound lo h' 0 = some l) (hlo : VRO ρ I lo lov) (hhi : VR ρ I hi hiv) (hmx : VR ρ I mx mxv) (w : World) :
    (Instr.sliceBounds isSlice len cap lov (some hiv) (some mxv)).run p w = .ok (l, h', m) w := by
  have hmr : ∀ code w, (Instr.sliceBound mxv cap code).run p w = .ok m w := by
    intro code w
    unfold bound at hm
    split at hm
    · rename_i k n
      cases hmx.int_inv
      split at hm
      · rename_i hb
        cases hm
        have : 0 ≤ n ∧ n ≤ (cap : Int) := by omega
        simp [Instr.sliceBound, asIntOf, this]
      · cases hm
    · cases hm
  unfold obound at hl
  cases lo with
  | none =>
    cases lov with
    | some _ => exact hlo.elim
    | none => cases hl; simp [Instr.sliceBounds, hmr, bound_sound hh hhi]
  | some a =>
    cases lov with
    | none => exact hlo.elim
    | some v => simp [Instr.sliceBounds, hmr, bound_sound hh hhi, bound_sound hl hlo]

end Go.AM
