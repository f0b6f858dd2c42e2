/- Slices, tuples, interfaces, structs put together. -/
import Derived.Test.YtppdanlhccpajaaGreatDoorAmOps2
set_option linter.unusedSimpArgs false
set_option linter.unusedVariables false
set_option linter.unusedSectionVars false
namespace Go.AM

variable {p : Program} {ρ : Emb} {I : Fix}

theorem run_slice_slice {t e : TypeId} {fe : TypeInfo} {a : Option Addr} {len cap l h m : Nat} {lo hi mx : Option Value} (hu : p.underlying t = some (.slice e)) (hfe : p.info? e = some fe) (w : World)
    (hb : (Instr.sliceBounds true len cap lo hi mx).run p w = .ok (l, h, m) w) :
    (Instr.sliceAt t (.slice a len cap) lo hi mx).run p w = .ok (.slice (if m = l then a else a.map (·.add (l * fe.size))) (h - l) (m - l)) w := by
  simp only [Instr.sliceAt, Sem.run_bind, run_underlying' hu, Result.andThen_ok, Instr.slice, hb, run_sizeOf' hfe, Sem.run_pure]

theorem extract_map_toNat (b : ByteArray) (l h : Nat) : ((b.data.toList.map UInt8.toNat).drop l).take (h - l) = (b.extract l h).data.toList.map UInt8.toNat := by
  rw [Lib.extract_data, List.map_take, List.map_drop]

theorem VR.isl_inv {z : Nat} {xs : List AV} {x : Value} (h : VR ρ I (.isl z xs) x) : ∃ (a : Addr) (cap : Nat), x = .slice (some a) xs.length cap ∧ xs.length ≤ cap ∧ a.spot = none ∧
    ∃ (cs : Array Value) (el : TypeId) (fz : Nat × Nat) (f : Nat → Nat → Value), (xs ≠ [] → I a.block = some (.cells cs el fz)) ∧ (∀ (i : Nat) (e : AV), xs[i]? = some e → e.cells.length = z) ∧
      (∀ (i : Nat) (e : AV) (j : Nat) (c : AV), xs[i]? = some e → e.cells[j]? = some c → cs[a.off + i * z + j]? = some (f i j)) ∧
      (∀ (i : Nat) (e : AV) (j : Nat) (c : AV), xs[i]? = some e → e.cells[j]? = some c → VR ρ I c (f i j)) := by
  cases h with
  | isl _ _ a cap cs el fz f hs hcap hI hz hc hv => exact ⟨a, cap, rfl, hcap, hs, cs, el, fz, f, hI, hz, hc, hv⟩

/-- A part of a slice by value. -/
theorem VR.isl_cut {z : Nat} {xs : List AV} {a : Addr} {cap l n c : Nat} (h : VR ρ I (.isl z xs) (.slice (some a) xs.length cap)) (hn : l + n ≤ xs.length) (hc : n ≤ c) :
    VR ρ I (.isl z ((xs.drop l).take n)) (.slice (some (a.add (l * z))) n c) := by
  obtain ⟨a', cap', he, hcap, hs, cs, el, fz, f, hI, hz, hcs, hv⟩ := h.isl_inv
  cases he
  have hlen : ((xs.drop l).take n).length = n := by simp; omega
  have hget : ∀ (i : Nat) (e : AV), ((xs.drop l).take n)[i]? = some e → xs[l + i]? = some e := by
    intro i e he
    rw [List.getElem?_take] at he
    split at he
    · rwa [List.getElem?_drop] at he
    · cases he
  rw [add_addr _ hs]
  have := VR.isl (ρ := ρ) (I := I) z ((xs.drop l).take n) ⟨a.block, a.off + l * z, none⟩ c cs el fz (fun i j => f (l + i) j) rfl (by rw [hlen]; exact hc)
    (fun hne => hI (by intro e0; subst e0; simp at hne)) (fun i e he => hz _ e (hget i e he))
    (fun i e j c' he hj => by
      have := hcs (l + i) e j c' (hget i e he) hj
      rw [Nat.add_mul] at this
      simpa [Nat.add_assoc] using this)
    (fun i e j c' he hj => hv (l + i) e j c' (hget i e he) hj)
  rw [hlen] at this
  exact this

theorem slice_cut {a : SAddr} {n l c m z : Nat} {ac : Option Nat} {hm : Home} (hh : ρ a.id = some hm) (hz : a.z = hm.z) (hzz : hm.z = z) (ht : hm.base + (a.st + c) * hm.z ≤ hm.tot)
    (hlm : l + m ≤ c) (hn : n ≤ m) (hac : ∀ k, ac = some k → k = m) :
    VR ρ I (.slice (some { a with st := a.st + l }) n ac) (.slice (some ((⟨hm.block, hm.base + a.st * hm.z, none⟩ : Addr).add (l * z))) n m) := by
  rw [add_addr _ rfl]
  have h3 : a.st + l + m ≤ a.st + c := by omega
  have h4 := Nat.mul_le_mul_right hm.z h3
  have := VR.slice (ρ := ρ) (I := I) { a with st := a.st + l } n m ac hm hh hz (by simp only; omega) hn hac
  simp only at this
  rw [Nat.add_mul, ← Nat.add_assoc] at this
  rw [← hzz]
  exact this

theorem aslice_sound {t : TypeId} {x v : AV} {lo hi mx : Option AV} {xv : Value} {lov hiv mxv : Option Value} (h : aslice (AProg.of p) t x lo hi mx = some v)
    (hx : VR ρ I x xv) (hlo : VRO ρ I lo lov) (hhi : VRO ρ I hi hiv) (hmx : VRO ρ I mx mxv) (w : World) :
    ∃ y, (Instr.sliceAt t xv lov hiv mxv).run p w = .ok y w ∧ VR ρ I v y := by
  unfold aslice at h
  simp only [Option.bind_eq_bind, Option.bind_eq_some_iff] at h
  obtain ⟨i, hti, h⟩ := h
  obtain ⟨f, hf, _, _, hkind, _, _⟩ := ti_info hti
  split at h
  · -- a string
    rename_i s hk
    rw [hkind] at hk
    have hu := kind_str hk
    have hmxv : mxv = none := by cases mxv with | none => rfl | some _ => exact hmx.elim
    subst hmxv
    obtain ⟨b, rfl, rfl⟩ := hx.str_inv
    simp only [Option.bind_eq_some_iff, List.length_map, Array.length_toList] at h
    obtain ⟨h', hh, l, hl, h⟩ := h
    cases h
    have hb := bounds2 (p := p) (ρ := ρ) (I := I) (isSlice := false) (len := b.size) (cap := b.size) b.size (Nat.le_refl _) hh hl hlo hhi w
    refine ⟨.string (b.extract l h'), ?_, ?_⟩
    · simp [Instr.sliceAt, run_underlying' hu, Instr.slice, hb]
    · rw [extract_map_toNat]; exact .str _
  · -- a slice whose capacity is known
    rename_i e a len c hk
    rw [hkind] at hk
    have hu := kind_slice hk
    have hmxv : mxv = none := by cases mxv with | none => rfl | some _ => exact hmx.elim
    subst hmxv
    simp only [Option.bind_eq_some_iff] at h
    obtain ⟨j, htj, h', hh, l, hl, h⟩ := h
    obtain ⟨fe, hfe, hsz, _⟩ := ti_info htj
    split at h
    · rename_i hsized
      cases h
      cases hx with
      | sliceNil =>
        have hb := bounds2 (p := p) (ρ := ρ) (I := I) (isSlice := true) (len := 0) (cap := 0) 0 (Nat.le_refl _) hh hl hlo hhi w
        refine ⟨_, run_slice_slice hu hfe w hb, ?_⟩
        have h1 : h' = 0 := by have := obound_le hh (Nat.le_refl 0); omega
        subst h1
        have h2 : l = 0 := by have := obound_le hl (Nat.le_refl 0); omega
        subst h2
        simp only [cut]
        exact .sliceNil
      | sliceZero a x _ hac =>
        have hc0 : c = 0 := by rcases hac with h0 | h0 <;> simp at h0; exact h0
        subst hc0
        have hb := bounds2 (p := p) (ρ := ρ) (I := I) (isSlice := true) (len := 0) (cap := 0) 0 (Nat.le_refl _) hh hl hlo hhi w
        refine ⟨_, run_slice_slice hu hfe w hb, ?_⟩
        have h1 : h' = 0 := by have := obound_le hh (Nat.le_refl 0); omega
        subst h1
        have h2 : l = 0 := by have := obound_le hl (Nat.le_refl 0); omega
        subst h2
        simp only [cut]
        exact .sliceZero _ _ _ (.inr rfl)
      | slice a _ c' _ hm hh' hz ht hle hac =>
        have hcc : c = c' := hac c rfl
        subst hcc
        have hb := bounds2 (p := p) (ρ := ρ) (I := I) (isSlice := true) (len := len) (cap := c) c (Nat.le_refl _) hh hl hlo hhi w
        refine ⟨_, run_slice_slice hu hfe w hb, ?_⟩
        have hhc := obound_le hh hle
        have hlh := obound_le hl (Nat.zero_le _)
        have hzz : hm.z = fe.size := by rw [← hz, ← hsz]; exact sized_iff.1 hsized a rfl
        by_cases hcl : c - l = 0
        · have : c = l := by omega
          subst this
          have h1 : h' = c := by omega
          subst h1
          simp only [cut, Nat.sub_self, if_true]
          exact .sliceZero _ _ _ (.inr rfl)
        · rw [if_neg (by omega)]
          have : ¬ (some (c - l) = some 0) := by simp; omega
          simp only [cut, if_neg this, Option.map_some]
          exact slice_cut hh' hz hzz ht (by omega) (by omega) (fun k hk => by cases hk; rfl)
    · cases h
  · -- a slice whose capacity is not known
    rename_i e a len hk
    rw [hkind] at hk
    have hu := kind_slice hk
    have hmxv : mxv = none := by cases mxv with | none => rfl | some _ => exact hmx.elim
    subst hmxv
    simp only [Option.bind_eq_some_iff] at h
    obtain ⟨j, htj, h', hh, l, hl, h⟩ := h
    obtain ⟨fe, hfe, hsz, _⟩ := ti_info htj
    have hlh := obound_le hl (Nat.zero_le _)
    have hhl := obound_le hh (Nat.le_refl _)
    split at h
    · rename_i hsized
      cases h
      cases hx with
      | sliceZero a x _ hac =>
        have hb := bounds2 (p := p) (ρ := ρ) (I := I) (isSlice := true) (len := 0) (cap := 0) 0 (Nat.le_refl _) hh hl hlo hhi w
        refine ⟨_, run_slice_slice hu hfe w hb, ?_⟩
        have h1 : h' = 0 := by omega
        subst h1
        have h2 : l = 0 := by omega
        subst h2
        simp only [cut]
        exact .sliceZero _ _ _ (.inl rfl)
      | slice a _ c _ hm hh' hz ht hle hac =>
        have hb := bounds2 (p := p) (ρ := ρ) (I := I) (isSlice := true) (len := len) (cap := c) len hle hh hl hlo hhi w
        refine ⟨_, run_slice_slice hu hfe w hb, ?_⟩
        have hzz : hm.z = fe.size := by rw [← hz, ← hsz]; exact sized_iff.1 hsized a rfl
        have hnn : ¬ ((none : Option Nat) = some 0) := by simp
        simp only [cut, if_neg hnn, Option.map_some]
        by_cases hcl : c = l
        · subst hcl
          have h1 : h' = c := by omega
          subst h1
          simp only [if_true, Nat.sub_self]
          exact .sliceZero _ _ _ (.inl rfl)
        · rw [if_neg hcl]
          exact slice_cut hh' hz hzz ht (by omega) (by omega) (fun k hk => by cases hk)
    · cases h
  · -- a third bound
    rename_i e a len ac m0 hk
    rw [hkind] at hk
    have hu := kind_slice hk
    obtain ⟨mxv', rfl⟩ : ∃ m, mxv = some m := by cases mxv with | none => exact hmx.elim | some m => exact ⟨m, rfl⟩
    simp only [Option.bind_eq_some_iff] at h
    obtain ⟨j, htj, m, hm0, h', hh, l, hl, h⟩ := h
    obtain ⟨fe, hfe, hsz, _⟩ := ti_info htj
    cases hi with
    | none => simp [hbound] at hh
    | some hi' =>
      obtain ⟨hiv', rfl⟩ : ∃ m, hiv = some m := by cases hiv with | none => exact hhi.elim | some m => exact ⟨m, rfl⟩
      simp only [hbound] at hh
      have hlh := obound_le hl (Nat.zero_le _)
      have hhm := bound_le hh
      split at h
      · rename_i hsized
        cases h
        cases hx with
        | sliceNil =>
          have hb := bounds3 (p := p) (ρ := ρ) (I := I) (isSlice := true) (len := 0) (cap := 0) 0 (Nat.le_refl _) hm0 hh hl hlo hhi hmx w
          have hm1 := bound_le hm0
          simp at hm1
          subst hm1
          refine ⟨_, run_slice_slice hu hfe w hb, ?_⟩
          have h1 : h' = 0 := by omega
          subst h1
          have h2 : l = 0 := by omega
          subst h2
          simp only [cut]
          exact .sliceNil
        | sliceZero a x _ hac =>
          have hc0 : ac.getD 0 = 0 := by rcases hac with h0 | h0 <;> simp [h0]
          have hb := bounds3 (p := p) (ρ := ρ) (I := I) (isSlice := true) (len := 0) (cap := 0) 0 (Nat.le_refl _) (by rw [hc0] at hm0; exact hm0) hh hl hlo hhi hmx w
          have hm1 := bound_le hm0
          rw [hc0] at hm1
          have hm1 : m = 0 := by omega
          subst hm1
          refine ⟨_, run_slice_slice hu hfe w hb, ?_⟩
          have h1 : h' = 0 := by omega
          subst h1
          have h2 : l = 0 := by omega
          subst h2
          simp only [cut]
          exact .sliceZero _ _ _ (.inr rfl)
        | slice a _ c _ hm hh' hz ht hle hac =>
          have hgc : ac.getD len ≤ c := by cases ac with | none => exact hle | some k => have := hac k rfl; simp [this]
          have hb := bounds3 (p := p) (ρ := ρ) (I := I) (isSlice := true) (len := len) (cap := c) _ hgc hm0 hh hl hlo hhi hmx w
          have hm1 := bound_le hm0
          refine ⟨_, run_slice_slice hu hfe w hb, ?_⟩
          have hzz : hm.z = fe.size := by rw [← hz, ← hsz]; exact sized_iff.1 hsized a rfl
          by_cases hcl : m = l
          · subst hcl
            have h1 : h' = m := by omega
            subst h1
            simp only [cut, if_true, Nat.sub_self]
            exact .sliceZero _ _ _ (.inr rfl)
          · have : ¬ (some (m - l) = some 0) := by simp; omega
            simp only [cut, if_neg this, Option.map_some, if_neg hcl]
            exact slice_cut hh' hz hzz ht (by omega) (by omega) (fun k hk => by cases hk; rfl)
      · cases h
  · -- by value
    rename_i e z xs hk
    rw [hkind] at hk
    have hu := kind_slice hk
    have hmxv : mxv = none := by cases mxv with | none => rfl | some _ => exact hmx.elim
    subst hmxv
    simp only [Option.bind_eq_some_iff] at h
    obtain ⟨j, htj, h', hh, l, hl, h⟩ := h
    obtain ⟨fe, hfe, hsz, _⟩ := ti_info htj
    have hlh := obound_le hl (Nat.zero_le _)
    have hhl := obound_le hh (Nat.le_refl _)
    split at h
    · rename_i hz
      cases h
      obtain ⟨a, cap, rfl, hcap, hs, _⟩ := hx.isl_inv
      have hb := bounds2 (p := p) (ρ := ρ) (I := I) (isSlice := true) (len := xs.length) (cap := cap) xs.length hcap hh hl hlo hhi w
      refine ⟨_, run_slice_slice hu hfe w hb, ?_⟩
      by_cases hcl : cap = l
      · subst hcl
        rw [if_pos rfl]
        have h1 : h' = cap := by omega
        subst h1
        have := VR.isl_cut (l := h') (n := 0) (c := 0) hx (by omega) (Nat.le_refl 0)
        have he : ((xs.drop h').take (h' - h')) = [] := by simp
        rw [he, Nat.sub_self]
        exact .isl z [] a 0 #[] 0 (0, 0) (fun _ _ => undef) hs (by simp) (by simp) (by simp) (by simp) (by simp)
      · rw [if_neg hcl, Option.map_some, ← hsz, ← hz]
        exact VR.isl_cut hx (by omega) (by omega)
    · cases h
  · -- by value, with a third bound: nothing is left
    rename_i e z xs m0 hk
    rw [hkind] at hk
    have hu := kind_slice hk
    obtain ⟨mxv', rfl⟩ : ∃ m, mxv = some m := by cases mxv with | none => exact hmx.elim | some m => exact ⟨m, rfl⟩
    simp only [Option.bind_eq_some_iff] at h
    obtain ⟨j, htj, m, hm0, h', hh, l, hl, h⟩ := h
    obtain ⟨fe, hfe, hsz, _⟩ := ti_info htj
    cases hi with
    | none => simp [hbound] at hh
    | some hi' =>
      obtain ⟨hiv', rfl⟩ : ∃ m, hiv = some m := by cases hiv with | none => exact hhi.elim | some m => exact ⟨m, rfl⟩
      simp only [hbound] at hh
      cases h
      obtain ⟨a, cap, rfl, hcap, hs, _⟩ := hx.isl_inv
      have hm1 := bound_le hm0
      have hhm := bound_le hh
      have hlh := obound_le hl (Nat.zero_le _)
      have hb := bounds3 (p := p) (ρ := ρ) (I := I) (isSlice := true) (len := xs.length) (cap := cap) 0 (Nat.zero_le _) hm0 hh hl hlo hhi hmx w
      refine ⟨_, run_slice_slice hu hfe w hb, ?_⟩
      have h0 : m = 0 := by omega
      subst h0
      have h1 : h' = 0 := by omega
      subst h1
      have h2 : l = 0 := by omega
      subst h2
      exact .sliceZero _ _ _ (.inr rfl)
  · cases h

end Go.AM
