/- make, append, copy. -/
import Derived.Test.YtppdanlhccpajaaGreatDoorAmMem3
set_option linter.unusedSimpArgs false
set_option linter.unusedVariables false
set_option linter.unusedSectionVars false
namespace Go.AM

variable {p : Program} {ρ : Emb} {I : Fix}

theorem wrap_i64 {n : Int} (h0 : -9223372036854775808 ≤ n) (h1 : n ≤ 9223372036854775807) : IntKind.i64.wrap n = n := by
  have hb : IntKind.i64.bits = 64 := rfl
  have hs : IntKind.i64.signed = true := rfl
  unfold IntKind.wrap
  simp only [hb, hs, Bool.true_and]
  have e1 : (2 : Int) ^ 64 = 18446744073709551616 := by decide
  have e2 : (2 : Int) ^ (64 - 1) = 9223372036854775808 := by decide
  rw [e1, e2]
  by_cases hn : 0 ≤ n
  · have : n % 18446744073709551616 = n := Int.emod_eq_of_lt hn (by omega)
    rw [this]
    rw [if_neg (by simp; omega)]
  · have : n % 18446744073709551616 = n + 18446744073709551616 := by omega
    rw [this, if_pos (by simp; omega)]
    omega

theorem amakeSlice_sound {s s' : AS} {t : TypeId} {lv cv : AV} {lx cx : Value} {v : AV} {w : World}
    (h : amakeSlice (AProg.of p) s t lv cv = some (v, s')) (sr : SR ρ I s.get w) (hl : VR ρ I lv lx) (hc : VR ρ I cv cx) (hfree : ∀ id, s.next ≤ id → id < s'.next → ρ id = none) :
    ValOk p ρ I s w (Instr.makeSlice t lx cx) v s' := by
  unfold amakeSlice at h
  simp only [Option.bind_eq_bind, Option.bind_eq_some_iff] at h
  obtain ⟨i, hi, h⟩ := h
  obtain ⟨f, hf, _, _, hkind, _, _⟩ := ti_info hi
  split at h
  case h_2 => cases h
  rename_i e hk
  rw [hkind] at hk
  have hu := kind_slice hk
  simp only [Option.bind_eq_some_iff] at h
  obtain ⟨j, hj, h⟩ := h
  split at h
  case h_2 => cases h
  rename_i k l
  cases hl.int_inv
  split at h
  case h_2 => cases h
  rename_i k' c
  cases hc.int_inv
  split at h
  case isTrue => cases h
  rename_i hlim
  simp only [Option.bind_eq_some_iff] at h
  obtain ⟨z, hz, h⟩ := h
  split at h
  case isTrue => cases h
  rename_i hzl
  cases h
  obtain ⟨fe, x, hfe, hfz, hzx⟩ := zero_of (ρ := ρ) (I := I) hj hz
  obtain ⟨fe', hfe', hsz, hby, _⟩ := ti_info hj
  rw [hfe] at hfe'; cases hfe'
  simp only [not_or] at hlim
  obtain ⟨h0, h1, h2, h3, h4⟩ := hlim
  have hpos : 0 < j.size := by omega
  have hzl' : z.cells.length = j.size := by simpa using hzl
  have hxs : x.cells.size = j.size := by have := hzx.cells.1; simp at this; omega
  obtain ⟨cn, rfl⟩ := Int.eq_ofNat_of_zero_le (show 0 ≤ c by omega)
  obtain ⟨ln, rfl⟩ := Int.eq_ofNat_of_zero_le (show 0 ≤ l by omega)
  have hrep : ∀ e ∈ List.replicate cn z, e.cells.length = j.size := by intro e he; rw [(List.mem_replicate.1 he).2]; exact hzl'
  have hcs0 := range_map_mod x.cells cn j.size hxs hpos
  have hv0 : VRL ρ I ((List.replicate cn z).flatMap AV.cells) ((Array.range (cn * j.size)).map (x.cells[· % x.cells.size]!)).toList := by
    rw [flatMap_replicate_cells, hcs0]; exact hzx.cells.flatten_replicate cn
  let cs := (Array.range (cn * j.size)).map (x.cells[· % x.cells.size]!)
  have hal := alloc_row (p := p) (el := e) sr (hfree s.next (Nat.le_refl _) (Nat.lt_succ_self _)) (z := j.size) (es := List.replicate cn z) (cs := cs) (L := cs.toList) (suf := []) (by simp) hrep hv0
  have hcsize : cs.size = cn * j.size := by simp [cs]
  refine ⟨by simp [AS.new], stay_new _ _, .slice (some ⟨w.heap.size, 0, none⟩) ln cn, _, _, I, ?_, (by exact hal.2), ?_⟩
  · have hw1 : IntKind.i64.wrap (cn : Int) = cn := wrap_i64 (by omega) (by omega)
    have hw2 : IntKind.i64.wrap (ln : Int) = ln := wrap_i64 (by omega) (by omega)
    have e47 : (2 : Int) ^ 47 = 140737488355328 := by decide
    have e48 : (2 : Int) ^ 48 = 281474976710656 := by decide
    have hbig : ¬ ((fe.bytes : Int) * (cn : Int) > 2 ^ 48) := by rw [← hby]; omega
    have hcn : ¬ ((cn : Int) < 0) := by omega
    have hln : ¬ ((ln : Int) < 0) := by omega
    have hlc : ¬ ((ln : Int) > (cn : Int)) := by omega
    have hbig' : decide ((fe.bytes : Int) * (cn : Int) > 2 ^ 48) = false := decide_eq_false hbig
    simp only [Instr.makeSlice, Sem.run_bind, run_underlying' hu, Result.andThen_ok, asInt, asIntOf, Sem.run_pure, run_typeInfo' hfe, hw1, hw2, hbig', decide_eq_false hcn, decide_eq_false hln, decide_eq_false hlc,
      Bool.or_self, Bool.false_eq_true, if_false, run_askRoom, Int.toNat_natCast, run_sizeOf' hfe, Sem.run_ite, run_zeroValue' hfe hfz]
    rw [← hsz]
    by_cases hc0 : cn * j.size = 0
    · rw [if_pos hc0]
      have : cs = #[] := Array.eq_empty_of_size_eq_zero (by rw [hcsize]; exact hc0)
      have h5 : (Array.range (cn * j.size)).map (fun x => (#[] : Array Value)[x % (#[] : Array Value).size]!) = cs := by rw [this, hc0]; simp
      rw [h5, hal.1]
      rfl
    · rw [if_neg hc0]
      rw [show (Array.range (cn * j.size)).map (x.cells[· % x.cells.size]!) = cs from rfl, hal.1]
      rfl
  · simp only [Int.toNat_natCast]
    exact slice_new _ _ _ _ _ _ _ (by rw [hcsize]; omega) (by omega) (fun k hk => by cases hk; rfl)

end Go.AM
