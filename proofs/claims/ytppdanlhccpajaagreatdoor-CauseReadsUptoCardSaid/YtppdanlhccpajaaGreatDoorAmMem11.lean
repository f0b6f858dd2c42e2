/- Equality by type. -/
import Derived.Test.YtppdanlhccpajaaGreatDoorAmMem10
import Derived.Laws.StructEq
set_option linter.unusedSimpArgs false
set_option linter.unusedVariables false
set_option linter.unusedSectionVars false
namespace Go.AM

variable {p : Program} {ρ : Emb} {I : Fix}

theorem stringish_false {a : Addr} {w : World} {cs : Array Value} {el : TypeId} (h : w.heap[a.block]? = some (.cells cs el (0, 0))) : (stringish a).run p w = .ok false w := by
  have h1 : w.frozen? a = false := by simp [World.frozen?, h]
  have h2 : w.shape? a.block = some (el, cs.size) := by simp [World.shape?, h]
  have h3 : w.frozen? ⟨a.block, cs.size, none⟩ = false := by simp [World.frozen?, h]
  simp [stringish, h1, h2, h3]

theorem noView_ok {a : Addr} {w : World} {cs : Array Value} {el : TypeId} (h : w.heap[a.block]? = some (.cells cs el (0, 0))) : (noView a).run p w = .ok () w := by
  have h2 : w.shape? a.block = some (el, cs.size) := by simp [World.shape?, h]
  simp [noView, viewAt, h2]

theorem run_sameAddr {a b : Addr} {w : World} {cs ds : Array Value} {el fl : TypeId} (ha : w.heap[a.block]? = some (.cells cs el (0, 0))) (hb : w.heap[b.block]? = some (.cells ds fl (0, 0))) (hne : a.block ≠ b.block) :
    (sameAddr a b).run p w = .ok false w := by
  have h1 : w.frozen? a = false := by simp [World.frozen?, ha]
  have h2 : w.shape? a.block = some (el, cs.size) := by simp [World.shape?, ha]
  have h3 : w.shape? b.block = some (fl, ds.size) := by simp [World.shape?, hb]
  have h4 : (a.block == b.block) = false := by simpa using hne
  have h5 : w.frozen? b = false := by simp [World.frozen?, hb]
  have hm : (mayBeOne a b).run p w = .ok false w := by
    simp [mayBeOne, stringish_false ha, stringish_false hb, h2, h3]
  simp [sameAddr, h4, h1, h5, noView_ok ha, noView_ok hb, hm]

theorem run_sameAddr_one {a b : Addr} {w : World} (h : a.block = b.block) : (sameAddr a b).run p w = .ok (a == b) w := by
  simp [sameAddr, h]

theorem aeqFields_sound {s : AS} {w : World} {eq : TypeId → AV → AV → Option Bool} {D : Nat} {xs ys : List AV} {xv yv : Array Value}
    (ih : ∀ (t : TypeId) (x y : AV) (xv yv : Value) (b : Bool), eq t x y = some b → VR ρ I x xv → VR ρ I y yv → (Op.equalIn D t xv yv).run p w = .ok b w)
    (hx : VRL ρ I xs xv.toList) (hy : VRL ρ I ys yv.toList) : ∀ (gs : List Field) (b : Bool),
    aeqFields (AProg.of p) eq xs ys (gs.map fun f => { type := f.type, offset := f.offset, blank := f.name == "_" }) = some b → (Op.eqFields D xv yv gs).run p w = .ok b w
  | [], b, h => by simp only [List.map_nil, aeqFields, Option.some.injEq] at h; subst h; rfl
  | g :: gs, b, h => by
    simp only [List.map_cons, aeqFields] at h
    by_cases hb : g.name = "_"
    · have hb' : (g.name == "_") = true := by simpa using hb
      rw [hb'] at h
      simp only [if_true] at h
      have := aeqFields_sound (s := s) ih hx hy gs b h
      simp only [Op.eqFields, hb, ne_eq, not_true_eq_false, if_false]
      exact this
    · have hb' : (g.name == "_") = false := by simpa using hb
      rw [hb'] at h
      simp only [Bool.false_eq_true, if_false] at h
      split at h
      case h_2 => cases h
      rename_i a c hpa hpc
      obtain ⟨av, ha1, ha2⟩ := part_sound hpa hx w
      obtain ⟨cv, hc1, hc2⟩ := part_sound hpc hy w
      split at h
      · rename_i heq
        have hr := ih g.type a c av cv true heq ha2 hc2
        have := aeqFields_sound (s := s) ih hx hy gs b h
        simp only [Op.eqFields, ne_eq, hb, not_false_eq_true, if_true, Sem.run_bind, ha1, hc1, hr, Result.andThen_ok, Bool.not_true, Bool.false_eq_true, if_false]
        exact this
      · rename_i heq
        have hr := ih g.type a c av cv false heq ha2 hc2
        cases h
        simp only [Op.eqFields, ne_eq, hb, not_false_eq_true, if_true, Sem.run_bind, ha1, hc1, hr, Result.andThen_ok, Bool.not_false]
        rfl
      · cases h

set_option maxHeartbeats 4000000 in
theorem aeq_sound {s : AS} {w : World} (sr : SR ρ I s.get w) : ∀ (d D : Nat) (t : TypeId) (x y : AV) (xv yv : Value) (b : Bool), d ≤ D → aeq (AProg.of p) s d t x y = some b → VR ρ I x xv → VR ρ I y yv →
    (Op.equalIn D t xv yv).run p w = .ok b w
  | 0, _, _, _, _, _, _, _, _, h, _, _ => by simp [aeq] at h
  | d + 1, 0, _, _, _, _, _, _, hd, _, _, _ => by omega
  | d + 1, D + 1, t, x, y, xv, yv, b, hd, h, hx, hy => by
    unfold aeq at h
    split at h
    case h_1 => cases h
    rename_i i hi
    obtain ⟨f, hf, _, _, hkind, hzero, hheld⟩ := ti_info hi
    split at h
    · rename_i a c hk
      rw [hkind] at hk
      cases h; cases hx.bool_inv; cases hy.bool_inv
      simp [Op.equalIn, run_underlying' (kind_bool hk)]
    · rename_i k q a q' c hk
      rw [hkind] at hk
      cases hx.int_inv; cases hy.int_inv
      split at h
      · rename_i hq; subst hq; cases h
        simp [Op.equalIn, run_underlying' (kind_int hk)]
      · cases h
    · rename_i a c hk
      rw [hkind] at hk
      cases h
      obtain ⟨ba, rfl, rfl⟩ := hx.str_inv
      obtain ⟨bb, rfl, rfl⟩ := hy.str_inv
      rw [← bytes_beq]
      simp [Op.equalIn, run_underlying' (kind_str hk)]
    · rename_i e c hk
      rw [hkind] at hk
      cases h; cases hx
      cases hy <;> simp [Op.equalIn, run_underlying' (kind_ptr hk)]
    · rename_i e a hk
      rw [hkind] at hk
      cases h; cases hy
      cases hx <;> simp [Op.equalIn, run_underlying' (kind_ptr hk)]
    · rename_i e a c hk
      rw [hkind] at hk
      split at h
      case h_2 => cases h
      rename_i j hj
      obtain ⟨fe, hfe, hsz, _⟩ := ti_info hj
      split at h
      case h_2 => cases h
      rename_i z1 es1 z2 es2 ho1 ho2
      split at h
      case isFalse => cases h
      rename_i hcond
      obtain ⟨hne, hoff1, hoff2⟩ := hcond
      cases h
      cases hx with
      | ptr _ hm1 hh1 =>
        cases hy with
        | ptr _ hm2 hh2 =>
          obtain ⟨hz1, cs, el, hc, _, _⟩ : RowAt ρ I w hm1 z1 es1 := sr.obj _ _ _ hh1 ho1
          obtain ⟨hz2, ds, fl, hdd, _, _⟩ : RowAt ρ I w hm2 z2 es2 := sr.obj _ _ _ hh2 ho2
          have hsize : ¬ (fe.size = 0) := by rw [← hsz]; exact hne
          have hrun : (Op.equalIn (D + 1) t (.pointer (some ⟨hm1.block, hm1.base + a.idx * hm1.z + a.off, none⟩)) (.pointer (some ⟨hm2.block, hm2.base + c.idx * hm2.z + c.off, none⟩))).run p w =
              (sameAddr ⟨hm1.block, hm1.base + a.idx * hm1.z + a.off, none⟩ ⟨hm2.block, hm2.base + c.idx * hm2.z + c.off, none⟩).run p w := by
            simp [Op.equalIn, run_underlying' (kind_ptr hk), run_sizeOf' hfe, hsize]
          rw [hrun]
          by_cases hid : a.id = c.id
          · rw [hid] at hh1
            rw [hh1] at hh2; cases hh2
            rw [run_sameAddr_one (a := ⟨hm1.block, hm1.base + a.idx * hm1.z + a.off, none⟩) (b := ⟨hm1.block, hm1.base + c.idx * hm1.z + c.off, none⟩) rfl]
            congr 1
            rw [Bool.eq_iff_iff, beq_iff_eq, decide_eq_true_iff]
            constructor
            · intro he
              have hoffs := (Addr.mk.inj he).2.1
              obtain ⟨i1, x1, o1⟩ := a
              obtain ⟨i2, x2, o2⟩ := c
              simp only at hoffs hid hoff1 hoff2
              subst hz1
              subst hid
              have hx12 : x1 = x2 := by
                rcases Nat.lt_trichotomy x1 x2 with h | h | h
                · have := Nat.mul_le_mul_right hm1.z h; rw [Nat.succ_mul] at this; omega
                · exact h
                · have := Nat.mul_le_mul_right hm1.z h; rw [Nat.succ_mul] at this; omega
              subst hx12
              have : o1 = o2 := by omega
              subst this
              rfl
            · rintro rfl; rfl
          · have hb := sr.apart _ _ _ _ hid hh1 hh2 (by rw [ho1]; simp) (by rw [ho2]; simp)
            rw [run_sameAddr (a := ⟨hm1.block, _, none⟩) (b := ⟨hm2.block, _, none⟩) hc hdd hb]
            congr 1
            symm
            rw [decide_eq_false_iff_not]
            intro he; exact hid (by rw [he])
    · rename_i e l c a n c2 hk
      rw [hkind] at hk
      cases h; cases hx
      cases hy <;> simp [Op.equalIn, run_underlying' (kind_slice hk)]
    · rename_i e a n c l c2 hk
      rw [hkind] at hk
      cases h
      cases hy
      cases hx <;> simp [Op.equalIn, run_underlying' (kind_slice hk)]
    · rename_i e z xs l c2 hk
      rw [hkind] at hk
      cases h
      cases hy
      obtain ⟨a, cap, rfl, _⟩ := hx.isl_inv
      simp [Op.equalIn, run_underlying' (kind_slice hk)]
    · rename_i e l c z xs hk
      rw [hkind] at hk
      cases h
      cases hx
      obtain ⟨a, cap, rfl, _⟩ := hy.isl_inv
      simp [Op.equalIn, run_underlying' (kind_slice hk)]
    · rename_i k e c hk
      rw [hkind] at hk
      cases h; cases hx
      cases hy <;> simp [Op.equalIn, run_underlying' (kind_map hk)]
    · rename_i k e a hk
      rw [hkind] at hk
      cases h; cases hy
      cases hx <;> simp [Op.equalIn, run_underlying' (kind_map hk)]
    · rename_i hk
      rw [hkind] at hk
      obtain ⟨q1, q2, q3, hu⟩ := kind_func hk
      cases h; cases hx; cases hy
      simp [Op.equalIn, run_underlying' hu]
    · rename_i hk
      rw [hkind] at hk
      obtain ⟨q1, q2, q3, hu⟩ := kind_func hk
      cases h; cases hy
      cases hx <;> simp [Op.equalIn, run_underlying' hu]
    · rename_i hk
      rw [hkind] at hk
      obtain ⟨q1, q2, q3, hu⟩ := kind_func hk
      cases h; cases hx
      cases hy <;> simp [Op.equalIn, run_underlying' hu]
    · rename_i hk
      rw [hkind] at hk
      obtain ⟨ms, hu, _⟩ := kind_iface hk
      cases h; cases hy
      cases hx
      simp [Op.equalIn, run_underlying' hu]
    · rename_i hk
      rw [hkind] at hk
      obtain ⟨ms, hu, _⟩ := kind_iface hk
      cases h; cases hx
      cases hy
      simp [Op.equalIn, run_underlying' hu]
    · rename_i fs xs ys hk
      rw [hkind] at hk
      obtain ⟨gs, hu, rfl⟩ := kind_struct hk
      split at h
      case isFalse => cases h
      rename_i hplain
      have hst : p.stoodInHeld t = false := by
        unfold plainTy at hplain
        rw [hi] at hplain
        simp only at hplain
        rw [hkind, hk] at hplain
        simp only [Bool.and_eq_true, Bool.not_eq_true'] at hplain
        rw [← hheld]; exact hplain.1
      obtain ⟨xvs, rfl, hxs⟩ := VR.agg_iff.1 hx
      obtain ⟨yvs, rfl, hys⟩ := VR.agg_iff.1 hy
      have hfo : p.fieldsOf t = gs := by unfold Program.fieldsOf; rw [hu]
      rw [run_equalIn_struct w D t xvs yvs (by rw [hfo]; exact hu) hst, hfo]
      exact aeqFields_sound (s := s) (fun t x y xv yv b h hx hy => aeq_sound sr d D t x y xv yv b (by omega) h hx hy) hxs hys gs.toList b h
    · cases h

theorem plainTy_guard : ∀ (d D : Nat) (t : TypeId), d ≤ D → plainTy (AProg.of p) d t = true → p.eqGuardType D t = false
  | 0, _, _, _, h => by simp [plainTy] at h
  | d + 1, 0, _, hd, _ => by omega
  | d + 1, D + 1, t, hd, h => by
    unfold plainTy at h
    split at h
    case h_1 => cases h
    rename_i i hi
    obtain ⟨f, hf, _, _, hkind, _, _⟩ := ti_info hi
    split at h
    · rename_i hk; rw [hkind] at hk; simp [Program.eqGuardType, kind_bool hk]
    · rename_i hk; rw [hkind] at hk; simp [Program.eqGuardType, kind_int hk]
    · rename_i hk; rw [hkind] at hk; simp [Program.eqGuardType, kind_str hk]
    · rename_i fs hk
      rw [hkind] at hk
      obtain ⟨gs, hu, rfl⟩ := kind_struct hk
      rw [Bool.and_eq_true, List.all_eq_true] at h
      simp only [Program.eqGuardType, hu]
      rw [Array.any_eq_false]
      intro k hk2
      have := h.2 { type := gs[k].type, offset := gs[k].offset, blank := gs[k].name == "_" } (List.mem_map.2 ⟨gs[k], by simp, rfl⟩)
      simp only at this
      have := plainTy_guard d D gs[k].type (by omega) this
      simp [this]
    · cases h

theorem aeq_nil_nil {P : AProg} {s : AS} {d : Nat} {t : TypeId} {r : Bool} (h : aeq P s d t .nilIface .nilIface = some r) : False := by
  cases d with
  | zero => simp [aeq] at h
  | succ d =>
    unfold aeq at h
    split at h
    · cases h
    · split at h <;> simp_all

theorem aeq_agg_plain {P : AProg} {s : AS} {d : Nat} {t : TypeId} {xs ys : List AV} {r : Bool} (h : aeq P s d t (.agg xs) (.agg ys) = some r) : plainTy P d t = true := by
  cases d with
  | zero => simp [aeq] at h
  | succ d =>
    unfold aeq at h
    split at h
    · cases h
    · split at h <;> simp_all

theorem run_eqGuard_eq {s : AS} {op : BinOp} {t : TypeId} {x y : Operand} {a b : AV} {r : Bool} {av bv : Value} {w : World} (hr : aeq (AProg.of p) s 6 t a b = some r) (ha : VR ρ I a av) (hb : VR ρ I b bv) :
    (eqGuard op t x y av bv).run p w = .ok () w := by
  have main : (match (generalizing := false) av, bv with
      | .nilIface, .nilIface => False
      | .agg _, .agg _ => p.eqGuardType p.depth t = false
      | _, _ => True) := by
    cases ha with
    | nilIface =>
      cases hb with
      | nilIface => exact aeq_nil_nil hr
      | _ => trivial
    | agg cs vs hl hv =>
      cases hb with
      | agg cs' vs' hl' hv' => exact plainTy_guard (p := p) 6 p.depth t (by unfold Program.depth Made.depth; omega) (aeq_agg_plain hr)
      | _ => trivial
    | _ => cases hb <;> trivial
  have other : ∀ op, (op = .eql ∨ op = .neq) → (eqGuard op t x y av bv).run p w = .ok () w := by
    intro op hop
    split at main
    · exact main.elim
    · rcases hop with rfl | rfl <;> simp [eqGuard, main]
    · rename_i h1 h2
      rcases hop with rfl | rfl <;> (clear ha hb; cases av <;> cases bv <;> first | rfl | exact (h1 rfl rfl).elim | exact (h2 _ _ rfl rfl).elim)
  by_cases hop : op = .eql ∨ op = .neq
  · exact other op hop
  · cases op <;> first | rfl | simp at hop

theorem run_eqGuard {s : AS} {op : BinOp} {t : TypeId} {x y : Operand} {a b v : AV} {av bv : Value} {w : World} (h : abin (AProg.of p) s op t a b = some v) (ha : VR ρ I a av) (hb : VR ρ I b bv) :
    (eqGuard op t x y av bv).run p w = .ok () w := by
  by_cases hi : (∃ k n k' m, a = .int k n ∧ b = .int k' m) ∨ (∃ s u, a = .str s ∧ b = .str u)
  · rcases hi with ⟨k, n, k', m, rfl, rfl⟩ | ⟨s1, u, rfl, rfl⟩
    · cases ha.int_inv; cases hb.int_inv
      cases op <;> rfl
    · obtain ⟨ba, rfl, _⟩ := ha.str_inv
      obtain ⟨bb, rfl, _⟩ := hb.str_inv
      cases op <;> rfl
  · unfold abin at h
    split at h
    · exact (hi (Or.inl ⟨_, _, _, _, rfl, rfl⟩)).elim
    · exact (hi (Or.inr ⟨_, _, rfl, rfl⟩)).elim
    · split at h
      · simp only [Option.map_eq_some_iff] at h
        obtain ⟨r, hr, _⟩ := h
        exact run_eqGuard_eq hr ha hb
      · simp only [Option.map_eq_some_iff] at h
        obtain ⟨r, hr, _⟩ := h
        exact run_eqGuard_eq hr ha hb
      · cases h

theorem binOp_eql {t : TypeId} {a b : AV} {av bv : Value} (ha : VR ρ I a av) (hb : VR ρ I b bv) (h1 : ∀ k n k' m, ¬ (a = .int k n ∧ b = .int k' m)) (h2 : ∀ s u, ¬ (a = .str s ∧ b = .str u)) :
    binOp .eql t av bv = (do pure (.bool (← Op.equal t av bv))) ∧ binOp .neq t av bv = (do pure (.bool (!(← Op.equal t av bv)))) := by
  cases ha <;> cases hb <;> first
    | (exact ⟨rfl, rfl⟩)
    | (exact absurd ⟨rfl, rfl⟩ (h1 _ _ _ _))
    | (exact absurd ⟨rfl, rfl⟩ (h2 _ _))

theorem abin_sound {s : AS} {op : BinOp} {t : TypeId} {a b v : AV} {av bv : Value} {w : World} (h : abin (AProg.of p) s op t a b = some v) (sr : SR ρ I s.get w) (ha : VR ρ I a av) (hb : VR ρ I b bv) :
    ∃ y, (binOp op t av bv).run p w = .ok y w ∧ VR ρ I v y := by
  unfold abin at h
  split at h
  · rename_i k n k' m
    cases ha.int_inv; cases hb.int_inv
    exact aint_sound t h w
  · exact astr_sound t h ha hb w
  · rename_i h1 h2
    have hbin := binOp_eql (t := t) ha hb (fun k n k' m he => h1 k n k' m he.1 he.2) (fun s u he => h2 s u he.1 he.2)
    split at h
    · simp only [Option.map_eq_some_iff] at h
      obtain ⟨r, hr, rfl⟩ := h
      have := aeq_sound sr 6 Op.maxDepth t a b av bv r (by unfold Op.maxDepth; omega) hr ha hb
      refine ⟨.bool r, ?_, .bool _⟩
      rw [hbin.1]
      simp [Op.equal, this]
    · simp only [Option.map_eq_some_iff] at h
      obtain ⟨r, hr, rfl⟩ := h
      have := aeq_sound sr 6 Op.maxDepth t a b av bv r (by unfold Op.maxDepth; omega) hr ha hb
      refine ⟨.bool !r, ?_, .bool _⟩
      rw [hbin.2]
      simp [Op.equal, this]
    · cases h

end Go.AM
