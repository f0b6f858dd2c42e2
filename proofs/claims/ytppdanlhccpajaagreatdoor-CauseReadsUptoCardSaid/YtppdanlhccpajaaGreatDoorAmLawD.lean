/- The program's reader of names: note. -/
import Derived.Test.YtppdanlhccpajaaGreatDoorAmLawC
set_option linter.unusedSimpArgs false
set_option linter.unusedVariables false
set_option linter.unusedSectionVars false
namespace Go.AM
open Go.Proofs
attribute [local congr] SV_congr SC_congr SO_congr SL_congr CQ_congr SB_congr SRd_congr SMk_congr SD_congr SDo_congr
set_option maxRecDepth 100000

theorem step_same {v v' : AV} {s s' : AS} (h : Step v s v' s') (hn : own v = none) : Same s s' := ⟨h.next, fun id hid => h.keep id hid (by rw [hn]; simp)⟩

theorem names_nil (s : AS) : Names s (.slice none 0 (some 0)) [] := .inl ⟨rfl, rfl⟩

theorem refReads_ev {n : Nat} {e : Ex} (he : e.size ≤ n) {yh : YieldF} {s : AS} (hb : e.size ≤ 2000000) :
    CQ (ev (n + 4) yh 26 [e.av] s) fun r s' => Names s' r (rd [] e) ∧ Same s s' := by
  rw [ev_succ (by decide)]
  refine evCall1_wp fn26 rfl ?_
  show SC P0 (ev (n + 3)) FU yh _ ⟨initTmps 7 _, [], 0⟩ s _
  rw [initTmps_of (by simp)]
  have hl := ex_whole (AS.get_new_self s (.arr e.av.cells.length [e.av]))
  have hs1 : Same s (s.new (.arr e.av.cells.length [e.av])).2 := ⟨Nat.le_succ _, fun id hid => AS.get_new_ne _ _ (by omega)⟩
  simp only [SC_seq, SC_block, SC_loop, SC_ret, SC_exit, SC_skip, SC_region, SC_cond, SO_nil, SO_cons, SV_val, SV_skip, SV_enter, SOK_app, NormK_app, SeqK_normal, SeqK_exit, SeqK_ret, BlkK_normal, BlkK_exit, BlkK_ret, RndK_normal, RndK_exit, RndK_ret, CallK_app, awanted_none, if_true, if_false, evOp_move, evOp_assign, evOp_load, evOp_store, evOp_fieldAddr, evOp_field, evOp_indexAddr, evOp_index, evOp_lookup, evOp_mapUpdate, evOp_unOp, evOp_slice, evOp_nilCheck, evOp_box, evOp_alloc, evOp_makeMap, evOp_pick, evOp_extract, evOp_build, evOp_buildSlice, evOp_bin, evOp_call, evOp_len, evOp_min, evOp_append, aeval_tmp, aeval_int, aeval_bool, aeval_nil, aopt, nilR_ptr, pickR_bool, extrR_tuple, binR_int, binR_str, lift_some, Option.bind_some, Option.map_some, Option.bind_eq_bind, put_some, put_none, ATmps.get_set, true_and, false_and, and_true, and_false, ATmps.n_set, new_n, initGo, mapOpt, SB_true, SB_false, SD_nil, SD_cons, SDo_some, SDK_app, SRd_val, SMk_pure, SMk_new, unturned_nil, acts, reads, AS.get_bump, AS.next_bump, List.getElem?_cons_zero, List.getElem?_cons_succ, Bool.false_eq_true, aint_add, aint_sub, aint_lss, aint_leq, aint_gtr, aint_geq, aint_eql, aint_neq, astr_eql, astr_neq, ne_eq, not_false_eq_true, not_true_eq_false, reduceCtorEq, Nat.reduceLT, Nat.reduceEqDiff, Int.reduceEq, Int.reduceLT, awanted_some, ayielded, beq_false, beq_true, Bool.not_true, Bool.not_false, decide_true, decide_false, List.map_cons, List.map_nil, tupled, Nat.zero_lt_succ, ↓reduceIte, List.length_cons, List.length_nil, Nat.reduceAdd, hl, callee43]
  with_reducible refine CQ.mono (reads_ev n e he _ _ _ [] (names_nil _) (by simpa using hb)) ?_
  intro r s' g
  have g1 := g.1
  have g2 := g.2
  clear g
  simp only [SC_seq, SC_block, SC_loop, SC_ret, SC_exit, SC_skip, SC_region, SC_cond, SO_nil, SO_cons, SV_val, SV_skip, SV_enter, SOK_app, NormK_app, SeqK_normal, SeqK_exit, SeqK_ret, BlkK_normal, BlkK_exit, BlkK_ret, RndK_normal, RndK_exit, RndK_ret, CallK_app, awanted_none, if_true, if_false, evOp_move, evOp_assign, evOp_load, evOp_store, evOp_fieldAddr, evOp_field, evOp_indexAddr, evOp_index, evOp_lookup, evOp_mapUpdate, evOp_unOp, evOp_slice, evOp_nilCheck, evOp_box, evOp_alloc, evOp_makeMap, evOp_pick, evOp_extract, evOp_build, evOp_buildSlice, evOp_bin, evOp_call, evOp_len, evOp_min, evOp_append, aeval_tmp, aeval_int, aeval_bool, aeval_nil, aopt, nilR_ptr, pickR_bool, extrR_tuple, binR_int, binR_str, lift_some, Option.bind_some, Option.map_some, Option.bind_eq_bind, put_some, put_none, ATmps.get_set, true_and, false_and, and_true, and_false, ATmps.n_set, new_n, initGo, mapOpt, SB_true, SB_false, SD_nil, SD_cons, SDo_some, SDK_app, SRd_val, SMk_pure, SMk_new, unturned_nil, acts, reads, AS.get_bump, AS.next_bump, List.getElem?_cons_zero, List.getElem?_cons_succ, Bool.false_eq_true, aint_add, aint_sub, aint_lss, aint_leq, aint_gtr, aint_geq, aint_eql, aint_neq, astr_eql, astr_neq, ne_eq, not_false_eq_true, not_true_eq_false, reduceCtorEq, Nat.reduceLT, Nat.reduceEqDiff, Int.reduceEq, Int.reduceLT, awanted_some, ayielded, beq_false, beq_true, Bool.not_true, Bool.not_false, decide_true, decide_false, List.map_cons, List.map_nil, tupled, Nat.zero_lt_succ, ↓reduceIte, List.length_cons, List.length_nil, Nat.reduceAdd]
  refine RetK_tmps (l := [2]) _ (.inr rfl) rfl ?_
  simp only [SC_seq, SC_block, SC_loop, SC_ret, SC_exit, SC_skip, SC_region, SC_cond, SO_nil, SO_cons, SV_val, SV_skip, SV_enter, SOK_app, NormK_app, SeqK_normal, SeqK_exit, SeqK_ret, BlkK_normal, BlkK_exit, BlkK_ret, RndK_normal, RndK_exit, RndK_ret, CallK_app, awanted_none, if_true, if_false, evOp_move, evOp_assign, evOp_load, evOp_store, evOp_fieldAddr, evOp_field, evOp_indexAddr, evOp_index, evOp_lookup, evOp_mapUpdate, evOp_unOp, evOp_slice, evOp_nilCheck, evOp_box, evOp_alloc, evOp_makeMap, evOp_pick, evOp_extract, evOp_build, evOp_buildSlice, evOp_bin, evOp_call, evOp_len, evOp_min, evOp_append, aeval_tmp, aeval_int, aeval_bool, aeval_nil, aopt, nilR_ptr, pickR_bool, extrR_tuple, binR_int, binR_str, lift_some, Option.bind_some, Option.map_some, Option.bind_eq_bind, put_some, put_none, ATmps.get_set, true_and, false_and, and_true, and_false, ATmps.n_set, new_n, initGo, mapOpt, SB_true, SB_false, SD_nil, SD_cons, SDo_some, SDK_app, SRd_val, SMk_pure, SMk_new, unturned_nil, acts, reads, AS.get_bump, AS.next_bump, List.getElem?_cons_zero, List.getElem?_cons_succ, Bool.false_eq_true, aint_add, aint_sub, aint_lss, aint_leq, aint_gtr, aint_geq, aint_eql, aint_neq, astr_eql, astr_neq, ne_eq, not_false_eq_true, not_true_eq_false, reduceCtorEq, Nat.reduceLT, Nat.reduceEqDiff, Int.reduceEq, Int.reduceLT, awanted_some, ayielded, beq_false, beq_true, Bool.not_true, Bool.not_false, decide_true, decide_false, List.map_cons, List.map_nil, tupled, Nat.zero_lt_succ, ↓reduceIte, List.length_cons, List.length_nil, Nat.reduceAdd]
  exact ⟨g1, hs1.trans (step_same g2 rfl)⟩

/-- What was seen, as a map. -/
def seen (l : List (List Nat)) : List (AV × AV) := l.map fun x => (.str x, .int .i64 1)
theorem afind_seen (x : List Nat) : ∀ (l : List (List Nat)) (i : Nat), (x ∈ l → ∃ j, afind (.str x) (seen l) i = some (some (j, .int .i64 1))) ∧ (x ∉ l → afind (.str x) (seen l) i = some none)
  | [], i => ⟨fun h => (by cases h), fun _ => rfl⟩
  | y :: l, i => by
    have ih := afind_seen x l (i + 1)
    by_cases hxy : x = y
    · subst hxy
      refine ⟨fun _ => ⟨i, ?_⟩, fun h => absurd (by simp) h⟩
      simp [seen, afind, keyEq]
    · have hne : (x == y) = false := by simpa using hxy
      constructor
      · intro h
        have hl : x ∈ l := by simpa [hxy] using h
        obtain ⟨j, hj⟩ := ih.1 hl
        exact ⟨j, by simpa [seen, afind, keyEq, hne] using hj⟩
      · intro h
        have hl : x ∉ l := fun hl => h (by simp [hl])
        simpa [seen, afind, keyEq, hne] using ih.2 hl

/-- The reader: its names and what it has seen. -/
structure RdAt (s : AS) (rid mid : Nat) (nv : AV) (l : List (List Nat)) : Prop where
  box : s.get rid = some (.arr 2 [.agg [nv, .map (some mid)]])
  map : s.get mid = some (.map (seen l))
  names : Names s nv l
  rlt : rid < s.next
  mlt : mid < s.next
  ne : rid ≠ mid
  ownr : own nv ≠ some rid
  ownm : own nv ≠ some mid

structure RStep (rid mid : Nat) (nv : AV) (s : AS) (nv' : AV) (s' : AS) : Prop where
  next : s.next ≤ s'.next
  keep : ∀ id, id < s.next → id ≠ rid → id ≠ mid → own nv ≠ some id → s'.get id = s.get id
  own : ∀ id, own nv' = some id → own nv = some id ∨ s.next ≤ id

theorem RStep.refl (rid mid : Nat) (nv : AV) (s : AS) : RStep rid mid nv s nv s := ⟨Nat.le_refl _, fun _ _ _ _ _ => rfl, fun _ h => .inl h⟩
theorem RStep.of_same {rid mid : Nat} {nv : AV} {s s' : AS} (h : Same s s') : RStep rid mid nv s nv s' := ⟨h.1, fun id hid _ _ _ => h.2 id hid, fun _ h => .inl h⟩
theorem RStep.trans {rid mid : Nat} {v v1 v2 : AV} {s s1 s2 : AS} (a : RStep rid mid v s v1 s1) (b : RStep rid mid v1 s1 v2 s2) : RStep rid mid v s v2 s2 :=
  ⟨Nat.le_trans a.next b.next, fun id hid h1 h2 ho => (b.keep id (Nat.lt_of_lt_of_le hid a.next) h1 h2 fun h => by
      rcases a.own id h with h | h
      · exact ho h
      · omega).trans (a.keep id hid h1 h2 ho), fun id h => by
      rcases b.own id h with h | h
      · exact a.own id h
      · have := a.next; exact .inr (by omega)⟩
theorem RdAt.same {s s' : AS} {rid mid : Nat} {nv : AV} {l : List (List Nat)} (h : RdAt s rid mid nv l) (k : Same s s') : RdAt s' rid mid nv l :=
  ⟨(k.2 _ h.rlt).trans h.box, (k.2 _ h.mlt).trans h.map, h.names.same k, Nat.lt_of_lt_of_le h.rlt k.1, Nat.lt_of_lt_of_le h.mlt k.1, h.ne, h.ownr, h.ownm⟩

theorem rd_fa (id k : Nat) (hk : k = 0 ∨ k = 1) : afieldAddr P0 90 (.ptr (some ⟨id, 0, 0⟩)) k = some (.ptr (some ⟨id, 0, k⟩)) := by
  rcases hk with rfl | rfl <;> simp [afieldAddr, ti90, ti49, ti88]
theorem rd_map {s : AS} {rid mid : Nat} {nv : AV} (h : s.get rid = some (.arr 2 [.agg [nv, .map (some mid)]])) : aload P0 s 88 (.ptr (some ⟨rid, 0, 1⟩)) = some (.map (some mid)) := by
  simp [aload, h, AV.cells, partM, part, ti88, TI.isAgg]
theorem rd_names {s : AS} {rid mid : Nat} {nv : AV} (h : s.get rid = some (.arr 2 [.agg [nv, .map (some mid)]])) : aload P0 s 49 (.ptr (some ⟨rid, 0, 0⟩)) = some nv := by
  simp [aload, h, AV.cells, partM, part, ti49, TI.isAgg]
theorem rd_lookup {s : AS} {mid : Nat} {l : List (List Nat)} (x : List Nat) (h : s.get mid = some (.map (seen l))) : alookup P0 s 88 (.map (some mid)) (.str x) false = some (.int .i64 (if x ∈ l then 1 else 0)) := by
  have hf := afind_seen x l 0
  by_cases hx : x ∈ l
  · obtain ⟨j, hj⟩ := hf.1 hx
    simp [alookup, ti88, plainKey, ti9, entriesOf, h, hj, okPair, hx]
  · have hj := hf.2 hx
    simp [alookup, ti88, plainKey, ti9, ti3, entriesOf, h, hj, okPair, hx]
theorem rd_update {s : AS} {mid : Nat} {l : List (List Nat)} {x : List Nat} (h : s.get mid = some (.map (seen l))) (hx : x ∉ l) : amapUpdate P0 s 88 (.map (some mid)) (.str x) (.int .i64 1) = some (s.put mid (.map (seen (l ++ [x])))) := by
  have hj := (afind_seen x l 0).2 hx
  simp [amapUpdate, ti88, plainKey, ti9, h, hj]
  simp [seen]
theorem names_atom {s : AS} {v : AV} {l : List (List Nat)} (h : Names s v l) : v.cells = [v] ∧ v.atom = true := by
  rcases h with ⟨_, rfl⟩ | ⟨_, rfl, _⟩ <;> exact ⟨rfl, rfl⟩
theorem rd_store {s : AS} {rid mid : Nat} {nv v : AV} (h : s.get rid = some (.arr 2 [.agg [nv, .map (some mid)]])) (hv : v.cells = [v] ∧ v.atom = true) :
    astore P0 s 49 (.ptr (some ⟨rid, 0, 0⟩)) v = some (s.put rid (.arr 2 [.agg [v, .map (some mid)]])) := by
  have hc : ∀ cs : List AV, (AV.agg cs).cells = cs := fun _ => rfl
  simp [astore, h, ti49, hv.1, hv.2, hc, stored, splice]

theorem note_ev {n : Nat} {yh : YieldF} {s : AS} {rid mid : Nat} {nv : AV} {l : List (List Nat)} {x : List Nat} (h : RdAt s rid mid nv l) (hb : l.length ≤ 2000000) :
    CQ (ev (n + 1) yh 71 [.ptr (some ⟨rid, 0, 0⟩), .str x] s) fun _ s' => ∃ nv', RdAt s' rid mid nv' (ins l x) ∧ RStep rid mid nv s nv' s' := by
  rw [ev_succ (by decide)]
  refine evCall1_wp fn71 rfl ?_
  show SC P0 (ev n) FU yh _ ⟨initTmps 26 _, [], 0⟩ s _
  rw [initTmps_of (by simp)]
  have fa0 := rd_fa rid 0 (.inl rfl)
  have fa1 := rd_fa rid 1 (.inr rfl)
  have lm := rd_map h.box
  have ln := rd_names h.box
  have lk := rd_lookup x h.map
  by_cases hx : x ∈ l
  · rw [if_pos hx] at lk
    simp only [SC_seq, SC_block, SC_loop, SC_ret, SC_exit, SC_skip, SC_region, SC_cond, SO_nil, SO_cons, SV_val, SV_skip, SV_enter, SOK_app, NormK_app, SeqK_normal, SeqK_exit, SeqK_ret, BlkK_normal, BlkK_exit, BlkK_ret, RndK_normal, RndK_exit, RndK_ret, CallK_app, awanted_none, if_true, if_false, evOp_move, evOp_assign, evOp_load, evOp_store, evOp_fieldAddr, evOp_field, evOp_indexAddr, evOp_index, evOp_lookup, evOp_mapUpdate, evOp_unOp, evOp_slice, evOp_nilCheck, evOp_box, evOp_alloc, evOp_makeMap, evOp_pick, evOp_extract, evOp_build, evOp_buildSlice, evOp_bin, evOp_call, evOp_len, evOp_min, evOp_append, aeval_tmp, aeval_int, aeval_bool, aeval_nil, aopt, nilR_ptr, pickR_bool, extrR_tuple, binR_int, binR_str, lift_some, Option.bind_some, Option.map_some, Option.bind_eq_bind, put_some, put_none, ATmps.get_set, true_and, false_and, and_true, and_false, ATmps.n_set, new_n, initGo, mapOpt, SB_true, SB_false, SD_nil, SD_cons, SDo_some, SDK_app, SRd_val, SMk_pure, SMk_new, unturned_nil, acts, reads, AS.get_bump, AS.next_bump, List.getElem?_cons_zero, List.getElem?_cons_succ, Bool.false_eq_true, aint_add, aint_sub, aint_lss, aint_leq, aint_gtr, aint_geq, aint_eql, aint_neq, astr_eql, astr_neq, ne_eq, not_false_eq_true, not_true_eq_false, reduceCtorEq, Nat.reduceLT, Nat.reduceEqDiff, Int.reduceEq, Int.reduceLT, awanted_some, ayielded, beq_false, beq_true, Bool.not_true, Bool.not_false, decide_true, decide_false, List.map_cons, List.map_nil, tupled, Nat.zero_lt_succ, ↓reduceIte, List.length_cons, List.length_nil, Nat.reduceAdd, fa0, fa1, lm, lk]
    refine RetK_tmps (l := []) _ (.inl rfl) (by rfl) ?_
    unfold ins
    rw [if_pos hx]
    exact ⟨nv, h, RStep.refl _ _ _ _⟩
  · rw [if_neg hx] at lk
    have up := rd_update h.map hx
    -- the states
    obtain ⟨s1, e1⟩ : ∃ z, z = s.put mid (.map (seen (l ++ [x]))) := ⟨_, rfl⟩
    rw [← e1] at up
    have g1 : s1.get rid = some (.arr 2 [.agg [nv, .map (some mid)]]) := by rw [e1]; exact (AS.get_put_ne _ _ h.ne).trans h.box
    have nx1 : s1.next = s.next := by rw [e1]; rfl
    have lm1 := rd_map g1
    have ln1 := rd_names g1
    have hk1 : ∀ id, id ≠ mid → s1.get id = s.get id := fun id hid => by rw [e1]; exact AS.get_put_ne _ _ hid
    have gm1 : s1.get mid = some (.map (seen (l ++ [x]))) := by rw [e1]; exact AS.get_put_self _ _ _
    obtain ⟨s2, e2⟩ : ∃ z, z = (s1.new (.arr 1 [.str x])).2 := ⟨_, rfl⟩
    have hk2 : ∀ id, id < s.next → s2.get id = s1.get id := fun id hid => by rw [e2]; exact AS.get_new_ne _ _ (by rw [nx1]; omega)
    have hn2 : Names s2 nv l := by
      rcases h.names with hh | ⟨id, q1, q2, q3⟩
      · exact .inl hh
      · refine .inr ⟨id, q1, ?_, by rw [e2]; show id < s1.next + 1; rw [nx1]; omega⟩
        rw [hk2 id q3, hk1 id fun e => h.ownm (by rw [q1]; simp [own, e])]
        exact q2
    obtain ⟨v', s3, happ, hnm, hst⟩ := names_append (x := x) (y := s1.next) hn2 hb (by rw [e2]; exact AS.get_new_self s1 (.arr 1 [.str x]))
    have hs2 : s2.next = s.next + 1 := by rw [e2]; show s1.next + 1 = _; rw [nx1]
    have g3 : s3.get rid = some (.arr 2 [.agg [nv, .map (some mid)]]) := by
      rw [hst.keep rid (by rw [hs2]; have := h.rlt; omega) h.ownr, hk2 _ h.rlt]; exact g1
    have m3 : s3.get mid = some (.map (seen (l ++ [x]))) := by
      rw [hst.keep mid (by rw [hs2]; have := h.mlt; omega) h.ownm, hk2 _ h.mlt]; exact gm1
    have hsto := rd_store g3 (names_atom hnm)
    have bs : abuildSlice P0 s1 49 1 [(0, .str x)] = some (.slice (some ⟨s1.next, 0, 1⟩) 1 (some 1), s2) := by rw [e2]; exact buildStr
    simp only [SC_seq, SC_block, SC_loop, SC_ret, SC_exit, SC_skip, SC_region, SC_cond, SO_nil, SO_cons, SV_val, SV_skip, SV_enter, SOK_app, NormK_app, SeqK_normal, SeqK_exit, SeqK_ret, BlkK_normal, BlkK_exit, BlkK_ret, RndK_normal, RndK_exit, RndK_ret, CallK_app, awanted_none, if_true, if_false, evOp_move, evOp_assign, evOp_load, evOp_store, evOp_fieldAddr, evOp_field, evOp_indexAddr, evOp_index, evOp_lookup, evOp_mapUpdate, evOp_unOp, evOp_slice, evOp_nilCheck, evOp_box, evOp_alloc, evOp_makeMap, evOp_pick, evOp_extract, evOp_build, evOp_buildSlice, evOp_bin, evOp_call, evOp_len, evOp_min, evOp_append, aeval_tmp, aeval_int, aeval_bool, aeval_nil, aopt, nilR_ptr, pickR_bool, extrR_tuple, binR_int, binR_str, lift_some, Option.bind_some, Option.map_some, Option.bind_eq_bind, put_some, put_none, ATmps.get_set, true_and, false_and, and_true, and_false, ATmps.n_set, new_n, initGo, mapOpt, SB_true, SB_false, SD_nil, SD_cons, SDo_some, SDK_app, SRd_val, SMk_pure, SMk_new, unturned_nil, acts, reads, AS.get_bump, AS.next_bump, List.getElem?_cons_zero, List.getElem?_cons_succ, Bool.false_eq_true, aint_add, aint_sub, aint_lss, aint_leq, aint_gtr, aint_geq, aint_eql, aint_neq, astr_eql, astr_neq, ne_eq, not_false_eq_true, not_true_eq_false, reduceCtorEq, Nat.reduceLT, Nat.reduceEqDiff, Int.reduceEq, Int.reduceLT, awanted_some, ayielded, beq_false, beq_true, Bool.not_true, Bool.not_false, decide_true, decide_false, List.map_cons, List.map_nil, tupled, Nat.zero_lt_succ, ↓reduceIte, List.length_cons, List.length_nil, Nat.reduceAdd, fa0, fa1, lm, ln, lk, lm1, ln1, up, bs, happ, hsto]
    refine RetK_tmps (l := []) _ (.inl rfl) (by rfl) ?_
    unfold ins
    rw [if_neg hx]
    have ho : ∀ id, own v' = some id → id ≠ rid ∧ id ≠ mid := fun id hid => by
      rcases hst.own id hid with e | e
      · exact ⟨fun e2 => h.ownr (by rw [e, e2]), fun e2 => h.ownm (by rw [e, e2])⟩
      · have := h.rlt; have := h.mlt; rw [hs2] at e; exact ⟨by omega, by omega⟩
    have hnx := hst.next
    rw [hs2] at hnx
    refine ⟨v', ⟨AS.get_put_self _ _ _, (AS.get_put_ne _ _ (fun e => h.ne e.symm)).trans m3, ?_, ?_, ?_, h.ne, fun e => (ho _ e).1 rfl, fun e => (ho _ e).2 rfl⟩, ⟨?_, fun id hid h1 h2 h3 => ?_, fun id hid => ?_⟩⟩
    · rcases hnm with hh | ⟨id, e1, e2, e3⟩
      · exact .inl hh
      · refine .inr ⟨id, e1, ?_, e3⟩
        rw [AS.get_put_ne _ _ (ho id (by rw [e1]; rfl)).1]; exact e2
    · have := h.rlt; show rid < s3.next; omega
    · have := h.mlt; show mid < s3.next; omega
    · show s.next ≤ s3.next; omega
    · rw [AS.get_put_ne _ _ h1, hst.keep id (by rw [hs2]; omega) h3, hk2 id hid, hk1 id h2]
    · rcases hst.own id hid with e | e
      · exact .inl e
      · rw [hs2] at e; exact .inr (by omega)

end Go.AM
