/- The law CauseReads: it comes to true. -/
import Derived.Test.YtppdanlhccpajaaGreatDoorAmLawE
set_option linter.unusedSimpArgs false
set_option linter.unusedVariables false
set_option linter.unusedSectionVars false
namespace Go.AM
open Go.Proofs
attribute [local congr] SV_congr SC_congr SO_congr SL_congr CQ_congr SB_congr SRd_congr SMk_congr SD_congr SDo_congr
set_option maxRecDepth 100000

theorem fn21 : (AProg.of Tryz.prog).fn 21 = some Tryz.f21 := by kernel_rfl
theorem body21 : Tryz.f21.body.isSome = true ∧ Tryz.f21.name ≠ "runtime.NumGoroutine" := ⟨by kernel_rfl, of_decide_eq_true (by kernel_rfl)⟩
theorem callee21 (args : List AV) : callee (AProg.of Tryz.prog) (.func (.func 21) [] []) args = some (21, args) := by unfold callee; simp only [fn21, body21, true_and, not_false_eq_true, and_true, ne_eq, if_true, List.nil_append, List.append_nil]

theorem build90 (m : Nat) : abuild P0 90 [(1, .map (some m))] = some (.agg [.slice none 0 (some 0), .map (some m)]) := by
  simp [abuild, ti90, ti49, ti88, mapOpt, afill, splice, AV.cells]

theorem causeReads_ev {n : Nat} {e : Ex} (he : e.size ≤ n) {yh : YieldF} {s : AS} (hb : e.size ≤ 2000000) :
    CQ (ev (n + 3) yh 25 [e.av] s) fun r s' => Names s' r (rd [] e) ∧ Same s s' := by
  rw [ev_succ (by decide)]
  refine evCall1_wp fn25 rfl ?_
  show SC P0 (ev (n + 2)) FU yh _ ⟨initTmps 14 _, [], 0⟩ s _
  rw [initTmps_of (by simp)]
  obtain ⟨s1, e1⟩ : ∃ z, z = (s.new (.arr (AV.cells e.av).length [e.av])).2 := ⟨_, rfl⟩
  obtain ⟨s2, e2⟩ : ∃ z, z = (s1.new (.map [])).2 := ⟨_, rfl⟩
  obtain ⟨s3, e3⟩ : ∃ z, z = (s2.new (.arr 2 [.agg [.slice none 0 (some 0), .map (some s1.next)]])).2 := ⟨_, rfl⟩
  have n1 : s1.next = s.next + 1 := by rw [e1]; rfl
  have n2 : s2.next = s.next + 2 := by rw [e2]; show s1.next + 1 = _; rw [n1]
  have n3 : s3.next = s.next + 3 := by rw [e3]; show s2.next + 1 = _; rw [n2]
  have hs1 : Same s s1 := by rw [e1]; exact ⟨Nat.le_succ _, fun id hid => AS.get_new_ne _ _ (by omega)⟩
  have hs2 : Same s1 s2 := by rw [e2]; exact ⟨Nat.le_succ _, fun id hid => AS.get_new_ne _ _ (by omega)⟩
  have hs3 : Same s2 s3 := by rw [e3]; exact ⟨Nat.le_succ _, fun id hid => AS.get_new_ne _ _ (by omega)⟩
  have hg : s1.get s.next = some (.arr (AV.cells e.av).length [e.av]) := by rw [e1]; exact AS.get_new_self _ _
  have hg3 : s3.get s.next = some (.arr (AV.cells e.av).length [e.av]) := by
    rw [hs3.2 _ (by omega), hs2.2 _ (by omega)]; exact hg
  have hl := ex_whole hg3
  have hrd : RdAt s3 s2.next s1.next (.slice none 0 (some 0)) [] := by
    refine ⟨by rw [e3]; exact AS.get_new_self _ _, ?_, names_nil _, by omega, by omega, by omega, by simp [own], by simp [own]⟩
    rw [hs3.2 _ (by omega), e2]
    exact AS.get_new_self _ _
  have hc : (AV.cells (.agg [.slice none 0 (some 0), .map (some s1.next)])).length = 2 := rfl
  have fa0 := rd_fa s2.next 0 (.inl rfl)
  simp only [SC_seq, SC_block, SC_loop, SC_ret, SC_exit, SC_skip, SC_region, SC_cond, SO_nil, SO_cons, SV_val, SV_skip, SV_enter, SOK_app, NormK_app, SeqK_normal, SeqK_exit, SeqK_ret, BlkK_normal, BlkK_exit, BlkK_ret, RndK_normal, RndK_exit, RndK_ret, CallK_app, awanted_none, if_true, if_false, evOp_move, evOp_assign, evOp_load, evOp_store, evOp_fieldAddr, evOp_field, evOp_indexAddr, evOp_index, evOp_lookup, evOp_mapUpdate, evOp_unOp, evOp_slice, evOp_nilCheck, evOp_box, evOp_alloc, evOp_makeMap, evOp_pick, evOp_extract, evOp_build, evOp_buildSlice, evOp_bin, evOp_call, evOp_len, evOp_min, evOp_append, aeval_tmp, aeval_int, aeval_bool, aeval_nil, aopt, nilR_ptr, pickR_bool, extrR_tuple, binR_int, binR_str, lift_some, Option.bind_some, Option.map_some, Option.bind_eq_bind, put_some, put_none, ATmps.get_set, true_and, false_and, and_true, and_false, ATmps.n_set, new_n, initGo, mapOpt, SB_true, SB_false, SD_nil, SD_cons, SDo_some, SDK_app, SRd_val, SMk_pure, SMk_new, unturned_nil, acts, reads, AS.get_bump, AS.next_bump, List.getElem?_cons_zero, List.getElem?_cons_succ, Bool.false_eq_true, aint_add, aint_sub, aint_lss, aint_leq, aint_gtr, aint_geq, aint_eql, aint_neq, astr_eql, astr_neq, ne_eq, not_false_eq_true, not_true_eq_false, reduceCtorEq, Nat.reduceLT, Nat.reduceEqDiff, Int.reduceEq, Int.reduceLT, awanted_some, ayielded, beq_false, beq_true, Bool.not_true, Bool.not_false, decide_true, decide_false, List.map_cons, List.map_nil, tupled, Nat.zero_lt_succ, ↓reduceIte, List.length_cons, List.length_nil, Nat.reduceAdd, ← e1, ← e2, build90, hc, ← e3, hl, callee42]
  with_reducible refine CQ.mono (read_ev n e he _ s3 s2.next s1.next _ [] hrd (by simpa using hb)) ?_
  intro r s' g
  obtain ⟨nv, g⟩ := g
  have g1 := g.1
  have g2 := g.2
  clear g
  have ln := rd_names g1.box
  simp only [SC_seq, SC_block, SC_loop, SC_ret, SC_exit, SC_skip, SC_region, SC_cond, SO_nil, SO_cons, SV_val, SV_skip, SV_enter, SOK_app, NormK_app, SeqK_normal, SeqK_exit, SeqK_ret, BlkK_normal, BlkK_exit, BlkK_ret, RndK_normal, RndK_exit, RndK_ret, CallK_app, awanted_none, if_true, if_false, evOp_move, evOp_assign, evOp_load, evOp_store, evOp_fieldAddr, evOp_field, evOp_indexAddr, evOp_index, evOp_lookup, evOp_mapUpdate, evOp_unOp, evOp_slice, evOp_nilCheck, evOp_box, evOp_alloc, evOp_makeMap, evOp_pick, evOp_extract, evOp_build, evOp_buildSlice, evOp_bin, evOp_call, evOp_len, evOp_min, evOp_append, aeval_tmp, aeval_int, aeval_bool, aeval_nil, aopt, nilR_ptr, pickR_bool, extrR_tuple, binR_int, binR_str, lift_some, Option.bind_some, Option.map_some, Option.bind_eq_bind, put_some, put_none, ATmps.get_set, true_and, false_and, and_true, and_false, ATmps.n_set, new_n, initGo, mapOpt, SB_true, SB_false, SD_nil, SD_cons, SDo_some, SDK_app, SRd_val, SMk_pure, SMk_new, unturned_nil, acts, reads, AS.get_bump, AS.next_bump, List.getElem?_cons_zero, List.getElem?_cons_succ, Bool.false_eq_true, aint_add, aint_sub, aint_lss, aint_leq, aint_gtr, aint_geq, aint_eql, aint_neq, astr_eql, astr_neq, ne_eq, not_false_eq_true, not_true_eq_false, reduceCtorEq, Nat.reduceLT, Nat.reduceEqDiff, Int.reduceEq, Int.reduceLT, awanted_some, ayielded, beq_false, beq_true, Bool.not_true, Bool.not_false, decide_true, decide_false, List.map_cons, List.map_nil, tupled, Nat.zero_lt_succ, ↓reduceIte, List.length_cons, List.length_nil, Nat.reduceAdd, fa0, ln]
  refine RetK_tmps (l := [2]) _ (.inr rfl) (by rfl) ?_
  simp only [SC_seq, SC_block, SC_loop, SC_ret, SC_exit, SC_skip, SC_region, SC_cond, SO_nil, SO_cons, SV_val, SV_skip, SV_enter, SOK_app, NormK_app, SeqK_normal, SeqK_exit, SeqK_ret, BlkK_normal, BlkK_exit, BlkK_ret, RndK_normal, RndK_exit, RndK_ret, CallK_app, awanted_none, if_true, if_false, evOp_move, evOp_assign, evOp_load, evOp_store, evOp_fieldAddr, evOp_field, evOp_indexAddr, evOp_index, evOp_lookup, evOp_mapUpdate, evOp_unOp, evOp_slice, evOp_nilCheck, evOp_box, evOp_alloc, evOp_makeMap, evOp_pick, evOp_extract, evOp_build, evOp_buildSlice, evOp_bin, evOp_call, evOp_len, evOp_min, evOp_append, aeval_tmp, aeval_int, aeval_bool, aeval_nil, aopt, nilR_ptr, pickR_bool, extrR_tuple, binR_int, binR_str, lift_some, Option.bind_some, Option.map_some, Option.bind_eq_bind, put_some, put_none, ATmps.get_set, true_and, false_and, and_true, and_false, ATmps.n_set, new_n, initGo, mapOpt, SB_true, SB_false, SD_nil, SD_cons, SDo_some, SDK_app, SRd_val, SMk_pure, SMk_new, unturned_nil, acts, reads, AS.get_bump, AS.next_bump, List.getElem?_cons_zero, List.getElem?_cons_succ, Bool.false_eq_true, aint_add, aint_sub, aint_lss, aint_leq, aint_gtr, aint_geq, aint_eql, aint_neq, astr_eql, astr_neq, ne_eq, not_false_eq_true, not_true_eq_false, reduceCtorEq, Nat.reduceLT, Nat.reduceEqDiff, Int.reduceEq, Int.reduceLT, awanted_some, ayielded, beq_false, beq_true, Bool.not_true, Bool.not_false, decide_true, decide_false, List.map_cons, List.map_nil, tupled, Nat.zero_lt_succ, ↓reduceIte, List.length_cons, List.length_nil, Nat.reduceAdd]
  refine ⟨g1.names, ⟨by have := g2.next; omega, fun id hid => ?_⟩⟩
  rw [g2.keep id (by omega) (by omega) (by omega) (by simp [own]), hs3.2 _ (by omega), hs2.2 _ (by omega), hs1.2 _ hid]

theorem law_ev {n : Nat} {e : Ex} (he : e.size ≤ n) (hb : e.size ≤ 1048576) {s : AS} :
    CQ (ev (n + 5) NoY 7 [e.av] s) fun r _ => r = .bool true := by
  rw [ev_succ (by decide)]
  refine evCall1_wp fn7 rfl ?_
  show SC P0 (ev (n + 4)) FU _ _ ⟨initTmps 11 _, [], 0⟩ s _
  rw [initTmps_of (by simp)]
  obtain ⟨s1, e1⟩ : ∃ z, z = (s.new (.arr (AV.cells e.av).length [e.av])).2 := ⟨_, rfl⟩
  have hg : s1.get s.next = some (.arr (AV.cells e.av).length [e.av]) := by rw [e1]; exact AS.get_new_self _ _
  simp only [SC_seq, SC_block, SC_loop, SC_ret, SC_exit, SC_skip, SC_region, SC_cond, SO_nil, SO_cons, SV_val, SV_skip, SV_enter, SOK_app, NormK_app, SeqK_normal, SeqK_exit, SeqK_ret, BlkK_normal, BlkK_exit, BlkK_ret, RndK_normal, RndK_exit, RndK_ret, CallK_app, awanted_none, if_true, if_false, evOp_move, evOp_assign, evOp_load, evOp_store, evOp_fieldAddr, evOp_field, evOp_indexAddr, evOp_index, evOp_lookup, evOp_mapUpdate, evOp_unOp, evOp_slice, evOp_nilCheck, evOp_box, evOp_alloc, evOp_makeMap, evOp_pick, evOp_extract, evOp_build, evOp_buildSlice, evOp_bin, evOp_call, evOp_len, evOp_min, evOp_append, aeval_tmp, aeval_int, aeval_bool, aeval_nil, aopt, nilR_ptr, pickR_bool, extrR_tuple, binR_int, binR_str, lift_some, Option.bind_some, Option.map_some, Option.bind_eq_bind, put_some, put_none, ATmps.get_set, true_and, false_and, and_true, and_false, ATmps.n_set, new_n, initGo, mapOpt, SB_true, SB_false, SD_nil, SD_cons, SDo_some, SDK_app, SRd_val, SMk_pure, SMk_new, unturned_nil, acts, reads, AS.get_bump, AS.next_bump, List.getElem?_cons_zero, List.getElem?_cons_succ, Bool.false_eq_true, aint_add, aint_sub, aint_lss, aint_leq, aint_gtr, aint_geq, aint_eql, aint_neq, astr_eql, astr_neq, ne_eq, not_false_eq_true, not_true_eq_false, reduceCtorEq, Nat.reduceLT, Nat.reduceEqDiff, Int.reduceEq, Int.reduceLT, awanted_some, ayielded, beq_false, beq_true, Bool.not_true, Bool.not_false, decide_true, decide_false, List.map_cons, List.map_nil, tupled, Nat.zero_lt_succ, ↓reduceIte, List.length_cons, List.length_nil, Nat.reduceAdd, ← e1]
  refine SC_draw [0, 1, 2, 3, 4, 5, 6, 7, 8] [0, 1, 3, 7, 3, 31, 63, 127, 255] 9 (by kernel_rfl) (by kernel_rfl) rfl ?_
  have hl := ex_whole (s := s1.bump 9) hg
  have lv := ev_lives (n + 3) (fun _ _ _ => none) (s1.bump 9)
  have tb0 : Nat.testBit 3 0 = true := by decide
  have tb3 : Nat.testBit 3 3 = false := by decide
  simp only [SC_seq, SC_block, SC_loop, SC_ret, SC_exit, SC_skip, SC_region, SC_cond, SO_nil, SO_cons, SV_val, SV_skip, SV_enter, SOK_app, NormK_app, SeqK_normal, SeqK_exit, SeqK_ret, BlkK_normal, BlkK_exit, BlkK_ret, RndK_normal, RndK_exit, RndK_ret, CallK_app, awanted_none, if_true, if_false, evOp_move, evOp_assign, evOp_load, evOp_store, evOp_fieldAddr, evOp_field, evOp_indexAddr, evOp_index, evOp_lookup, evOp_mapUpdate, evOp_unOp, evOp_slice, evOp_nilCheck, evOp_box, evOp_alloc, evOp_makeMap, evOp_pick, evOp_extract, evOp_build, evOp_buildSlice, evOp_bin, evOp_call, evOp_len, evOp_min, evOp_append, aeval_tmp, aeval_int, aeval_bool, aeval_nil, aopt, nilR_ptr, pickR_bool, extrR_tuple, binR_int, binR_str, lift_some, Option.bind_some, Option.map_some, Option.bind_eq_bind, put_some, put_none, ATmps.get_set, true_and, false_and, and_true, and_false, ATmps.n_set, new_n, initGo, mapOpt, SB_true, SB_false, SD_nil, SD_cons, SDo_some, SDK_app, SRd_val, SMk_pure, SMk_new, unturned_nil, acts, reads, AS.get_bump, AS.next_bump, List.getElem?_cons_zero, List.getElem?_cons_succ, Bool.false_eq_true, aint_add, aint_sub, aint_lss, aint_leq, aint_gtr, aint_geq, aint_eql, aint_neq, astr_eql, astr_neq, ne_eq, not_false_eq_true, not_true_eq_false, reduceCtorEq, Nat.reduceLT, Nat.reduceEqDiff, Int.reduceEq, Int.reduceLT, awanted_some, ayielded, beq_false, beq_true, Bool.not_true, Bool.not_false, decide_true, decide_false, List.map_cons, List.map_nil, tupled, Nat.zero_lt_succ, ↓reduceIte, List.length_cons, List.length_nil, Nat.reduceAdd, callee21, callee25, lv, CQ_some, hl, unturned_cons, List.getD_cons_zero, List.getD_cons_succ, tb0, Bool.true_or, Bool.and_true]
  have hid : s.next < (s1.bump 9).next := by
    have : s1.next = s.next + 1 := by rw [e1]; rfl
    show s.next < s1.next + 9; omega
  with_reducible refine CQ.mono (causeReads_ev (n := n + 1) (e := e) (by omega) (by omega)) ?_
  intro r1 s3 g
  have g1 := g.1
  have g2 := g.2
  clear g
  have hl3 := ex_whole (s := s3) ((g2.2 _ hid).trans hg)
  simp only [SC_seq, SC_block, SC_loop, SC_ret, SC_exit, SC_skip, SC_region, SC_cond, SO_nil, SO_cons, SV_val, SV_skip, SV_enter, SOK_app, NormK_app, SeqK_normal, SeqK_exit, SeqK_ret, BlkK_normal, BlkK_exit, BlkK_ret, RndK_normal, RndK_exit, RndK_ret, CallK_app, awanted_none, if_true, if_false, evOp_move, evOp_assign, evOp_load, evOp_store, evOp_fieldAddr, evOp_field, evOp_indexAddr, evOp_index, evOp_lookup, evOp_mapUpdate, evOp_unOp, evOp_slice, evOp_nilCheck, evOp_box, evOp_alloc, evOp_makeMap, evOp_pick, evOp_extract, evOp_build, evOp_buildSlice, evOp_bin, evOp_call, evOp_len, evOp_min, evOp_append, aeval_tmp, aeval_int, aeval_bool, aeval_nil, aopt, nilR_ptr, pickR_bool, extrR_tuple, binR_int, binR_str, lift_some, Option.bind_some, Option.map_some, Option.bind_eq_bind, put_some, put_none, ATmps.get_set, true_and, false_and, and_true, and_false, ATmps.n_set, new_n, initGo, mapOpt, SB_true, SB_false, SD_nil, SD_cons, SDo_some, SDK_app, SRd_val, SMk_pure, SMk_new, unturned_nil, acts, reads, AS.get_bump, AS.next_bump, List.getElem?_cons_zero, List.getElem?_cons_succ, Bool.false_eq_true, aint_add, aint_sub, aint_lss, aint_leq, aint_gtr, aint_geq, aint_eql, aint_neq, astr_eql, astr_neq, ne_eq, not_false_eq_true, not_true_eq_false, reduceCtorEq, Nat.reduceLT, Nat.reduceEqDiff, Int.reduceEq, Int.reduceLT, awanted_some, ayielded, beq_false, beq_true, Bool.not_true, Bool.not_false, decide_true, decide_false, List.map_cons, List.map_nil, tupled, Nat.zero_lt_succ, ↓reduceIte, List.length_cons, List.length_nil, Nat.reduceAdd, callee26, hl3, hl, readAgain, alike_refl, unturned_cons, List.getD_cons_zero, List.getD_cons_succ, tb0, tb3, Bool.true_or, Bool.false_or, Bool.and_true]
  with_reducible refine CQ.mono (refReads_ev (n := n) (e := e) he (by omega)) ?_
  intro r2 s4 g
  have g3 := g.1
  have g4 := g.2
  clear g
  have hrl := rd_length e []
  have sn := same_names (call := ev (n + 3)) (fuel := FU) (yh := fun _ _ _ => none) (g1.same g4) g3 (by unfold FU; simp at hrl; omega) (by simp at hrl; omega)
  rw [← ev_succ (by decide)] at sn
  simp only [SC_seq, SC_block, SC_loop, SC_ret, SC_exit, SC_skip, SC_region, SC_cond, SO_nil, SO_cons, SV_val, SV_skip, SV_enter, SOK_app, NormK_app, SeqK_normal, SeqK_exit, SeqK_ret, BlkK_normal, BlkK_exit, BlkK_ret, RndK_normal, RndK_exit, RndK_ret, CallK_app, awanted_none, if_true, if_false, evOp_move, evOp_assign, evOp_load, evOp_store, evOp_fieldAddr, evOp_field, evOp_indexAddr, evOp_index, evOp_lookup, evOp_mapUpdate, evOp_unOp, evOp_slice, evOp_nilCheck, evOp_box, evOp_alloc, evOp_makeMap, evOp_pick, evOp_extract, evOp_build, evOp_buildSlice, evOp_bin, evOp_call, evOp_len, evOp_min, evOp_append, aeval_tmp, aeval_int, aeval_bool, aeval_nil, aopt, nilR_ptr, pickR_bool, extrR_tuple, binR_int, binR_str, lift_some, Option.bind_some, Option.map_some, Option.bind_eq_bind, put_some, put_none, ATmps.get_set, true_and, false_and, and_true, and_false, ATmps.n_set, new_n, initGo, mapOpt, SB_true, SB_false, SD_nil, SD_cons, SDo_some, SDK_app, SRd_val, SMk_pure, SMk_new, unturned_nil, acts, reads, AS.get_bump, AS.next_bump, List.getElem?_cons_zero, List.getElem?_cons_succ, Bool.false_eq_true, aint_add, aint_sub, aint_lss, aint_leq, aint_gtr, aint_geq, aint_eql, aint_neq, astr_eql, astr_neq, ne_eq, not_false_eq_true, not_true_eq_false, reduceCtorEq, Nat.reduceLT, Nat.reduceEqDiff, Int.reduceEq, Int.reduceLT, awanted_some, ayielded, beq_false, beq_true, Bool.not_true, Bool.not_false, decide_true, decide_false, List.map_cons, List.map_nil, tupled, Nat.zero_lt_succ, ↓reduceIte, List.length_cons, List.length_nil, Nat.reduceAdd, callee24]
  with_reducible refine CQ.mono sn ?_
  intro r s5 g
  have g5 := g.1
  clear g
  subst g5
  simp only [SC_seq, SC_block, SC_loop, SC_ret, SC_exit, SC_skip, SC_region, SC_cond, SO_nil, SO_cons, SV_val, SV_skip, SV_enter, SOK_app, NormK_app, SeqK_normal, SeqK_exit, SeqK_ret, BlkK_normal, BlkK_exit, BlkK_ret, RndK_normal, RndK_exit, RndK_ret, CallK_app, awanted_none, if_true, if_false, evOp_move, evOp_assign, evOp_load, evOp_store, evOp_fieldAddr, evOp_field, evOp_indexAddr, evOp_index, evOp_lookup, evOp_mapUpdate, evOp_unOp, evOp_slice, evOp_nilCheck, evOp_box, evOp_alloc, evOp_makeMap, evOp_pick, evOp_extract, evOp_build, evOp_buildSlice, evOp_bin, evOp_call, evOp_len, evOp_min, evOp_append, aeval_tmp, aeval_int, aeval_bool, aeval_nil, aopt, nilR_ptr, pickR_bool, extrR_tuple, binR_int, binR_str, lift_some, Option.bind_some, Option.map_some, Option.bind_eq_bind, put_some, put_none, ATmps.get_set, true_and, false_and, and_true, and_false, ATmps.n_set, new_n, initGo, mapOpt, SB_true, SB_false, SD_nil, SD_cons, SDo_some, SDK_app, SRd_val, SMk_pure, SMk_new, unturned_nil, acts, reads, AS.get_bump, AS.next_bump, List.getElem?_cons_zero, List.getElem?_cons_succ, Bool.false_eq_true, aint_add, aint_sub, aint_lss, aint_leq, aint_gtr, aint_geq, aint_eql, aint_neq, astr_eql, astr_neq, ne_eq, not_false_eq_true, not_true_eq_false, reduceCtorEq, Nat.reduceLT, Nat.reduceEqDiff, Int.reduceEq, Int.reduceLT, awanted_some, ayielded, beq_false, beq_true, Bool.not_true, Bool.not_false, decide_true, decide_false, List.map_cons, List.map_nil, tupled, Nat.zero_lt_succ, ↓reduceIte, List.length_cons, List.length_nil, Nat.reduceAdd]
  refine RetK_tmps (l := [2]) _ (.inr rfl) (by rfl) ?_
  simp only [SC_seq, SC_block, SC_loop, SC_ret, SC_exit, SC_skip, SC_region, SC_cond, SO_nil, SO_cons, SV_val, SV_skip, SV_enter, SOK_app, NormK_app, SeqK_normal, SeqK_exit, SeqK_ret, BlkK_normal, BlkK_exit, BlkK_ret, RndK_normal, RndK_exit, RndK_ret, CallK_app, awanted_none, if_true, if_false, evOp_move, evOp_assign, evOp_load, evOp_store, evOp_fieldAddr, evOp_field, evOp_indexAddr, evOp_index, evOp_lookup, evOp_mapUpdate, evOp_unOp, evOp_slice, evOp_nilCheck, evOp_box, evOp_alloc, evOp_makeMap, evOp_pick, evOp_extract, evOp_build, evOp_buildSlice, evOp_bin, evOp_call, evOp_len, evOp_min, evOp_append, aeval_tmp, aeval_int, aeval_bool, aeval_nil, aopt, nilR_ptr, pickR_bool, extrR_tuple, binR_int, binR_str, lift_some, Option.bind_some, Option.map_some, Option.bind_eq_bind, put_some, put_none, ATmps.get_set, true_and, false_and, and_true, and_false, ATmps.n_set, new_n, initGo, mapOpt, SB_true, SB_false, SD_nil, SD_cons, SDo_some, SDK_app, SRd_val, SMk_pure, SMk_new, unturned_nil, acts, reads, AS.get_bump, AS.next_bump, List.getElem?_cons_zero, List.getElem?_cons_succ, Bool.false_eq_true, aint_add, aint_sub, aint_lss, aint_leq, aint_gtr, aint_geq, aint_eql, aint_neq, astr_eql, astr_neq, ne_eq, not_false_eq_true, not_true_eq_false, reduceCtorEq, Nat.reduceLT, Nat.reduceEqDiff, Int.reduceEq, Int.reduceLT, awanted_some, ayielded, beq_false, beq_true, Bool.not_true, Bool.not_false, decide_true, decide_false, List.map_cons, List.map_nil, tupled, Nat.zero_lt_succ, ↓reduceIte, List.length_cons, List.length_nil, Nat.reduceAdd]

/-- THE LAW: whatever the expression, true. -/
theorem law_true (e : Ex) (hb : e.size ≤ 1048576) : ∃ n s', evL P0 21 true FU n NoY 7 [e.av] ⟨.leaf, 0⟩ = some (.bool true, s') := by
  obtain ⟨v, s', h, hv⟩ := CQ.out (law_ev (n := e.size) (Nat.le_refl _) hb (s := ⟨.leaf, 0⟩))
  subst hv
  exact ⟨e.size + 5, s', h⟩

end Go.AM
