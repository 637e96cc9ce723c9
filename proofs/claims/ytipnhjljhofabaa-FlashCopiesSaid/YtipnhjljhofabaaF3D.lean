/- Layer 3: one call of a device, whatever it is. -/
import Derived.Test.YtipnhjljhofabaaF3C

set_option linter.unusedVariables false
set_option linter.unusedSimpArgs false
set_option maxRecDepth 100000
namespace Go.Sx
attribute [local go_sem ↓] bind_mk intsB_mk strsB_mk svB_mk fnVC ob_some vc_skip vc_exit vc_ret vc_seq vc_block kSeq_normal kSeq_exit kSeq_ret kBlock_normal kBlock_exit kBlock_ret vc_reg vc_regD vc_cond condK_true condK_false vc_loop kLoop_exit kLoop_ret kRoll_normal kRoll_exit kRoll_ret vcOps_nil vcOps_cons gd_bool gd_undef put_some put_none vcT_fin vcT_pure vcT_act vcT_acts vcT_stop stab_none stab_some stabM_nil stabM_cons stabO_ld stabO_ldn stabO_slP stabO_b2s fldOf_ai fldOf_agg fldOf_ait fldOf_aggt intsOf_nil intsOf_cons strsOf_nil strsOf_cons c_omap ob_if lk_nil lk_cons ev_t ev_k z_mov z_pick z_bin z_binB z_binP z_un z_conv z_s2b z_b2s z_alloc z_bld z_bldI z_rowI z_rowS z_ld z_ldn z_st z_stn asN_ptr asN_fn z_nilck z_fld z_fadr z_idxA z_idxP z_idxS z_idxV z_slS z_slL z_slP z_mk z_lenS z_lenL z_app z_appS z_appZ z_cpyS z_mkfn reps_int reps_str z_rowV z_slnil nilK_zero z_cpy z_call asT_tup z_extT z_box boxOf_ai boxOf_agg boxOf_int boxOf_str boxOf_bool boxOf_ptr boxOf_sl sbin_int sbin_str sbinB_mk sbinP_nn sbinP_pn sbinP_np i_add i_sub i_mul i_quo i_rem i_and i_or i_xor i_andNot i_shl i_shr i_eql i_neq i_lss i_leq i_gtr i_geq st_add st_eql st_neq st_lss st_leq st_gtr st_geq bo_eql bo_neq pt_eql pt_neq un_neg un_xor un_not asI_mk asB_mk asS_mk asP_mk asSl_mk asBy_mk bnd_none bnd_some get_mk hput_mk hdel_mk kill_eq wrOf_eq rowOf_eq rsvs_0 rsvs_1 rsvs_2 rsvs_3 rsv_t rsv_c1 rsv_cn nt_v nt_ptr nt_sl nt_agg nt_ai get_ints get_strs get_pl get_sv getN_ints getN_sv set_ints set_strs set_sv setN_ints setN_sv part_ints part_strs part_sv cat_ints cat_strs cat_sv over_ints ones_ints ones_strs evs_nil evs_cons condK_eqt condK_eqf det_callP V_ns V_nn V_gs V_gn obC_mk fresh_ev setN_plagg setN_intsv setN_svai setN_svagg over_intsv set_pl setN_pl setN_plai getN_pl getN_strs part_pl cat_pl over_pl over_plints z_mm
attribute [local go_sem] initTm ne_eq not_true_eq_false not_false_eq_true true_and and_true List.length_cons List.length_nil Int.toNat_natCast Nat.add_zero Nat.zero_add Nat.mul_one List.getElem?_cons_zero List.drop_zero List.take_length List.take_succ_cons List.take_zero List.take_nil List.drop_succ_cons Option.map_some Nat.le_refl implies_true List.getElem?_cons_succ decide_true decide_false Bool.not_true Bool.not_false beq_self_eq_true Nat.succ_ne_self Nat.one_ne_zero Nat.zero_ne_one vk_mk hk_mk nk_mk tok_eq plsOf_map intsOf_map bodyOf_pl bodyOf_ints bodyOf_strs bodyOf_sv part_aggv part_agg part_ai part_int part_str part_bool part_sl part_ptr part_nil numsOf_map u_int u_str u_bool u_pnil u_sl u_ptr u_oci u_ocs evq_nil evq_cons fillS_nil fillS_cons u_ocb ones_pl cells_sv cells_ints cells_strs cells_pl smms_nil smms_cons smm_min smm_max plsOf_nil List.nil_append List.all_cons List.all_nil Bool.and_self Bool.true_and Bool.and_true zws_len zw_len zi_len List.set_cons_zero List.set_cons_succ List.flatMap_cons List.flatMap_nil List.append_nil
open Go.Proofs
variable {H : Hp} {n : Nat} {x : Nat → Option SO} {d d' : Fd} {i a b c : Nat} {u1 u2 u3 : Bool}

def ansV (s : ByteArray) (e : Int) : SV := .tup [.v (.string s), .v (.int .i64 e)]
/-- What a call leaves, and answers. -/
def opDV (d : Fd) (o : OpV) : Fd × SV :=
  if o.u.tmod 6 = 2 then (match baNo d with
    | some (e, d2) => (d2, ansV ⟨#[]⟩ e)
    | none => (baD d, ansV ⟨#[]⟩ 0))
  else if o.u.tmod 6 = 3 then (d, rdV d o.k)
  else if o.u.tmod 6 = 4 then ({ d with fa := max o.k 0 }, ansV ⟨#[]⟩ 0)
  else if o.u.tmod 6 = 5 then (crD d ((o.zs.drop 0).take o.m), ansV ⟨#[]⟩ 0)
  else (match wrNo d o.k o.s with
    | some (e, d2) => (d2, ansV ⟨#[]⟩ e)
    | none => (wrD d o.k.toNat o.s, ansV ⟨#[]⟩ 0))
theorem opDV_ok {k t : Nat} {o : OpV} (hP : Pl d k t) (hr : o.rng) (ht : t < 1000000) : Pl (opDV d o).1 k (t + 1) := by
  unfold opDV
  split
  · split
    · rename_i h; exact (hP.bno h).1
    · rename_i h; exact hP.ba (baNo_none h).2 ht
  split
  · exact hP.more
  split
  · exact hP.fall hr.2.2
  split
  · exact hP.cr
  split
  · rename_i h; exact (hP.no h).1
  · rename_i h
    obtain ⟨y1, ⟨j, hj, y2⟩, y3, y4⟩ := wrNo_none h
    rw [hj, Int.toNat_natCast]
    exact hP.wr (by rw [← hP.len]; exact y2) y3 y4 ht
theorem opDV_ans (d : Fd) (o : OpV) : ∃ s e, (opDV d o).2 = ansV s e := by
  unfold opDV
  split
  · split <;> exact ⟨_, _, rfl⟩
  split
  · obtain ⟨s, e, h⟩ := rdV_tup d o.k; exact ⟨s, e, h⟩
  split
  · exact ⟨_, _, rfl⟩
  split
  · exact ⟨_, _, rfl⟩
  · split <;> exact ⟨_, _, rfl⟩
theorem w24 {o : OpV} {k t : Nat} (hP : Pl d k t) (hk : 0 < k) (hu : 0 ≤ o.u) (hm : o.m ≤ o.zs.length) :
    fnVC C3 m24 [.ptr 1 0, .agg [.v (.int .u8 o.u), .v (.int .i64 o.k), .v (.string o.s), .sl 5 0 o.m 1]] ⟨devL d 1 2 3 4 [(5, some ⟨false, .ints .i64 o.zs⟩)], x⟩ 6
      fun v H' n' => Sub 6 ⟨[(0, (opDV d o).2)], ⟨[(1, some ⟨true, devB (opDV d o).1 6 7 8⟩), (2, none), (3, none), (4, none), (5, some ⟨false, .ints .i64 o.zs⟩), (6, some ⟨true, secB (opDV d o).1.seen⟩), (7, some ⟨true, secB (opDV d o).1.safe⟩), (8, some ⟨true, .pl (prow (opDV d o).1.pend)⟩)], x⟩, 9⟩ ⟨[(0, v)], H', n'⟩ := by
  obtain ⟨r, hr6, hru⟩ : ∃ r : Int, (0 ≤ r ∧ r < 6) ∧ o.u.tmod 6 = r := ⟨o.u % 6, ⟨by omega, by omega⟩, by rw [Int.tmod_eq_emod_of_nonneg hu]⟩
  obtain ⟨d2, ed2⟩ : ∃ d2, (opDV d o).1 = d2 := ⟨_, rfl⟩
  obtain ⟨av, eav⟩ : ∃ av, (opDV d o).2 = av := ⟨_, rfl⟩
  rw [ed2, eav]
  unfold opDV at ed2 eav
  rw [hru] at ed2 eav
  unfold m24
  simp -implicitDefEqProofs only [↓fnVC, initTm]
  simp -implicitDefEqProofs only [go_sem, ↓reduceIte, Nat.reduceEqDiff, Nat.reduceAdd, Nat.reduceMul, Nat.reduceLT, Nat.reduceLeDiff, Nat.reduceSub, Int.reduceToNat, Int.reduceLE, Int.reduceLT, reduceCtorEq, Int.reduceEq, Int.reduceGT, Int.reduceGE, Int.reduceNeg, devL_eq, hru, splice_zero]
  refine condK_bb (fun e2 => ?_) (fun e2 => ?_)
  · have er : r = 2 := by simpa using e2
    subst er
    rw [if_pos rfl] at ed2 eav
    cases hb : baNo d with
    | some w =>
      obtain ⟨e, d3⟩ := w
      rw [hb] at ed2 eav
      simp only at ed2 eav
      subst ed2; subst eav
      obtain ⟨hP2, z1, z2, z3⟩ := hP.bno hb
      simp -implicitDefEqProofs only [go_sem, ↓reduceIte, Nat.reduceEqDiff, Nat.reduceAdd, Nat.reduceMul, Nat.reduceLT, Nat.reduceLeDiff, Nat.reduceSub, Int.reduceToNat, Int.reduceLE, Int.reduceLT, reduceCtorEq, Int.reduceEq, Int.reduceGT, Int.reduceGE, Int.reduceNeg]
      refine at_call t12 (baF (e := e) (d := d) (d' := d3) (i := 1) (a := 2) (b := 3) (c := 4) ⟨rfl, rfl, rfl, rfl, by decide⟩ hb) ?_
      simp -implicitDefEqProofs only [go_sem, ↓reduceIte, Nat.reduceEqDiff, Nat.reduceAdd, Nat.reduceMul, Nat.reduceLT, Nat.reduceLeDiff, Nat.reduceSub, Int.reduceToNat, Int.reduceLE, Int.reduceLT, reduceCtorEq, Int.reduceEq, Int.reduceGT, Int.reduceGE, Int.reduceNeg]
      refine sub_mk [(6, 2), (7, 3), (8, 4)] rfl rfl rfl ?_
      simp only [tmSub, hpSub, objSub, eqTm, eqHp, rn, lk, SV.ren, SV.renC, SV.renB, SV.renA, ren_ints, ren_strs, ren_pl, ren_svs, SV.v.injEq, Value.int.injEq, Body.ints.injEq, SV.ptr.injEq, SV.sl.injEq, Value.string.injEq, Value.bool.injEq, List.map_cons, List.map_nil, forall_const, Nat.reduceLT, Nat.lt_add_one, imp_self, true_and, and_true, and_self, ob_some, get_mk, lk_cons, ↓reduceIte, Nat.reduceEqDiff, ne_eq, not_true_eq_false, not_false_eq_true, Nat.one_ne_zero, Nat.zero_ne_one, Nat.succ_ne_self, Nat.reduceAdd, Bool.false_eq_true, false_implies, implies_true, reduceCtorEq]
      rw [z1, z2, z3]
      repeat' (first | rfl | apply And.intro)
    | none =>
      rw [hb] at ed2 eav
      simp only at ed2 eav
      subst eav
      obtain ⟨y1, y2⟩ := baNo_none hb
      simp -implicitDefEqProofs only [go_sem, ↓reduceIte, Nat.reduceEqDiff, Nat.reduceAdd, Nat.reduceMul, Nat.reduceLT, Nat.reduceLeDiff, Nat.reduceSub, Int.reduceToNat, Int.reduceLE, Int.reduceLT, reduceCtorEq, Int.reduceEq, Int.reduceGT, Int.reduceGE, Int.reduceNeg]
      refine at_call t12 (baW (d := d) (d' := d2) (i := 1) (a := 2) (b := 3) (c := 4) ⟨rfl, rfl, rfl, rfl, by decide⟩ hP.ok y1 y2 (by decide) ed2) ?_
      simp -implicitDefEqProofs only [go_sem, ↓reduceIte, Nat.reduceEqDiff, Nat.reduceAdd, Nat.reduceMul, Nat.reduceLT, Nat.reduceLeDiff, Nat.reduceSub, Int.reduceToNat, Int.reduceLE, Int.reduceLT, reduceCtorEq, Int.reduceEq, Int.reduceGT, Int.reduceGE, Int.reduceNeg]
      refine sub_mk [(6, 2), (7, 3), (8, 7)] rfl rfl rfl ?_
      simp only [tmSub, hpSub, objSub, eqTm, eqHp, rn, lk, SV.ren, SV.renC, SV.renB, SV.renA, ren_ints, ren_strs, ren_pl, ren_svs, SV.v.injEq, Value.int.injEq, Body.ints.injEq, SV.ptr.injEq, SV.sl.injEq, Value.string.injEq, Value.bool.injEq, List.map_cons, List.map_nil, forall_const, Nat.reduceLT, Nat.lt_add_one, imp_self, true_and, and_true, and_self, ob_some, get_mk, lk_cons, ↓reduceIte, Nat.reduceEqDiff, ne_eq, not_true_eq_false, not_false_eq_true, Nat.one_ne_zero, Nat.zero_ne_one, Nat.succ_ne_self, Nat.reduceAdd, Bool.false_eq_true, false_implies, implies_true, reduceCtorEq]
      repeat' (first | rfl | apply And.intro)
  have n2 : ¬ (r = 2) := by simpa using e2
  simp -implicitDefEqProofs only [go_sem, ↓reduceIte, Nat.reduceEqDiff, Nat.reduceAdd, Nat.reduceMul, Nat.reduceLT, Nat.reduceLeDiff, Nat.reduceSub, Int.reduceToNat, Int.reduceLE, Int.reduceLT, reduceCtorEq, Int.reduceEq, Int.reduceGT, Int.reduceGE, Int.reduceNeg]
  refine condK_bb (fun e3 => ?_) (fun e3 => ?_)
  · have er : r = 3 := by simpa using e3
    subst er
    rw [if_neg (by decide), if_pos rfl] at ed2 eav
    subst ed2; subst eav
    obtain ⟨sv, ev, hv⟩ := rdV_tup d o.k
    simp -implicitDefEqProofs only [go_sem, ↓reduceIte, Nat.reduceEqDiff, Nat.reduceAdd, Nat.reduceMul, Nat.reduceLT, Nat.reduceLeDiff, Nat.reduceSub, Int.reduceToNat, Int.reduceLE, Int.reduceLT, reduceCtorEq, Int.reduceEq, Int.reduceGT, Int.reduceGE, Int.reduceNeg]
    refine at_call t14 (rdS (d := d) (k := o.k) (i := 1) (a := 2) (b := 3) (c := 4) ⟨rfl, rfl, rfl, rfl, by decide⟩ hP.ok) ?_
    rw [hv]
    simp -implicitDefEqProofs only [go_sem, ↓reduceIte, Nat.reduceEqDiff, Nat.reduceAdd, Nat.reduceMul, Nat.reduceLT, Nat.reduceLeDiff, Nat.reduceSub, Int.reduceToNat, Int.reduceLE, Int.reduceLT, reduceCtorEq, Int.reduceEq, Int.reduceGT, Int.reduceGE, Int.reduceNeg]
    refine sub_mk [(6, 2), (7, 3), (8, 4)] rfl rfl rfl ?_
    simp only [tmSub, hpSub, objSub, eqTm, eqHp, rn, lk, SV.ren, SV.renC, SV.renB, SV.renA, ren_ints, ren_strs, ren_pl, ren_svs, SV.v.injEq, Value.int.injEq, Body.ints.injEq, SV.ptr.injEq, SV.sl.injEq, Value.string.injEq, Value.bool.injEq, List.map_cons, List.map_nil, forall_const, Nat.reduceLT, Nat.lt_add_one, imp_self, true_and, and_true, and_self, ob_some, get_mk, lk_cons, ↓reduceIte, Nat.reduceEqDiff, ne_eq, not_true_eq_false, not_false_eq_true, Nat.one_ne_zero, Nat.zero_ne_one, Nat.succ_ne_self, Nat.reduceAdd, Bool.false_eq_true, false_implies, implies_true, reduceCtorEq]
    repeat' (first | rfl | apply And.intro)
  have n3 : ¬ (r = 3) := by simpa using e3
  simp -implicitDefEqProofs only [go_sem, ↓reduceIte, Nat.reduceEqDiff, Nat.reduceAdd, Nat.reduceMul, Nat.reduceLT, Nat.reduceLeDiff, Nat.reduceSub, Int.reduceToNat, Int.reduceLE, Int.reduceLT, reduceCtorEq, Int.reduceEq, Int.reduceGT, Int.reduceGE, Int.reduceNeg]
  refine condK_bb (fun e4 => ?_) (fun e4 => ?_)
  · have er : r = 4 := by simpa using e4
    subst er
    rw [if_neg (by decide), if_neg (by decide), if_pos rfl] at ed2 eav
    subst eav
    have z1 : d2.seen = d.seen := by rw [← ed2]
    have z2 : d2.safe = d.safe := by rw [← ed2]
    have z3 : d2.pend = d.pend := by rw [← ed2]
    simp -implicitDefEqProofs only [go_sem, ↓reduceIte, Nat.reduceEqDiff, Nat.reduceAdd, Nat.reduceMul, Nat.reduceLT, Nat.reduceLeDiff, Nat.reduceSub, Int.reduceToNat, Int.reduceLE, Int.reduceLT, reduceCtorEq, Int.reduceEq, Int.reduceGT, Int.reduceGE, Int.reduceNeg]
    refine at_call t16 (faG (d := d) (d' := d2) (i := 1) (a := 2) (b := 3) (c := 4) ⟨rfl, rfl, rfl, rfl, by decide⟩ ed2) ?_
    simp -implicitDefEqProofs only [go_sem, ↓reduceIte, Nat.reduceEqDiff, Nat.reduceAdd, Nat.reduceMul, Nat.reduceLT, Nat.reduceLeDiff, Nat.reduceSub, Int.reduceToNat, Int.reduceLE, Int.reduceLT, reduceCtorEq, Int.reduceEq, Int.reduceGT, Int.reduceGE, Int.reduceNeg]
    refine sub_mk [(6, 2), (7, 3), (8, 4)] rfl rfl rfl ?_
    simp only [tmSub, hpSub, objSub, eqTm, eqHp, rn, lk, SV.ren, SV.renC, SV.renB, SV.renA, ren_ints, ren_strs, ren_pl, ren_svs, SV.v.injEq, Value.int.injEq, Body.ints.injEq, SV.ptr.injEq, SV.sl.injEq, Value.string.injEq, Value.bool.injEq, List.map_cons, List.map_nil, forall_const, Nat.reduceLT, Nat.lt_add_one, imp_self, true_and, and_true, and_self, ob_some, get_mk, lk_cons, ↓reduceIte, Nat.reduceEqDiff, ne_eq, not_true_eq_false, not_false_eq_true, Nat.one_ne_zero, Nat.zero_ne_one, Nat.succ_ne_self, Nat.reduceAdd, Bool.false_eq_true, false_implies, implies_true, reduceCtorEq]
    rw [z1, z2, z3]
    repeat' (first | rfl | apply And.intro)
  have n4 : ¬ (r = 4) := by simpa using e4
  simp -implicitDefEqProofs only [go_sem, ↓reduceIte, Nat.reduceEqDiff, Nat.reduceAdd, Nat.reduceMul, Nat.reduceLT, Nat.reduceLeDiff, Nat.reduceSub, Int.reduceToNat, Int.reduceLE, Int.reduceLT, reduceCtorEq, Int.reduceEq, Int.reduceGT, Int.reduceGE, Int.reduceNeg]
  refine condK_bb (fun e5 => ?_) (fun e5 => ?_)
  · have er : r = 5 := by simpa using e5
    subst er
    rw [if_neg (by decide), if_neg (by decide), if_neg (by decide), if_pos rfl] at ed2 eav
    subst eav
    simp -implicitDefEqProofs only [go_sem, ↓reduceIte, Nat.reduceEqDiff, Nat.reduceAdd, Nat.reduceMul, Nat.reduceLT, Nat.reduceLeDiff, Nat.reduceSub, Int.reduceToNat, Int.reduceLE, Int.reduceLT, reduceCtorEq, Int.reduceEq, Int.reduceGT, Int.reduceGE, Int.reduceNeg]
    refine at_call t15 (crW (d := d) (d' := d2) (i := 1) (a := 2) (b := 3) (c := 4) (r := 5) (o := 0) (m := o.m) (row := o.zs) ⟨rfl, rfl, rfl, rfl, by decide⟩ hP.ok (by rw [hP.len]; omega) (by omega) rfl (by decide) (by decide) ed2) ?_
    simp -implicitDefEqProofs only [go_sem, ↓reduceIte, Nat.reduceEqDiff, Nat.reduceAdd, Nat.reduceMul, Nat.reduceLT, Nat.reduceLeDiff, Nat.reduceSub, Int.reduceToNat, Int.reduceLE, Int.reduceLT, reduceCtorEq, Int.reduceEq, Int.reduceGT, Int.reduceGE, Int.reduceNeg]
    refine sub_mk [(6, 7), (7, 3)] rfl rfl rfl ?_
    simp only [tmSub, hpSub, objSub, eqTm, eqHp, rn, lk, SV.ren, SV.renC, SV.renB, SV.renA, ren_ints, ren_strs, ren_pl, ren_svs, SV.v.injEq, Value.int.injEq, Body.ints.injEq, SV.ptr.injEq, SV.sl.injEq, Value.string.injEq, Value.bool.injEq, List.map_cons, List.map_nil, forall_const, Nat.reduceLT, Nat.lt_add_one, imp_self, true_and, and_true, and_self, ob_some, get_mk, lk_cons, ↓reduceIte, Nat.reduceEqDiff, ne_eq, not_true_eq_false, not_false_eq_true, Nat.one_ne_zero, Nat.zero_ne_one, Nat.succ_ne_self, Nat.reduceAdd, Bool.false_eq_true, false_implies, implies_true, reduceCtorEq]
    repeat' (first | rfl | apply And.intro)
  have n5 : ¬ (r = 5) := by simpa using e5
  rw [if_neg n2, if_neg n3, if_neg n4, if_neg n5] at ed2 eav
  cases hb : wrNo d o.k o.s with
  | some w =>
    obtain ⟨e, d3⟩ := w
    rw [hb] at ed2 eav
    simp only at ed2 eav
    subst ed2; subst eav
    obtain ⟨hP2, z1, z2, z3⟩ := hP.no hb
    simp -implicitDefEqProofs only [go_sem, ↓reduceIte, Nat.reduceEqDiff, Nat.reduceAdd, Nat.reduceMul, Nat.reduceLT, Nat.reduceLeDiff, Nat.reduceSub, Int.reduceToNat, Int.reduceLE, Int.reduceLT, reduceCtorEq, Int.reduceEq, Int.reduceGT, Int.reduceGE, Int.reduceNeg]
    refine at_call t11 (wrF (e := e) (d := d) (d' := d3) (i := 1) (a := 2) (b := 3) (c := 4) ⟨rfl, rfl, rfl, rfl, by decide⟩ hP.ok hb ⟨z1, z2, z3⟩) ?_
    simp -implicitDefEqProofs only [go_sem, ↓reduceIte, Nat.reduceEqDiff, Nat.reduceAdd, Nat.reduceMul, Nat.reduceLT, Nat.reduceLeDiff, Nat.reduceSub, Int.reduceToNat, Int.reduceLE, Int.reduceLT, reduceCtorEq, Int.reduceEq, Int.reduceGT, Int.reduceGE, Int.reduceNeg]
    refine sub_mk [(6, 2), (7, 3), (8, 4)] rfl rfl rfl ?_
    simp only [tmSub, hpSub, objSub, eqTm, eqHp, rn, lk, SV.ren, SV.renC, SV.renB, SV.renA, ren_ints, ren_strs, ren_pl, ren_svs, SV.v.injEq, Value.int.injEq, Body.ints.injEq, SV.ptr.injEq, SV.sl.injEq, Value.string.injEq, Value.bool.injEq, List.map_cons, List.map_nil, forall_const, Nat.reduceLT, Nat.lt_add_one, imp_self, true_and, and_true, and_self, ob_some, get_mk, lk_cons, ↓reduceIte, Nat.reduceEqDiff, ne_eq, not_true_eq_false, not_false_eq_true, Nat.one_ne_zero, Nat.zero_ne_one, Nat.succ_ne_self, Nat.reduceAdd, Bool.false_eq_true, false_implies, implies_true, reduceCtorEq]
    rw [z1, z2, z3]
    repeat' (first | rfl | apply And.intro)
  | none =>
    obtain ⟨y1, ⟨j, hj, y2⟩, y3, y4⟩ := wrNo_none hb
    rw [hb] at ed2 eav
    simp only [hj, Int.toNat_natCast] at ed2 eav
    subst eav
    simp -implicitDefEqProofs only [go_sem, ↓reduceIte, Nat.reduceEqDiff, Nat.reduceAdd, Nat.reduceMul, Nat.reduceLT, Nat.reduceLeDiff, Nat.reduceSub, Int.reduceToNat, Int.reduceLE, Int.reduceLT, reduceCtorEq, Int.reduceEq, Int.reduceGT, Int.reduceGE, Int.reduceNeg, hj]
    refine at_call t11 (wrW (k := j) (d := d) (d' := d2) (i := 1) (a := 2) (b := 3) (c := 4) ⟨rfl, rfl, rfl, rfl, by decide⟩ hP.ok y2 y3 y1 y4 (by decide) ed2) ?_
    simp -implicitDefEqProofs only [go_sem, ↓reduceIte, Nat.reduceEqDiff, Nat.reduceAdd, Nat.reduceMul, Nat.reduceLT, Nat.reduceLeDiff, Nat.reduceSub, Int.reduceToNat, Int.reduceLE, Int.reduceLT, reduceCtorEq, Int.reduceEq, Int.reduceGT, Int.reduceGE, Int.reduceNeg]
    refine sub_mk [(6, 2), (7, 3), (8, 7)] rfl rfl rfl ?_
    simp only [tmSub, hpSub, objSub, eqTm, eqHp, rn, lk, SV.ren, SV.renC, SV.renB, SV.renA, ren_ints, ren_strs, ren_pl, ren_svs, SV.v.injEq, Value.int.injEq, Body.ints.injEq, SV.ptr.injEq, SV.sl.injEq, Value.string.injEq, Value.bool.injEq, List.map_cons, List.map_nil, forall_const, Nat.reduceLT, Nat.lt_add_one, imp_self, true_and, and_true, and_self, ob_some, get_mk, lk_cons, ↓reduceIte, Nat.reduceEqDiff, ne_eq, not_true_eq_false, not_false_eq_true, Nat.one_ne_zero, Nat.zero_ne_one, Nat.succ_ne_self, Nat.reduceAdd, Bool.false_eq_true, false_implies, implies_true, reduceCtorEq]
    repeat' (first | rfl | apply And.intro)
end Go.Sx

/- Layer 3: many calls of a device; two devices alike. -/
set_option linter.unusedVariables false
set_option linter.unusedSimpArgs false
set_option maxRecDepth 100000
namespace Go.Sx
attribute [local go_sem ↓] bind_mk intsB_mk strsB_mk svB_mk fnVC ob_some vc_skip vc_exit vc_ret vc_seq vc_block kSeq_normal kSeq_exit kSeq_ret kBlock_normal kBlock_exit kBlock_ret vc_reg vc_regD vc_cond condK_true condK_false vc_loop kLoop_exit kLoop_ret kRoll_normal kRoll_exit kRoll_ret vcOps_nil vcOps_cons gd_bool gd_undef put_some put_none vcT_fin vcT_pure vcT_act vcT_acts vcT_stop stab_none stab_some stabM_nil stabM_cons stabO_ld stabO_ldn stabO_slP stabO_b2s fldOf_ai fldOf_agg fldOf_ait fldOf_aggt intsOf_nil intsOf_cons strsOf_nil strsOf_cons c_omap ob_if lk_nil lk_cons ev_t ev_k z_mov z_pick z_bin z_binB z_binP z_un z_conv z_s2b z_b2s z_alloc z_bld z_bldI z_rowI z_rowS z_ld z_ldn z_st z_stn asN_ptr asN_fn z_nilck z_fld z_fadr z_idxA z_idxP z_idxS z_idxV z_slS z_slL z_slP z_mk z_lenS z_lenL z_app z_appS z_appZ z_cpyS z_mkfn reps_int reps_str z_rowV z_slnil nilK_zero z_cpy z_call asT_tup z_extT z_box boxOf_ai boxOf_agg boxOf_int boxOf_str boxOf_bool boxOf_ptr boxOf_sl sbin_int sbin_str sbinB_mk sbinP_nn sbinP_pn sbinP_np i_add i_sub i_mul i_quo i_rem i_and i_or i_xor i_andNot i_shl i_shr i_eql i_neq i_lss i_leq i_gtr i_geq st_add st_eql st_neq st_lss st_leq st_gtr st_geq bo_eql bo_neq pt_eql pt_neq un_neg un_xor un_not asI_mk asB_mk asS_mk asP_mk asSl_mk asBy_mk bnd_none bnd_some get_mk hput_mk hdel_mk kill_eq wrOf_eq rowOf_eq rsvs_0 rsvs_1 rsvs_2 rsvs_3 rsv_t rsv_c1 rsv_cn nt_v nt_ptr nt_sl nt_agg nt_ai get_ints get_strs get_pl get_sv getN_ints getN_sv set_ints set_strs set_sv setN_ints setN_sv part_ints part_strs part_sv cat_ints cat_strs cat_sv over_ints ones_ints ones_strs evs_nil evs_cons condK_eqt condK_eqf det_callP V_ns V_nn V_gs V_gn obC_mk fresh_ev setN_plagg setN_intsv setN_svai setN_svagg over_intsv set_pl setN_pl setN_plai getN_pl getN_strs part_pl cat_pl over_pl over_plints z_mm
attribute [local go_sem] initTm ne_eq not_true_eq_false not_false_eq_true true_and and_true List.length_cons List.length_nil Int.toNat_natCast Nat.add_zero Nat.zero_add Nat.mul_one List.getElem?_cons_zero List.drop_zero List.take_length List.take_succ_cons List.take_zero List.take_nil List.drop_succ_cons Option.map_some Nat.le_refl implies_true List.getElem?_cons_succ decide_true decide_false Bool.not_true Bool.not_false beq_self_eq_true Nat.succ_ne_self Nat.one_ne_zero Nat.zero_ne_one vk_mk hk_mk nk_mk tok_eq plsOf_map intsOf_map bodyOf_pl bodyOf_ints bodyOf_strs bodyOf_sv part_aggv part_agg part_ai part_int part_str part_bool part_sl part_ptr part_nil numsOf_map u_int u_str u_bool u_pnil u_sl u_ptr u_oci u_ocs evq_nil evq_cons fillS_nil fillS_cons u_ocb ones_pl cells_sv cells_ints cells_strs cells_pl smms_nil smms_cons smm_min smm_max plsOf_nil List.nil_append List.all_cons List.all_nil Bool.and_self Bool.true_and Bool.and_true zws_len zw_len zi_len List.set_cons_zero List.set_cons_succ List.flatMap_cons List.flatMap_nil List.append_nil
open Go.Proofs
variable {H : Hp} {n : Nat} {x : Nat → Option SO} {d d' : Fd} {i a b c : Nat} {u1 u2 u3 : Bool}

theorem opDV_ren {π : List (Nat × Nat)} {o : OpV} : (opDV d o).2.ren π = (opDV d o).2 := by
  obtain ⟨s, e, h⟩ := opDV_ans d o
  rw [h]; rfl
theorem opG {v : SV} {o : OpV} {k t r : Nat} (h : DevAt H d i a b c) (hP : Pl d k t) (hk : 0 < k) (hu : 0 ≤ o.u) (hm : o.m ≤ o.zs.length) (hr : rowAt H r (.ints .i64 []) = some (.ints .i64 o.zs)) (hne : i ≠ r ∧ a ≠ r ∧ b ≠ r ∧ c ≠ r) (hn : n + 3 ≤ 1000) (hD : opDV d o = (d', v)) :
    SpecAt Try.prog 24 [.ptr i 0, .agg [.v (.int .u8 o.u), .v (.int .i64 o.k), .v (.string o.s), .sl r 0 o.m 1]] H n v
      ⟨(i, some ⟨true, devB d' n (n + 1) (n + 1 + 1)⟩) :: (a, none) :: (b, none) :: (c, none) :: (n, some ⟨true, secB d'.seen⟩) :: (n + 1, some ⟨true, secB d'.safe⟩) :: (n + 1 + 1, some ⟨true, .pl (prow d'.pend)⟩) :: H.l, H.x⟩ (n + 3) := by
  obtain ⟨hi, ha, hb, hc, ⟨p1, p2, p3, p4⟩, ⟨q1, q2, q3, q4⟩, n1, n2, n3, n4, n5, n6⟩ := h
  have e1 : (opDV d o).1 = d' := by rw [hD]
  have e2 : (opDV d o).2 = v := by rw [hD]
  subst e1; subst e2
  have := lift (n := n) (ok3.spec t24 (w24 (x := H.x) hP hk hu hm)) [(1, i), (2, a), (3, b), (4, c), (5, r)] rfl rfl rfl (by omega) rfl rfl
    ⟨sub_wr rfl p1 q1 hi rfl, sub_wr rfl p2 q2 ha rfl, sub_wr rfl p3 q3 hb rfl, sub_wr rfl p4 q4 hc rfl, rowAt_sub hr rfl ⟨rfl, fun _ h => (by cases h)⟩ rfl, trivial⟩
    (by simp [devL, apartB, apart1, rn, lk, n1, n2, n3, n4, n5, n6, hne.1, hne.2.1, hne.2.2.1, hne.2.2.2, Ne.symm n1, Ne.symm n2, Ne.symm n3, Ne.symm n4, Ne.symm n5, Ne.symm n6]) (by simp [devL, wrNZ, rn, lk]; omega) (by omega)
  rw [opDV_ren] at this
  exact this
def ansOf (v : SV) : ByteArray × Int := match v with
  | .tup [.v (.string s), .v (.int .i64 e)] => (s, e)
  | _ => (⟨#[]⟩, 0)
/-- A call: what it leaves, and its answer's parts. -/
def opT (d : Fd) (o : OpV) : Fd × ByteArray × Int := ((opDV d o).1, ansOf (opDV d o).2)
theorem opDV_T (d : Fd) (o : OpV) : opDV d o = ((opT d o).1, ansV (opT d o).2.1 (opT d o).2.2) := by
  obtain ⟨s, e, h⟩ := opDV_ans d o
  unfold opT
  rw [h]
  exact Prod.ext rfl h
def run (p : Fd × ByteArray × Int) (l : List OpV) : Fd × ByteArray × Int := l.foldl (fun p o => opT p.1 o) p
theorem run_succ {p : Fd × ByteArray × Int} {l : List OpV} {t : Nat} {o0 : OpV} (h : t < l.length) : run p (l.take (t + 1)) = opT (run p (l.take t)).1 (l.getD t o0) := by
  unfold run
  rw [List.take_add_one, List.foldl_append, List.getElem?_eq_getElem h, List.getD_eq_getElem?_getD, List.getElem?_eq_getElem h]; rfl
theorem Pl.mono {k t u : Nat} (h : Pl d k t) (hu : t ≤ u) : Pl d k u := ⟨h.ok, h.len, h.sn, by have := h.st; omega, by have := h.few; omega⟩
/-- A list of calls that came in. -/
structure LV where
  rid : Nat
  A : Nat
  ops : List OpV
  M : Nat
abbrev o00 : OpV := ⟨0, 0, .empty, [], 0⟩
structure LIn (x : Nat → Option SO) (l : LV) : Prop where
  lem : l.M ≤ l.ops.length
  few : l.M ≤ 1000
  big : 1000 ≤ l.rid
  row : x l.rid = some ⟨false, .sv (orow l.A 0 l.ops)⟩
  nest : ∀ j, j < l.ops.length → x (1000 + 4 * j + l.A) = some ⟨false, .ints .i64 (l.ops.getD j o00).zs⟩
  rng : ∀ j, j < l.ops.length → (l.ops.getD j o00).rng
  len : ∀ j, j < l.ops.length → (l.ops.getD j o00).m ≤ (l.ops.getD j o00).zs.length
def lrow (Ls : List LV) : List SV := Ls.map fun l => .sl l.rid 0 l.M 4
def runs (p : Fd × ByteArray × Int) (Ls : List LV) : Fd × ByteArray × Int := Ls.foldl (fun p l => run p (l.ops.take l.M)) p
theorem runs_succ {p : Fd × ByteArray × Int} {Ls : List LV} {t : Nat} {l0 : LV} (h : t < Ls.length) : runs p (Ls.take (t + 1)) = run (runs p (Ls.take t)) ((Ls.getD t l0).ops.take (Ls.getD t l0).M) := by
  unfold runs
  rw [List.take_add_one, List.foldl_append, List.getElem?_eq_getElem h, List.getD_eq_getElem?_getD, List.getElem?_eq_getElem h]; rfl
def lvO (m : Nat) (Ls : List LV) (x : Nat → Option SO) (q : Nat × Fd × ByteArray × Int) : St :=
  ⟨[(5, .ptr 2 0), (6, .v (.int .i64 q.2.2.2)), (7, .v (.string q.2.2.1)), (16, .sl 1 0 m 1), (17, .v (.int .i64 m)), (18, .v (.int .i64 q.1))], ⟨(1, some ⟨false, .sv (lrow Ls)⟩) :: devL q.2.1 2 3 4 5 [], x⟩, 6⟩
def lvN (m i : Nat) (l : LV) (Ls : List LV) (x : Nat → Option SO) (q : Nat × Fd × ByteArray × Int) : St :=
  ⟨[(5, .ptr 2 0), (6, .v (.int .i64 q.2.2.2)), (7, .v (.string q.2.2.1)), (16, .sl 1 0 m 1), (17, .v (.int .i64 m)), (18, .v (.int .i64 i)), (22, .sl l.rid 0 l.M 4), (23, .v (.int .i64 l.M)), (24, .v (.int .i64 q.1))], ⟨(1, some ⟨false, .sv (lrow Ls)⟩) :: devL q.2.1 2 3 4 5 [], x⟩, 6⟩
theorem w23 {Ls : List LV} {m : Nat} (hm : m = Ls.length) (hm2 : m ≤ 10) (hL : ∀ j, j < Ls.length → LIn x (Ls.getD j ⟨0, 0, [], 0⟩)) :
    fnVC C3 m23 [.sl 1 0 m 1] ⟨[(1, some ⟨false, .sv (lrow Ls)⟩)], x⟩ 2 fun v H' n' =>
      Sub 2 ⟨[(0, .tup [.ptr 2 0, .v (.string (runs (newD 9, ⟨#[]⟩, 0) Ls).2.1), .v (.int .i64 (runs (newD 9, ⟨#[]⟩, 0) Ls).2.2)])], ⟨(1, some ⟨false, .sv (lrow Ls)⟩) :: devL (runs (newD 9, ⟨#[]⟩, 0) Ls).1 2 3 4 5 [], x⟩, 6⟩ ⟨[(0, v)], H', n'⟩ := by
  have hl1 : ∀ n, (lrow Ls).all (ltB n) = true := fun n => by
    unfold lrow
    rw [List.all_eq_true]
    intro y hy
    rw [List.mem_map] at hy
    obtain ⟨l, hl, rfl⟩ := hy
    obtain ⟨j, hj⟩ := List.getElem?_of_mem hl
    have := (hL j (List.getElem?_eq_some_iff.1 hj).1).big
    rw [List.getD_eq_getElem?_getD, hj] at this
    simp only [Option.getD_some] at this
    simp [ltB, ltA, idOK]; omega
  have hl2 := hl1
  have hrn : ∀ π : List (Nat × Nat), (∀ e ∈ π, e.1 < 1000) → (lrow Ls).map (SV.renB π) = lrow Ls := fun π hπ => by
    unfold lrow
    rw [List.map_map]
    refine List.map_congr_left fun l hl => ?_
    obtain ⟨j, hj⟩ := List.getElem?_of_mem hl
    have := (hL j (List.getElem?_eq_some_iff.1 hj).1).big
    rw [List.getD_eq_getElem?_getD, hj] at this
    simp only [Option.getD_some] at this
    show SV.sl (rn π l.rid) 0 l.M 4 = _
    unfold rn
    rw [lk_out hπ this]
  have hr0 := hrn [] (by simp)
  have hr1 := hrn [(3, 7), (4, 8), (5, 9)] (by simp)
  unfold m23
  simp -implicitDefEqProofs only [↓fnVC, initTm]
  simp -implicitDefEqProofs only [go_sem, ↓reduceIte, Nat.reduceEqDiff, Nat.reduceAdd, Nat.reduceMul, Nat.reduceLT, Nat.reduceLeDiff, Nat.reduceSub, Int.reduceToNat, Int.reduceLE, Int.reduceLT, reduceCtorEq, Int.reduceEq, Int.reduceGT, Int.reduceGE, Int.reduceNeg]
  refine at_call t10 (nwD (k := 9) (by decide) (by decide) (by decide)) ?_
  simp -implicitDefEqProofs only [go_sem, ↓reduceIte, Nat.reduceEqDiff, Nat.reduceAdd, Nat.reduceMul, Nat.reduceLT, Nat.reduceLeDiff, Nat.reduceSub, Int.reduceToNat, Int.reduceLE, Int.reduceLT, reduceCtorEq, Int.reduceEq, Int.reduceGT, Int.reduceGE, Int.reduceNeg, devL_eq]
  refine loop_fam (fun (q : Nat × Fd × ByteArray × Int) => q.1 ≤ m ∧ q.2 = runs (newD 9, ⟨#[]⟩, 0) (Ls.take q.1) ∧ Pl q.2.1 9 (q.1 * 1000)) (lvO m Ls x) (fun q => m - q.1) (0, newD 9, ⟨#[]⟩, 0) ⟨by omega, rfl, Pl.new (by decide)⟩ ?_ ?_
  · unfold lvO devL
    refine sub_mk [] rfl rfl (by simp [apartB, apart1, rn, lk, wfHp, wfTm, Body.lt, hl1, hl2, devB, secB, ltT, ltC, ltB, ltA, idOK]) ?_
    simp only [tmSub, hpSub, objSub, eqTm, eqHp, rn, lk, SV.ren, SV.renC, SV.renB, SV.renA, ren_ints, ren_strs, ren_pl, ren_svs, SV.v.injEq, Value.int.injEq, Body.ints.injEq, SV.ptr.injEq, SV.sl.injEq, Value.string.injEq, Value.bool.injEq, List.map_cons, List.map_nil, forall_const, Nat.reduceLT, Nat.lt_add_one, imp_self, true_and, and_true, and_self, ob_some, get_mk, lk_cons, ↓reduceIte, Nat.reduceEqDiff, ne_eq, not_true_eq_false, not_false_eq_true, Nat.one_ne_zero, Nat.zero_ne_one, Nat.succ_ne_self, Nat.reduceAdd, Bool.false_eq_true, false_implies, implies_true, reduceCtorEq, hr0]
    repeat' (first | rfl | apply And.intro)
  · rintro ⟨i, d, s, e⟩ ⟨hi, hq, hP⟩
    simp only at hi hq hP
    unfold lvO
    simp -implicitDefEqProofs only [go_sem, ↓reduceIte, Nat.reduceEqDiff, Nat.reduceAdd, Nat.reduceMul, Nat.reduceLT, Nat.reduceLeDiff, Nat.reduceSub, Int.reduceToNat, Int.reduceLE, Int.reduceLT, reduceCtorEq, Int.reduceEq, Int.reduceGT, Int.reduceGE, Int.reduceNeg, devL_eq]
    refine condK_bb (fun e1 => ?_) (fun e1 => ?_)
    · have c1 : i < m := by simp only [decide_eq_true_eq] at e1; omega
      have hl := hL i (by omega)
      have hs := runs_succ (p := (newD 9, ⟨#[]⟩, 0)) (l0 := ⟨0, 0, [], 0⟩) (Ls := Ls) (t := i) (by omega)
      have hg : (lrow Ls)[i]? = some (.sl (Ls.getD i ⟨0, 0, [], 0⟩).rid 0 (Ls.getD i ⟨0, 0, [], 0⟩).M 4) := by
        unfold lrow
        rw [List.getElem?_map, List.getD_eq_getElem?_getD, List.getElem?_eq_getElem (by omega)]; rfl
      generalize Ls.getD i ⟨0, 0, [], 0⟩ = l at hl hs hg
      obtain ⟨z1, z2, z3, z4, z5, z6, z7⟩ := hl
      simp -implicitDefEqProofs only [go_sem, ↓reduceIte, Nat.reduceEqDiff, Nat.reduceAdd, Nat.reduceMul, Nat.reduceLT, Nat.reduceLeDiff, Nat.reduceSub, Int.reduceToNat, Int.reduceLE, Int.reduceLT, reduceCtorEq, Int.reduceEq, Int.reduceGT, Int.reduceGE, Int.reduceNeg, hg]
      refine ⟨by omega, ?_⟩
      refine loop_fam (fun (q : Nat × Fd × ByteArray × Int) => q.1 ≤ l.M ∧ q.2 = run (d, s, e) (l.ops.take q.1) ∧ Pl q.2.1 9 (i * 1000 + q.1)) (lvN m i l Ls x) (fun q => l.M - q.1) (0, d, s, e) ⟨by omega, rfl, hP⟩ ?_ ?_
      · unfold lvN devL
        refine sub_mk [] rfl rfl (by simp [apartB, apart1, rn, lk, wfHp, wfTm, Body.lt, hl1, devB, secB, ltT, ltC, ltB, ltA, idOK]; omega) ?_
        simp only [tmSub, hpSub, objSub, eqTm, eqHp, rn, lk, SV.ren, SV.renC, SV.renB, SV.renA, ren_ints, ren_strs, ren_pl, ren_svs, SV.v.injEq, Value.int.injEq, Body.ints.injEq, SV.ptr.injEq, SV.sl.injEq, Value.string.injEq, Value.bool.injEq, List.map_cons, List.map_nil, forall_const, Nat.reduceLT, Nat.lt_add_one, imp_self, true_and, and_true, and_self, ob_some, get_mk, lk_cons, ↓reduceIte, Nat.reduceEqDiff, ne_eq, not_true_eq_false, not_false_eq_true, Nat.one_ne_zero, Nat.zero_ne_one, Nat.succ_ne_self, Nat.reduceAdd, Bool.false_eq_true, false_implies, implies_true, reduceCtorEq, hr0]
        repeat' (first | rfl | apply And.intro)
      · rintro ⟨t, d1, s1, e1'⟩ ⟨ht, hq1, hP1⟩
        simp only at ht hq1 hP1
        unfold lvN
        simp -implicitDefEqProofs only [go_sem, ↓reduceIte, Nat.reduceEqDiff, Nat.reduceAdd, Nat.reduceMul, Nat.reduceLT, Nat.reduceLeDiff, Nat.reduceSub, Int.reduceToNat, Int.reduceLE, Int.reduceLT, reduceCtorEq, Int.reduceEq, Int.reduceGT, Int.reduceGE, Int.reduceNeg, devL_eq]
        refine condK_bb (fun e2 => ?_) (fun e2 => ?_)
        · have c2 : t < l.M := by simp only [decide_eq_true_eq] at e2; omega
          have hra := orow_at (A := l.A) (o0 := o00) (l := l.ops) (j0 := 0) (j := t) (by omega)
          have hsu := run_succ (p := (d, s, e)) (l := l.ops) (o0 := o00) (t := t) (by omega)
          have y5 := z5 t (by omega)
          have y6 := z6 t (by omega)
          have y7 := z7 t (by omega)
          have hol := orow_len (A := l.A) (l := l.ops) (j := 0)
          generalize l.ops.getD t o00 = o at hra hsu y5 y6 y7
          rw [Nat.zero_add] at hra
          have hge : 1000 ≤ 1000 + 4 * t + l.A := by omega
          generalize 1000 + 4 * t + l.A = rid at hra y5 hge
          have hrow : ∀ l : List (Nat × Option SO), (∀ e ∈ l, e.1 < 1000) → rowAt ⟨l, x⟩ rid (.ints .i64 []) = some (.ints .i64 o.zs) := fun l hl => by
            unfold rowAt Hp.get
            rw [lk_out hl hge]
            simp only [y5]
            rw [if_neg (by omega)]; rfl
          obtain ⟨d2, s2, e3⟩ : ∃ d2, d2 = opT d1 o := ⟨_, rfl⟩
          have hk1 : ∀ k : Nat, k < 1000 → (k = l.rid) = False := fun k hk => eq_false (by omega)
          simp -implicitDefEqProofs only [go_sem, ↓reduceIte, Nat.reduceEqDiff, Nat.reduceAdd, Nat.reduceMul, Nat.reduceLT, Nat.reduceLeDiff, Nat.reduceSub, Int.reduceToNat, Int.reduceLE, Int.reduceLT, reduceCtorEq, Int.reduceEq, Int.reduceGT, Int.reduceGE, Int.reduceNeg, hk1, z4, hra, ocell, splice_zero]
          refine ⟨by omega, by omega, at_call t24 (opG (d := d1) (d' := (opT d1 o).1) (v := ansV (opT d1 o).2.1 (opT d1 o).2.2) (o := o) (i := 2) (a := 3) (b := 4) (c := 5) (r := rid) ⟨rfl, rfl, rfl, rfl, by decide⟩ hP1 (by decide) y6.1.1 y7 (hrow _ (by simp)) (by omega) (by decide) (opDV_T d1 o)) ?_⟩
          have hP2 : Pl (opT d1 o).1 9 (i * 1000 + (t + 1)) := (opDV_ok (t := i * 1000 + t) hP1 y6 (by omega)).mono (by omega)
          have hq2 : opT d1 o = run (d, s, e) (l.ops.take (t + 1)) := by rw [hsu, ← hq1]
          obtain ⟨q2, hq3⟩ : ∃ q2, opT d1 o = q2 := ⟨_, rfl⟩
          rw [hq3] at hP2 hq2 ⊢
          obtain ⟨d2, s2, e3⟩ := q2
          have hw : IntKind.i64.wrap ((t : Int) + 1) = ((t + 1 : Nat) : Int) := by rw [wrap_i64 (by omega) (by omega)]; omega
          simp -implicitDefEqProofs only [go_sem, ↓reduceIte, Nat.reduceEqDiff, Nat.reduceAdd, Nat.reduceMul, Nat.reduceLT, Nat.reduceLeDiff, Nat.reduceSub, Int.reduceToNat, Int.reduceLE, Int.reduceLT, reduceCtorEq, Int.reduceEq, Int.reduceGT, Int.reduceGE, Int.reduceNeg, ansV, hw]
          refine kLoop_mk (t + 1, d2, s2, e3) ⟨by simp only; omega, hq2, hP2⟩ (by simp only; omega) ?_
          unfold devL
          refine sub_mk [(3, 7), (4, 8), (5, 9)] rfl rfl (by simp [apartB, apart1, rn, lk, wfHp, wfTm, Body.lt, hl1, devB, secB, ltT, ltC, ltB, ltA, idOK]; omega) ?_
          simp only [tmSub, hpSub, objSub, eqTm, eqHp, rn, lk, SV.ren, SV.renC, SV.renB, SV.renA, ren_ints, ren_strs, ren_pl, ren_svs, SV.v.injEq, Value.int.injEq, Body.ints.injEq, SV.ptr.injEq, SV.sl.injEq, Value.string.injEq, Value.bool.injEq, List.map_cons, List.map_nil, forall_const, Nat.reduceLT, Nat.lt_add_one, imp_self, true_and, and_true, and_self, ob_some, get_mk, lk_cons, ↓reduceIte, Nat.reduceEqDiff, ne_eq, not_true_eq_false, not_false_eq_true, Nat.one_ne_zero, Nat.zero_ne_one, Nat.succ_ne_self, Nat.reduceAdd, Bool.false_eq_true, false_implies, implies_true, reduceCtorEq, hr1, hk1]
          repeat' (first | rfl | apply And.intro)
        · have c2 : t = l.M := by simp only [decide_eq_false_iff_not] at e2; omega
          subst c2
          have hw : IntKind.i64.wrap ((i : Int) + 1) = ((i + 1 : Nat) : Int) := by rw [wrap_i64 (by omega) (by omega)]; omega
          simp -implicitDefEqProofs only [go_sem, ↓reduceIte, Nat.reduceEqDiff, Nat.reduceAdd, Nat.reduceMul, Nat.reduceLT, Nat.reduceLeDiff, Nat.reduceSub, Int.reduceToNat, Int.reduceLE, Int.reduceLT, reduceCtorEq, Int.reduceEq, Int.reduceGT, Int.reduceGE, Int.reduceNeg, hw]
          refine kLoop_mk (i + 1, d1, s1, e1') ⟨by simp only; omega, ?_, hP1.mono (by omega)⟩ (by simp only; omega) ?_
          · rw [hs, ← hq]; exact hq1
          unfold devL
          refine sub_mk [] rfl rfl (by simp [apartB, apart1, rn, lk, wfHp, wfTm, Body.lt, hl1, hl2, devB, secB, ltT, ltC, ltB, ltA, idOK]) ?_
          simp only [tmSub, hpSub, objSub, eqTm, eqHp, rn, lk, SV.ren, SV.renC, SV.renB, SV.renA, ren_ints, ren_strs, ren_pl, ren_svs, SV.v.injEq, Value.int.injEq, Body.ints.injEq, SV.ptr.injEq, SV.sl.injEq, Value.string.injEq, Value.bool.injEq, List.map_cons, List.map_nil, forall_const, Nat.reduceLT, Nat.lt_add_one, imp_self, true_and, and_true, and_self, ob_some, get_mk, lk_cons, ↓reduceIte, Nat.reduceEqDiff, ne_eq, not_true_eq_false, not_false_eq_true, Nat.one_ne_zero, Nat.zero_ne_one, Nat.succ_ne_self, Nat.reduceAdd, Bool.false_eq_true, false_implies, implies_true, reduceCtorEq, hr0]
          repeat' (first | rfl | apply And.intro)
    · have c1 : i = m := by simp only [decide_eq_false_iff_not] at e1; omega
      have e9 : Ls.take i = Ls := List.take_of_length_le (by omega)
      rw [e9] at hq
      rw [← hq]
      simp -implicitDefEqProofs only [go_sem, ↓reduceIte, Nat.reduceEqDiff, Nat.reduceAdd, Nat.reduceMul, Nat.reduceLT, Nat.reduceLeDiff, Nat.reduceSub, Int.reduceToNat, Int.reduceLE, Int.reduceLT, reduceCtorEq, Int.reduceEq, Int.reduceGT, Int.reduceGE, Int.reduceNeg]
      unfold devL
      refine sub_mk [] rfl rfl (by simp [apartB, apart1, rn, lk, wfHp, wfTm, Body.lt, hl1, hl2, devB, secB, ltT, ltC, ltB, ltA, idOK]) ?_
      simp only [tmSub, hpSub, objSub, eqTm, eqHp, rn, lk, SV.ren, SV.renC, SV.renB, SV.renA, ren_ints, ren_strs, ren_pl, ren_svs, SV.v.injEq, Value.int.injEq, Body.ints.injEq, SV.ptr.injEq, SV.sl.injEq, Value.string.injEq, Value.bool.injEq, List.map_cons, List.map_nil, forall_const, Nat.reduceLT, Nat.lt_add_one, imp_self, true_and, and_true, and_self, ob_some, get_mk, lk_cons, ↓reduceIte, Nat.reduceEqDiff, ne_eq, not_true_eq_false, not_false_eq_true, Nat.one_ne_zero, Nat.zero_ne_one, Nat.succ_ne_self, Nat.reduceAdd, Bool.false_eq_true, false_implies, implies_true, reduceCtorEq, hr0]
      repeat' (first | rfl | apply And.intro)
end Go.Sx

/- Layer 3: two devices alike. -/
set_option linter.unusedVariables false
set_option linter.unusedSimpArgs false
set_option maxRecDepth 100000
namespace Go.Sx
attribute [local go_sem ↓] bind_mk intsB_mk strsB_mk svB_mk fnVC ob_some vc_skip vc_exit vc_ret vc_seq vc_block kSeq_normal kSeq_exit kSeq_ret kBlock_normal kBlock_exit kBlock_ret vc_reg vc_regD vc_cond condK_true condK_false vc_loop kLoop_exit kLoop_ret kRoll_normal kRoll_exit kRoll_ret vcOps_nil vcOps_cons gd_bool gd_undef put_some put_none vcT_fin vcT_pure vcT_act vcT_acts vcT_stop stab_none stab_some stabM_nil stabM_cons stabO_ld stabO_ldn stabO_slP stabO_b2s fldOf_ai fldOf_agg fldOf_ait fldOf_aggt intsOf_nil intsOf_cons strsOf_nil strsOf_cons c_omap ob_if lk_nil lk_cons ev_t ev_k z_mov z_pick z_bin z_binB z_binP z_un z_conv z_s2b z_b2s z_alloc z_bld z_bldI z_rowI z_rowS z_ld z_ldn z_st z_stn asN_ptr asN_fn z_nilck z_fld z_fadr z_idxA z_idxP z_idxS z_idxV z_slS z_slL z_slP z_mk z_lenS z_lenL z_app z_appS z_appZ z_cpyS z_mkfn reps_int reps_str z_rowV z_slnil nilK_zero z_cpy z_call asT_tup z_extT z_box boxOf_ai boxOf_agg boxOf_int boxOf_str boxOf_bool boxOf_ptr boxOf_sl sbin_int sbin_str sbinB_mk sbinP_nn sbinP_pn sbinP_np i_add i_sub i_mul i_quo i_rem i_and i_or i_xor i_andNot i_shl i_shr i_eql i_neq i_lss i_leq i_gtr i_geq st_add st_eql st_neq st_lss st_leq st_gtr st_geq bo_eql bo_neq pt_eql pt_neq un_neg un_xor un_not asI_mk asB_mk asS_mk asP_mk asSl_mk asBy_mk bnd_none bnd_some get_mk hput_mk hdel_mk kill_eq wrOf_eq rowOf_eq rsvs_0 rsvs_1 rsvs_2 rsvs_3 rsv_t rsv_c1 rsv_cn nt_v nt_ptr nt_sl nt_agg nt_ai get_ints get_strs get_pl get_sv getN_ints getN_sv set_ints set_strs set_sv setN_ints setN_sv part_ints part_strs part_sv cat_ints cat_strs cat_sv over_ints ones_ints ones_strs evs_nil evs_cons condK_eqt condK_eqf det_callP V_ns V_nn V_gs V_gn obC_mk fresh_ev setN_plagg setN_intsv setN_svai setN_svagg over_intsv set_pl setN_pl setN_plai getN_pl getN_strs part_pl cat_pl over_pl over_plints z_mm
attribute [local go_sem] initTm ne_eq not_true_eq_false not_false_eq_true true_and and_true List.length_cons List.length_nil Int.toNat_natCast Nat.add_zero Nat.zero_add Nat.mul_one List.getElem?_cons_zero List.drop_zero List.take_length List.take_succ_cons List.take_zero List.take_nil List.drop_succ_cons Option.map_some Nat.le_refl implies_true List.getElem?_cons_succ decide_true decide_false Bool.not_true Bool.not_false beq_self_eq_true Nat.succ_ne_self Nat.one_ne_zero Nat.zero_ne_one vk_mk hk_mk nk_mk tok_eq plsOf_map intsOf_map bodyOf_pl bodyOf_ints bodyOf_strs bodyOf_sv part_aggv part_agg part_ai part_int part_str part_bool part_sl part_ptr part_nil numsOf_map u_int u_str u_bool u_pnil u_sl u_ptr u_oci u_ocs evq_nil evq_cons fillS_nil fillS_cons u_ocb ones_pl cells_sv cells_ints cells_strs cells_pl smms_nil smms_cons smm_min smm_max plsOf_nil List.nil_append List.all_cons List.all_nil Bool.and_self Bool.true_and Bool.and_true zws_len zw_len zi_len List.set_cons_zero List.set_cons_succ List.flatMap_cons List.flatMap_nil List.append_nil
open Go.Proofs
variable {H : Hp} {n : Nat} {x : Nat → Option SO} {d d' : Fd} {i a b c : Nat} {u1 u2 u3 : Bool}
/-! ### Alike -/
def alO (x : Nat → Option SO) (p : Nat × Fd) : St :=
  ⟨[(0, .ptr 1 0), (1, .ptr 5 0), (15, .sl 10 0 2 1), (16, .v (.int .i64 2)), (17, .v (.int .i64 p.1))],
    ⟨devL p.2 1 12 13 14 (devL p.2 5 15 16 17 [(9, some ⟨true, .ints .i64 [3, 64]⟩), (10, some ⟨true, .sv [.sl 0 0 0 1, .sl 9 0 2 1]⟩)]), x⟩, 18⟩
def alN (d : Fd) (q u m : Nat) (x : Nat → Option SO) (t : Nat) : St :=
  ⟨[(0, .ptr 1 0), (1, .ptr 5 0), (6, .ptr 18 0), (15, .sl 10 0 2 1), (16, .v (.int .i64 2)), (17, .v (.int .i64 q)), (40, .v (.int .i64 t))],
    ⟨devL d 1 12 13 14 (devL d 5 15 16 17 [(9, some ⟨true, .ints .i64 [3, 64]⟩), (10, some ⟨true, .sv [.sl 0 0 0 1, .sl 9 0 2 1]⟩), (18, some ⟨true, .sv [.sl u 0 m 1]⟩)]), x⟩, 19⟩
theorem w25 {t : Nat} (hP : Pl d 9 t) :
    fnVC C3 m25 [.ptr 1 0, .ptr 5 0] ⟨devL d 1 2 3 4 (devL d 5 6 7 8 []), x⟩ 9 fun v H' n' =>
      Sub 9 ⟨[(0, .v (.bool true))], ⟨[(1, none), (2, none), (3, none), (4, none), (5, none), (6, none), (7, none), (8, none)], x⟩, 9⟩ ⟨[(0, v)], H', n'⟩ := by
  unfold m25
  simp -implicitDefEqProofs only [↓fnVC, initTm]
  simp -implicitDefEqProofs only [go_sem, ↓reduceIte, Nat.reduceEqDiff, Nat.reduceAdd, Nat.reduceMul, Nat.reduceLT, Nat.reduceLeDiff, Nat.reduceSub, Int.reduceToNat, Int.reduceLE, Int.reduceLT, reduceCtorEq, Int.reduceEq, Int.reduceGT, Int.reduceGE, Int.reduceNeg, devL_eq, splice_zero]
  refine loop_fam (fun (p : Nat × Fd) => p.1 ≤ 2 ∧ ∃ t, Pl p.2 9 t) (alO x) (fun p => 2 - p.1) (0, d) ⟨Nat.zero_le 2, t, hP⟩ ?_ ?_
  · unfold alO devL
    refine sub_mk [(12, 2), (13, 3), (14, 4), (15, 6), (16, 7), (17, 8)] rfl rfl rfl ?_
    simp only [tmSub, hpSub, objSub, eqTm, eqHp, rn, lk, SV.ren, SV.renC, SV.renB, SV.renA, ren_ints, ren_strs, ren_pl, ren_svs, SV.v.injEq, Value.int.injEq, Body.ints.injEq, SV.ptr.injEq, SV.sl.injEq, Value.string.injEq, Value.bool.injEq, List.map_cons, List.map_nil, forall_const, Nat.reduceLT, Nat.lt_add_one, imp_self, true_and, and_true, and_self, ob_some, get_mk, lk_cons, ↓reduceIte, Nat.reduceEqDiff, ne_eq, not_true_eq_false, not_false_eq_true, Nat.one_ne_zero, Nat.zero_ne_one, Nat.succ_ne_self, Nat.reduceAdd, Bool.false_eq_true, false_implies, implies_true, reduceCtorEq]
    repeat' (first | rfl | apply And.intro)
  · rintro ⟨q, d⟩ ⟨hq, t, hP⟩
    simp only at hq hP
    unfold alO
    simp -implicitDefEqProofs only [go_sem, ↓reduceIte, Nat.reduceEqDiff, Nat.reduceAdd, Nat.reduceMul, Nat.reduceLT, Nat.reduceLeDiff, Nat.reduceSub, Int.reduceToNat, Int.reduceLE, Int.reduceLT, reduceCtorEq, Int.reduceEq, Int.reduceGT, Int.reduceGE, Int.reduceNeg, devL_eq]
    rcases (by omega : q = 0 ∨ q = 1 ∨ q = 2) with rfl | rfl | rfl
    · simp -implicitDefEqProofs only [go_sem, ↓reduceIte, Nat.reduceEqDiff, Nat.reduceAdd, Nat.reduceMul, Nat.reduceLT, Nat.reduceLeDiff, Nat.reduceSub, Int.reduceToNat, Int.reduceLE, Int.reduceLT, reduceCtorEq, Int.reduceEq, Int.reduceGT, Int.reduceGE, Int.reduceNeg, splice_zero, Int.cast_ofNat_Int]
      refine at_call t19 (peS rfl) ?_
      simp -implicitDefEqProofs only [go_sem, ↓reduceIte, Nat.reduceEqDiff, Nat.reduceAdd, Nat.reduceMul, Nat.reduceLT, Nat.reduceLeDiff, Nat.reduceSub, Int.reduceToNat, Int.reduceLE, Int.reduceLT, reduceCtorEq, Int.reduceEq, Int.reduceGT, Int.reduceGE, Int.reduceNeg]
      refine at_call t19 (peS rfl) ?_
      simp -implicitDefEqProofs only [go_sem, ↓reduceIte, Nat.reduceEqDiff, Nat.reduceAdd, Nat.reduceMul, Nat.reduceLT, Nat.reduceLeDiff, Nat.reduceSub, Int.reduceToNat, Int.reduceLE, Int.reduceLT, reduceCtorEq, Int.reduceEq, Int.reduceGT, Int.reduceGE, Int.reduceNeg]
      refine at_call t18 (stS rfl) ?_
      simp -implicitDefEqProofs only [go_sem, ↓reduceIte, Nat.reduceEqDiff, Nat.reduceAdd, Nat.reduceMul, Nat.reduceLT, Nat.reduceLeDiff, Nat.reduceSub, Int.reduceToNat, Int.reduceLE, Int.reduceLT, reduceCtorEq, Int.reduceEq, Int.reduceGT, Int.reduceGE, Int.reduceNeg]
      refine at_call t18 (stS rfl) ?_
      simp -implicitDefEqProofs only [go_sem, ↓reduceIte, Nat.reduceEqDiff, Nat.reduceAdd, Nat.reduceMul, Nat.reduceLT, Nat.reduceLeDiff, Nat.reduceSub, Int.reduceToNat, Int.reduceLE, Int.reduceLT, reduceCtorEq, Int.reduceEq, Int.reduceGT, Int.reduceGE, Int.reduceNeg]
      refine at_call t17 (offS rfl) ?_
      simp -implicitDefEqProofs only [go_sem, ↓reduceIte, Nat.reduceEqDiff, Nat.reduceAdd, Nat.reduceMul, Nat.reduceLT, Nat.reduceLeDiff, Nat.reduceSub, Int.reduceToNat, Int.reduceLE, Int.reduceLT, reduceCtorEq, Int.reduceEq, Int.reduceGT, Int.reduceGE, Int.reduceNeg]
      refine at_call t17 (offS rfl) ?_
      simp -implicitDefEqProofs only [go_sem, ↓reduceIte, Nat.reduceEqDiff, Nat.reduceAdd, Nat.reduceMul, Nat.reduceLT, Nat.reduceLeDiff, Nat.reduceSub, Int.reduceToNat, Int.reduceLE, Int.reduceLT, reduceCtorEq, Int.reduceEq, Int.reduceGT, Int.reduceGE, Int.reduceNeg, bne_self_eq_false]
      refine loop_fam (fun t : Nat => t ≤ 10) (alN d 0 0 0 x) (fun t => 10 - t) 0 (by decide) ?_ ?_
      · unfold alN devL
        refine sub_mk [] rfl rfl rfl ?_
        simp only [tmSub, hpSub, objSub, eqTm, eqHp, rn, lk, SV.ren, SV.renC, SV.renB, SV.renA, ren_ints, ren_strs, ren_pl, ren_svs, SV.v.injEq, Value.int.injEq, Body.ints.injEq, SV.ptr.injEq, SV.sl.injEq, Value.string.injEq, Value.bool.injEq, List.map_cons, List.map_nil, forall_const, Nat.reduceLT, Nat.lt_add_one, imp_self, true_and, and_true, and_self, ob_some, get_mk, lk_cons, ↓reduceIte, Nat.reduceEqDiff, ne_eq, not_true_eq_false, not_false_eq_true, Nat.one_ne_zero, Nat.zero_ne_one, Nat.succ_ne_self, Nat.reduceAdd, Bool.false_eq_true, false_implies, implies_true, reduceCtorEq]
        repeat' (first | rfl | apply And.intro)
      · intro j hj
        unfold alN
        simp -implicitDefEqProofs only [go_sem, ↓reduceIte, Nat.reduceEqDiff, Nat.reduceAdd, Nat.reduceMul, Nat.reduceLT, Nat.reduceLeDiff, Nat.reduceSub, Int.reduceToNat, Int.reduceLE, Int.reduceLT, reduceCtorEq, Int.reduceEq, Int.reduceGT, Int.reduceGE, Int.reduceNeg, devL_eq]
        refine condK_bb (fun e1 => ?_) (fun e1 => ?_)
        · have c1 : j < 10 := by simp only [decide_eq_true_eq] at e1; omega
          obtain ⟨sv, ev, hv⟩ := rdV_tup d (j : Int)
          have hw : IntKind.i64.wrap ((j : Int) + 1) = ((j + 1 : Nat) : Int) := by rw [wrap_i64 (by omega) (by omega)]; omega
          simp -implicitDefEqProofs only [go_sem, ↓reduceIte, Nat.reduceEqDiff, Nat.reduceAdd, Nat.reduceMul, Nat.reduceLT, Nat.reduceLeDiff, Nat.reduceSub, Int.reduceToNat, Int.reduceLE, Int.reduceLT, reduceCtorEq, Int.reduceEq, Int.reduceGT, Int.reduceGE, Int.reduceNeg]
          refine at_call t14 (rdS (d := d) (k := (j : Int)) (i := 1) (a := 12) (b := 13) (c := 14) ⟨rfl, rfl, rfl, rfl, by decide⟩ hP.ok) ?_
          simp -implicitDefEqProofs only [go_sem, ↓reduceIte, Nat.reduceEqDiff, Nat.reduceAdd, Nat.reduceMul, Nat.reduceLT, Nat.reduceLeDiff, Nat.reduceSub, Int.reduceToNat, Int.reduceLE, Int.reduceLT, reduceCtorEq, Int.reduceEq, Int.reduceGT, Int.reduceGE, Int.reduceNeg, hv]
          refine at_call t14 (rdS (d := d) (k := (j : Int)) (i := 5) (a := 15) (b := 16) (c := 17) ⟨rfl, rfl, rfl, rfl, by decide⟩ hP.ok) ?_
          simp -implicitDefEqProofs only [go_sem, ↓reduceIte, Nat.reduceEqDiff, Nat.reduceAdd, Nat.reduceMul, Nat.reduceLT, Nat.reduceLeDiff, Nat.reduceSub, Int.reduceToNat, Int.reduceLE, Int.reduceLT, reduceCtorEq, Int.reduceEq, Int.reduceGT, Int.reduceGE, Int.reduceNeg, hv, seq_self3, hw, bne_self_eq_false]
          refine kLoop_mk (j + 1) (by omega) (by omega) ?_
          unfold devL
          refine sub_mk [] rfl rfl rfl ?_
          simp only [tmSub, hpSub, objSub, eqTm, eqHp, rn, lk, SV.ren, SV.renC, SV.renB, SV.renA, ren_ints, ren_strs, ren_pl, ren_svs, SV.v.injEq, Value.int.injEq, Body.ints.injEq, SV.ptr.injEq, SV.sl.injEq, Value.string.injEq, Value.bool.injEq, List.map_cons, List.map_nil, forall_const, Nat.reduceLT, Nat.lt_add_one, imp_self, true_and, and_true, and_self, ob_some, get_mk, lk_cons, ↓reduceIte, Nat.reduceEqDiff, ne_eq, not_true_eq_false, not_false_eq_true, Nat.one_ne_zero, Nat.zero_ne_one, Nat.succ_ne_self, Nat.reduceAdd, Bool.false_eq_true, false_implies, implies_true, reduceCtorEq]
          repeat' (first | rfl | apply And.intro)
        · obtain ⟨d2, ed2⟩ : ∃ d2, crD d ((([] : List Int).drop 0).take 0) = d2 := ⟨_, rfl⟩
          have hP2 : Pl d2 9 (t + 1) := ed2 ▸ hP.cr
          simp -implicitDefEqProofs only [go_sem, ↓reduceIte, Nat.reduceEqDiff, Nat.reduceAdd, Nat.reduceMul, Nat.reduceLT, Nat.reduceLeDiff, Nat.reduceSub, Int.reduceToNat, Int.reduceLE, Int.reduceLT, reduceCtorEq, Int.reduceEq, Int.reduceGT, Int.reduceGE, Int.reduceNeg]
          refine at_call t15 (crW (d := d) (d' := d2) (i := 1) (a := 12) (b := 13) (c := 14) (r := 0) (o := 0) (m := 0) (row := []) ⟨rfl, rfl, rfl, rfl, by decide⟩ hP.ok (by rw [hP.len]; decide) (by decide) rfl (by decide) (by decide) ed2) ?_
          simp -implicitDefEqProofs only [go_sem, ↓reduceIte, Nat.reduceEqDiff, Nat.reduceAdd, Nat.reduceMul, Nat.reduceLT, Nat.reduceLeDiff, Nat.reduceSub, Int.reduceToNat, Int.reduceLE, Int.reduceLT, reduceCtorEq, Int.reduceEq, Int.reduceGT, Int.reduceGE, Int.reduceNeg]
          refine at_call t15 (crW (d := d) (d' := d2) (i := 5) (a := 15) (b := 16) (c := 17) (r := 0) (o := 0) (m := 0) (row := []) ⟨rfl, rfl, rfl, rfl, by decide⟩ hP.ok (by rw [hP.len]; decide) (by decide) rfl (by decide) (by decide) ed2) ?_
          have hw : IntKind.i64.wrap ((0 : Int) + 1) = ((0 + 1 : Nat) : Int) := rfl
          simp -implicitDefEqProofs only [go_sem, ↓reduceIte, Nat.reduceEqDiff, Nat.reduceAdd, Nat.reduceMul, Nat.reduceLT, Nat.reduceLeDiff, Nat.reduceSub, Int.reduceToNat, Int.reduceLE, Int.reduceLT, reduceCtorEq, Int.reduceEq, Int.reduceGT, Int.reduceGE, Int.reduceNeg, hw, Int.cast_ofNat_Int]
          refine kLoop_mk (0 + 1, d2) ⟨by simp only; omega, t + 1, hP2⟩ (by simp only; omega) ?_
          unfold devL
          refine sub_mk [(12, 19), (14, 20), (15, 21), (17, 22)] rfl rfl rfl ?_
          simp only [tmSub, hpSub, objSub, eqTm, eqHp, rn, lk, SV.ren, SV.renC, SV.renB, SV.renA, ren_ints, ren_strs, ren_pl, ren_svs, SV.v.injEq, Value.int.injEq, Body.ints.injEq, SV.ptr.injEq, SV.sl.injEq, Value.string.injEq, Value.bool.injEq, List.map_cons, List.map_nil, forall_const, Nat.reduceLT, Nat.lt_add_one, imp_self, true_and, and_true, and_self, ob_some, get_mk, lk_cons, ↓reduceIte, Nat.reduceEqDiff, ne_eq, not_true_eq_false, not_false_eq_true, Nat.one_ne_zero, Nat.zero_ne_one, Nat.succ_ne_self, Nat.reduceAdd, Bool.false_eq_true, false_implies, implies_true, reduceCtorEq]
          repeat' (first | rfl | apply And.intro)
    · simp -implicitDefEqProofs only [go_sem, ↓reduceIte, Nat.reduceEqDiff, Nat.reduceAdd, Nat.reduceMul, Nat.reduceLT, Nat.reduceLeDiff, Nat.reduceSub, Int.reduceToNat, Int.reduceLE, Int.reduceLT, reduceCtorEq, Int.reduceEq, Int.reduceGT, Int.reduceGE, Int.reduceNeg, splice_zero, Int.cast_ofNat_Int]
      refine at_call t19 (peS rfl) ?_
      simp -implicitDefEqProofs only [go_sem, ↓reduceIte, Nat.reduceEqDiff, Nat.reduceAdd, Nat.reduceMul, Nat.reduceLT, Nat.reduceLeDiff, Nat.reduceSub, Int.reduceToNat, Int.reduceLE, Int.reduceLT, reduceCtorEq, Int.reduceEq, Int.reduceGT, Int.reduceGE, Int.reduceNeg]
      refine at_call t19 (peS rfl) ?_
      simp -implicitDefEqProofs only [go_sem, ↓reduceIte, Nat.reduceEqDiff, Nat.reduceAdd, Nat.reduceMul, Nat.reduceLT, Nat.reduceLeDiff, Nat.reduceSub, Int.reduceToNat, Int.reduceLE, Int.reduceLT, reduceCtorEq, Int.reduceEq, Int.reduceGT, Int.reduceGE, Int.reduceNeg]
      refine at_call t18 (stS rfl) ?_
      simp -implicitDefEqProofs only [go_sem, ↓reduceIte, Nat.reduceEqDiff, Nat.reduceAdd, Nat.reduceMul, Nat.reduceLT, Nat.reduceLeDiff, Nat.reduceSub, Int.reduceToNat, Int.reduceLE, Int.reduceLT, reduceCtorEq, Int.reduceEq, Int.reduceGT, Int.reduceGE, Int.reduceNeg]
      refine at_call t18 (stS rfl) ?_
      simp -implicitDefEqProofs only [go_sem, ↓reduceIte, Nat.reduceEqDiff, Nat.reduceAdd, Nat.reduceMul, Nat.reduceLT, Nat.reduceLeDiff, Nat.reduceSub, Int.reduceToNat, Int.reduceLE, Int.reduceLT, reduceCtorEq, Int.reduceEq, Int.reduceGT, Int.reduceGE, Int.reduceNeg]
      refine at_call t17 (offS rfl) ?_
      simp -implicitDefEqProofs only [go_sem, ↓reduceIte, Nat.reduceEqDiff, Nat.reduceAdd, Nat.reduceMul, Nat.reduceLT, Nat.reduceLeDiff, Nat.reduceSub, Int.reduceToNat, Int.reduceLE, Int.reduceLT, reduceCtorEq, Int.reduceEq, Int.reduceGT, Int.reduceGE, Int.reduceNeg]
      refine at_call t17 (offS rfl) ?_
      simp -implicitDefEqProofs only [go_sem, ↓reduceIte, Nat.reduceEqDiff, Nat.reduceAdd, Nat.reduceMul, Nat.reduceLT, Nat.reduceLeDiff, Nat.reduceSub, Int.reduceToNat, Int.reduceLE, Int.reduceLT, reduceCtorEq, Int.reduceEq, Int.reduceGT, Int.reduceGE, Int.reduceNeg, bne_self_eq_false]
      refine loop_fam (fun t : Nat => t ≤ 10) (alN d 1 9 2 x) (fun t => 10 - t) 0 (by decide) ?_ ?_
      · unfold alN devL
        refine sub_mk [] rfl rfl rfl ?_
        simp only [tmSub, hpSub, objSub, eqTm, eqHp, rn, lk, SV.ren, SV.renC, SV.renB, SV.renA, ren_ints, ren_strs, ren_pl, ren_svs, SV.v.injEq, Value.int.injEq, Body.ints.injEq, SV.ptr.injEq, SV.sl.injEq, Value.string.injEq, Value.bool.injEq, List.map_cons, List.map_nil, forall_const, Nat.reduceLT, Nat.lt_add_one, imp_self, true_and, and_true, and_self, ob_some, get_mk, lk_cons, ↓reduceIte, Nat.reduceEqDiff, ne_eq, not_true_eq_false, not_false_eq_true, Nat.one_ne_zero, Nat.zero_ne_one, Nat.succ_ne_self, Nat.reduceAdd, Bool.false_eq_true, false_implies, implies_true, reduceCtorEq]
        repeat' (first | rfl | apply And.intro)
      · intro j hj
        unfold alN
        simp -implicitDefEqProofs only [go_sem, ↓reduceIte, Nat.reduceEqDiff, Nat.reduceAdd, Nat.reduceMul, Nat.reduceLT, Nat.reduceLeDiff, Nat.reduceSub, Int.reduceToNat, Int.reduceLE, Int.reduceLT, reduceCtorEq, Int.reduceEq, Int.reduceGT, Int.reduceGE, Int.reduceNeg, devL_eq]
        refine condK_bb (fun e1 => ?_) (fun e1 => ?_)
        · have c1 : j < 10 := by simp only [decide_eq_true_eq] at e1; omega
          obtain ⟨sv, ev, hv⟩ := rdV_tup d (j : Int)
          have hw : IntKind.i64.wrap ((j : Int) + 1) = ((j + 1 : Nat) : Int) := by rw [wrap_i64 (by omega) (by omega)]; omega
          simp -implicitDefEqProofs only [go_sem, ↓reduceIte, Nat.reduceEqDiff, Nat.reduceAdd, Nat.reduceMul, Nat.reduceLT, Nat.reduceLeDiff, Nat.reduceSub, Int.reduceToNat, Int.reduceLE, Int.reduceLT, reduceCtorEq, Int.reduceEq, Int.reduceGT, Int.reduceGE, Int.reduceNeg]
          refine at_call t14 (rdS (d := d) (k := (j : Int)) (i := 1) (a := 12) (b := 13) (c := 14) ⟨rfl, rfl, rfl, rfl, by decide⟩ hP.ok) ?_
          simp -implicitDefEqProofs only [go_sem, ↓reduceIte, Nat.reduceEqDiff, Nat.reduceAdd, Nat.reduceMul, Nat.reduceLT, Nat.reduceLeDiff, Nat.reduceSub, Int.reduceToNat, Int.reduceLE, Int.reduceLT, reduceCtorEq, Int.reduceEq, Int.reduceGT, Int.reduceGE, Int.reduceNeg, hv]
          refine at_call t14 (rdS (d := d) (k := (j : Int)) (i := 5) (a := 15) (b := 16) (c := 17) ⟨rfl, rfl, rfl, rfl, by decide⟩ hP.ok) ?_
          simp -implicitDefEqProofs only [go_sem, ↓reduceIte, Nat.reduceEqDiff, Nat.reduceAdd, Nat.reduceMul, Nat.reduceLT, Nat.reduceLeDiff, Nat.reduceSub, Int.reduceToNat, Int.reduceLE, Int.reduceLT, reduceCtorEq, Int.reduceEq, Int.reduceGT, Int.reduceGE, Int.reduceNeg, hv, seq_self3, hw, bne_self_eq_false]
          refine kLoop_mk (j + 1) (by omega) (by omega) ?_
          unfold devL
          refine sub_mk [] rfl rfl rfl ?_
          simp only [tmSub, hpSub, objSub, eqTm, eqHp, rn, lk, SV.ren, SV.renC, SV.renB, SV.renA, ren_ints, ren_strs, ren_pl, ren_svs, SV.v.injEq, Value.int.injEq, Body.ints.injEq, SV.ptr.injEq, SV.sl.injEq, Value.string.injEq, Value.bool.injEq, List.map_cons, List.map_nil, forall_const, Nat.reduceLT, Nat.lt_add_one, imp_self, true_and, and_true, and_self, ob_some, get_mk, lk_cons, ↓reduceIte, Nat.reduceEqDiff, ne_eq, not_true_eq_false, not_false_eq_true, Nat.one_ne_zero, Nat.zero_ne_one, Nat.succ_ne_self, Nat.reduceAdd, Bool.false_eq_true, false_implies, implies_true, reduceCtorEq]
          repeat' (first | rfl | apply And.intro)
        · obtain ⟨d2, ed2⟩ : ∃ d2, crD d ((([3, 64] : List Int).drop 0).take 2) = d2 := ⟨_, rfl⟩
          have hP2 : Pl d2 9 (t + 1) := ed2 ▸ hP.cr
          simp -implicitDefEqProofs only [go_sem, ↓reduceIte, Nat.reduceEqDiff, Nat.reduceAdd, Nat.reduceMul, Nat.reduceLT, Nat.reduceLeDiff, Nat.reduceSub, Int.reduceToNat, Int.reduceLE, Int.reduceLT, reduceCtorEq, Int.reduceEq, Int.reduceGT, Int.reduceGE, Int.reduceNeg]
          refine at_call t15 (crW (d := d) (d' := d2) (i := 1) (a := 12) (b := 13) (c := 14) (r := 9) (o := 0) (m := 2) (row := [3, 64]) ⟨rfl, rfl, rfl, rfl, by decide⟩ hP.ok (by rw [hP.len]; decide) (by decide) rfl (by decide) (by decide) ed2) ?_
          simp -implicitDefEqProofs only [go_sem, ↓reduceIte, Nat.reduceEqDiff, Nat.reduceAdd, Nat.reduceMul, Nat.reduceLT, Nat.reduceLeDiff, Nat.reduceSub, Int.reduceToNat, Int.reduceLE, Int.reduceLT, reduceCtorEq, Int.reduceEq, Int.reduceGT, Int.reduceGE, Int.reduceNeg]
          refine at_call t15 (crW (d := d) (d' := d2) (i := 5) (a := 15) (b := 16) (c := 17) (r := 9) (o := 0) (m := 2) (row := [3, 64]) ⟨rfl, rfl, rfl, rfl, by decide⟩ hP.ok (by rw [hP.len]; decide) (by decide) rfl (by decide) (by decide) ed2) ?_
          have hw : IntKind.i64.wrap ((1 : Int) + 1) = ((1 + 1 : Nat) : Int) := rfl
          simp -implicitDefEqProofs only [go_sem, ↓reduceIte, Nat.reduceEqDiff, Nat.reduceAdd, Nat.reduceMul, Nat.reduceLT, Nat.reduceLeDiff, Nat.reduceSub, Int.reduceToNat, Int.reduceLE, Int.reduceLT, reduceCtorEq, Int.reduceEq, Int.reduceGT, Int.reduceGE, Int.reduceNeg, hw, Int.cast_ofNat_Int]
          refine kLoop_mk (1 + 1, d2) ⟨by simp only; omega, t + 1, hP2⟩ (by simp only; omega) ?_
          unfold devL
          refine sub_mk [(12, 19), (14, 20), (15, 21), (17, 22)] rfl rfl rfl ?_
          simp only [tmSub, hpSub, objSub, eqTm, eqHp, rn, lk, SV.ren, SV.renC, SV.renB, SV.renA, ren_ints, ren_strs, ren_pl, ren_svs, SV.v.injEq, Value.int.injEq, Body.ints.injEq, SV.ptr.injEq, SV.sl.injEq, Value.string.injEq, Value.bool.injEq, List.map_cons, List.map_nil, forall_const, Nat.reduceLT, Nat.lt_add_one, imp_self, true_and, and_true, and_self, ob_some, get_mk, lk_cons, ↓reduceIte, Nat.reduceEqDiff, ne_eq, not_true_eq_false, not_false_eq_true, Nat.one_ne_zero, Nat.zero_ne_one, Nat.succ_ne_self, Nat.reduceAdd, Bool.false_eq_true, false_implies, implies_true, reduceCtorEq]
          repeat' (first | rfl | apply And.intro)
    · simp -implicitDefEqProofs only [go_sem, ↓reduceIte, Nat.reduceEqDiff, Nat.reduceAdd, Nat.reduceMul, Nat.reduceLT, Nat.reduceLeDiff, Nat.reduceSub, Int.reduceToNat, Int.reduceLE, Int.reduceLT, reduceCtorEq, Int.reduceEq, Int.reduceGT, Int.reduceGE, Int.reduceNeg, Int.cast_ofNat_Int]
      refine sub_mk [] rfl rfl rfl ?_
      simp only [tmSub, hpSub, objSub, eqTm, eqHp, rn, lk, SV.ren, SV.renC, SV.renB, SV.renA, ren_ints, ren_strs, ren_pl, ren_svs, SV.v.injEq, Value.int.injEq, Body.ints.injEq, SV.ptr.injEq, SV.sl.injEq, Value.string.injEq, Value.bool.injEq, List.map_cons, List.map_nil, forall_const, Nat.reduceLT, Nat.lt_add_one, imp_self, true_and, and_true, and_self, ob_some, get_mk, lk_cons, ↓reduceIte, Nat.reduceEqDiff, ne_eq, not_true_eq_false, not_false_eq_true, Nat.one_ne_zero, Nat.zero_ne_one, Nat.succ_ne_self, Nat.reduceAdd, Bool.false_eq_true, false_implies, implies_true, reduceCtorEq]
theorem alG {j p q r t : Nat} (h : DevAt H d i a b c) (h' : DevAt H d j p q r) (hP : Pl d 9 t) (hne : (i ≠ j ∧ i ≠ p ∧ i ≠ q ∧ i ≠ r) ∧ (a ≠ j ∧ a ≠ p ∧ a ≠ q ∧ a ≠ r) ∧ (b ≠ j ∧ b ≠ p ∧ b ≠ q ∧ b ≠ r) ∧ c ≠ j ∧ c ≠ p ∧ c ≠ q ∧ c ≠ r) :
    SpecAt Try.prog 25 [.ptr i 0, .ptr j 0] H n (.v (.bool true)) ⟨(i, none) :: (a, none) :: (b, none) :: (c, none) :: (j, none) :: (p, none) :: (q, none) :: (r, none) :: H.l, H.x⟩ n := by
  obtain ⟨hi, ha, hb, hc, ⟨p1, p2, p3, p4⟩, ⟨q1, q2, q3, q4⟩, n1, n2, n3, n4, n5, n6⟩ := h
  obtain ⟨hj, hp, hq, hr, ⟨p5, p6, p7, p8⟩, ⟨q5, q6, q7, q8⟩, n7, n8, n9, n10, n11, n12⟩ := h'
  obtain ⟨⟨m1, m2, m3, m4⟩, ⟨m5, m6, m7, m8⟩, ⟨m9, m10, m11, m12⟩, m13, m14, m15, m16⟩ := hne
  have := lift (n := n) (ok3.spec t25 (w25 (x := H.x) hP)) [(1, i), (2, a), (3, b), (4, c), (5, j), (6, p), (7, q), (8, r)] rfl rfl rfl (by omega) rfl rfl
    ⟨sub_wr rfl p1 q1 hi rfl, sub_wr rfl p2 q2 ha rfl, sub_wr rfl p3 q3 hb rfl, sub_wr rfl p4 q4 hc rfl, sub_wr rfl p5 q5 hj rfl, sub_wr rfl p6 q6 hp rfl, sub_wr rfl p7 q7 hq rfl, sub_wr rfl p8 q8 hr rfl, trivial⟩
    (by simp [devL, apartB, apart1, rn, lk, n1, n2, n3, n4, n5, n6, n7, n8, n9, n10, n11, n12, m1, m2, m3, m4, m5, m6, m7, m8, m9, m10, m11, m12, m13, m14, m15, m16, Ne.symm n1, Ne.symm n2, Ne.symm n3, Ne.symm n4, Ne.symm n5, Ne.symm n6, Ne.symm n7, Ne.symm n8, Ne.symm n9, Ne.symm n10, Ne.symm n11, Ne.symm n12, Ne.symm m1, Ne.symm m2, Ne.symm m3, Ne.symm m4, Ne.symm m5, Ne.symm m6, Ne.symm m7, Ne.symm m8, Ne.symm m9, Ne.symm m10, Ne.symm m11, Ne.symm m12, Ne.symm m13, Ne.symm m14, Ne.symm m15, Ne.symm m16])
    (by simp [devL, wrNZ, rn, lk]; omega) (by omega)
  exact this
theorem lrow_lt {Ls : List LV} (hL : ∀ l ∈ Ls, 1000 ≤ l.rid) (n : Nat) : (lrow Ls).all (ltB n) = true := by
  unfold lrow
  rw [List.all_eq_true]
  intro y hy
  rw [List.mem_map] at hy
  obtain ⟨l, hl, rfl⟩ := hy
  have := hL l hl
  simp [ltB, ltA, idOK]; omega
theorem lrow_ren {Ls : List LV} (hL : ∀ l ∈ Ls, 1000 ≤ l.rid) {π : List (Nat × Nat)} (hπ : ∀ e ∈ π, e.1 < 1000) : (Body.sv (lrow Ls)).ren π = .sv (lrow Ls) := by
  show Body.sv ((lrow Ls).map (SV.renB π)) = _
  congr 1
  unfold lrow
  rw [List.map_map]
  refine List.map_congr_left fun l hl => ?_
  have := hL l hl
  show SV.sl (rn π l.rid) 0 l.M 4 = _
  unfold rn
  rw [lk_out hπ this]
theorem lvG {Ls : List LV} {m r : Nat} {u : Bool} {v : Fd × ByteArray × Int} (hg : H.get r = some ⟨u, .sv (lrow Ls)⟩) (hr : 0 < r ∧ r < 1000) (hm : m = Ls.length) (hm2 : m ≤ 10) (hL : ∀ l ∈ Ls, LIn H.x l) (hv : runs (newD 9, ⟨#[]⟩, 0) Ls = v) (hn : n + 4 ≤ 1000) :
    SpecAt Try.prog 23 [.sl r 0 m 1] H n (.tup [.ptr n 0, .v (.string v.2.1), .v (.int .i64 v.2.2)]) ⟨devL v.1 n (n + 1) (n + 1 + 1) (n + 1 + 1 + 1) H.l, H.x⟩ (n + 4) := by
  subst hv
  have hb : ∀ l ∈ Ls, 1000 ≤ l.rid := fun l hl => (hL l hl).big
  have hl := lrow_lt hb
  have hw := w23 (x := H.x) (m := m) (Ls := Ls) hm hm2 (fun j hj => by rw [List.getD_eq_getElem?_getD, List.getElem?_eq_getElem hj]; exact hL _ (List.getElem_mem hj))
  have := lift (n := n) (ok3.spec t23 hw) [(1, r)] rfl rfl rfl (by omega) (by simp [wfHp, Body.lt, hl, idOK]) rfl
    ⟨sub_ro rfl hr.1 hg (lrow_ren hb (by simp)).symm, trivial⟩ (by simp [apartB, apart1, rn, lk]) (by simp [wrNZ, rn, lk]) (by omega)
  exact this
end Go.Sx

/- Layer 3: FlashCopies. -/
set_option linter.unusedVariables false
set_option linter.unusedSimpArgs false
set_option maxRecDepth 100000
namespace Go.Sx
attribute [local go_sem ↓] bind_mk intsB_mk strsB_mk svB_mk fnVC ob_some vc_skip vc_exit vc_ret vc_seq vc_block kSeq_normal kSeq_exit kSeq_ret kBlock_normal kBlock_exit kBlock_ret vc_reg vc_regD vc_cond condK_true condK_false vc_loop kLoop_exit kLoop_ret kRoll_normal kRoll_exit kRoll_ret vcOps_nil vcOps_cons gd_bool gd_undef put_some put_none vcT_fin vcT_pure vcT_act vcT_acts vcT_stop stab_none stab_some stabM_nil stabM_cons stabO_ld stabO_ldn stabO_slP stabO_b2s fldOf_ai fldOf_agg fldOf_ait fldOf_aggt intsOf_nil intsOf_cons strsOf_nil strsOf_cons c_omap ob_if lk_nil lk_cons ev_t ev_k z_mov z_pick z_bin z_binB z_binP z_un z_conv z_s2b z_b2s z_alloc z_bld z_bldI z_rowI z_rowS z_ld z_ldn z_st z_stn asN_ptr asN_fn z_nilck z_fld z_fadr z_idxA z_idxP z_idxS z_idxV z_slS z_slL z_slP z_mk z_lenS z_lenL z_app z_appS z_appZ z_cpyS z_mkfn reps_int reps_str z_rowV z_slnil nilK_zero z_cpy z_call asT_tup z_extT z_box boxOf_ai boxOf_agg boxOf_int boxOf_str boxOf_bool boxOf_ptr boxOf_sl sbin_int sbin_str sbinB_mk sbinP_nn sbinP_pn sbinP_np i_add i_sub i_mul i_quo i_rem i_and i_or i_xor i_andNot i_shl i_shr i_eql i_neq i_lss i_leq i_gtr i_geq st_add st_eql st_neq st_lss st_leq st_gtr st_geq bo_eql bo_neq pt_eql pt_neq un_neg un_xor un_not asI_mk asB_mk asS_mk asP_mk asSl_mk asBy_mk bnd_none bnd_some get_mk hput_mk hdel_mk kill_eq wrOf_eq rowOf_eq rsvs_0 rsvs_1 rsvs_2 rsvs_3 rsv_t rsv_c1 rsv_cn nt_v nt_ptr nt_sl nt_agg nt_ai get_ints get_strs get_pl get_sv getN_ints getN_sv set_ints set_strs set_sv setN_ints setN_sv part_ints part_strs part_sv cat_ints cat_strs cat_sv over_ints ones_ints ones_strs evs_nil evs_cons condK_eqt condK_eqf det_callP V_ns V_nn V_gs V_gn obC_mk fresh_ev setN_plagg setN_intsv setN_svai setN_svagg over_intsv set_pl setN_pl setN_plai getN_pl getN_strs part_pl cat_pl over_pl over_plints z_mm
attribute [local go_sem] initTm ne_eq not_true_eq_false not_false_eq_true true_and and_true List.length_cons List.length_nil Int.toNat_natCast Nat.add_zero Nat.zero_add Nat.mul_one List.getElem?_cons_zero List.drop_zero List.take_length List.take_succ_cons List.take_zero List.take_nil List.drop_succ_cons Option.map_some Nat.le_refl implies_true List.getElem?_cons_succ decide_true decide_false Bool.not_true Bool.not_false beq_self_eq_true Nat.succ_ne_self Nat.one_ne_zero Nat.zero_ne_one vk_mk hk_mk nk_mk tok_eq plsOf_map intsOf_map bodyOf_pl bodyOf_ints bodyOf_strs bodyOf_sv part_aggv part_agg part_ai part_int part_str part_bool part_sl part_ptr part_nil numsOf_map u_int u_str u_bool u_pnil u_sl u_ptr u_oci u_ocs evq_nil evq_cons fillS_nil fillS_cons u_ocb ones_pl cells_sv cells_ints cells_strs cells_pl smms_nil smms_cons smm_min smm_max plsOf_nil List.nil_append List.all_cons List.all_nil Bool.and_self Bool.true_and Bool.and_true zws_len zw_len zi_len List.set_cons_zero List.set_cons_succ List.flatMap_cons List.flatMap_nil List.append_nil
open Go.Proofs
variable {H : Hp} {n : Nat} {x : Nat → Option SO} {d d' : Fd} {i a b c : Nat} {u1 u2 u3 : Bool}

def fcO (M0 M1 M2 : Nat) (x : Nat → Option SO) (p : Nat × Fd × Fd) : St :=
  ⟨[(0, .sl 1003 0 M0 4), (1, .sl 1007 0 M1 4), (2, .sl 1011 0 M2 4), (7, .ptr 1 0), (10, .ptr 5 0), (57, .v (.int .i64 p.1))], ⟨devL p.2.1 1 2 3 4 (devL p.2.2 5 6 7 8 []), x⟩, 9⟩
def fcN (M0 M1 M2 i : Nat) (x : Nat → Option SO) (p : Nat × Fd × Fd) : St :=
  ⟨[(0, .sl 1003 0 M0 4), (1, .sl 1007 0 M1 4), (2, .sl 1011 0 M2 4), (7, .ptr 1 0), (10, .ptr 5 0), (11, .v (.int .i64 i)), (57, .v (.int .i64 i)), (62, .agg [.sl 1007 0 M1 4, .sl 1011 0 M2 4]), (63, .v (.int .i64 p.1))], ⟨devL p.2.1 1 2 3 4 (devL p.2.2 5 6 7 8 []), x⟩, 9⟩
/-- A list, cut. -/
theorem LIn.cut {l : LV} (h : LIn x l) {M : Nat} (hM : M ≤ l.M) : LIn x { l with M := M } := ⟨by have := h.lem; simp only; omega, by have := h.few; simp only; omega, h.big, h.row, h.nest, h.rng, h.len⟩
theorem run_Pl {k : Nat} : ∀ {l : List OpV} {p : Fd × ByteArray × Int} {t : Nat}, (∀ o ∈ l, o.rng) → Pl p.1 k t → t + l.length < 1000000 → Pl (run p l).1 k (t + l.length)
  | [], p, t, _, h, _ => h
  | o :: l, p, t, hr, h, ht => by
    simp only [List.length_cons] at ht ⊢
    have := run_Pl (l := l) (p := opT p.1 o) (t := t + 1) (fun o' ho => hr o' (List.mem_cons_of_mem _ ho)) (opDV_ok (t := t) h (hr o (List.mem_cons_self ..)) (by omega)) (by omega)
    rw [show t + (l.length + 1) = t + 1 + l.length by omega]
    exact this
theorem LIn.rngs {l : LV} (h : LIn x l) : ∀ o ∈ l.ops, o.rng := fun o ho => by
  obtain ⟨j, hj⟩ := List.getElem?_of_mem ho
  have := h.rng j (List.getElem?_eq_some_iff.1 hj).1
  rw [List.getD_eq_getElem?_getD, hj] at this
  exact this
theorem w7 {ops1 ops2 ops3 : List OpV} {m1 m2 m3 : Nat} (h1 : LIn x ⟨1003, 0, ops1, min m1 40⟩) (h2 : LIn x ⟨1007, 1, ops2, min m2 20⟩) (h3 : LIn x ⟨1011, 2, ops3, min m3 20⟩) :
    fnVC C3 m7 [.sl 1003 0 m1 4, .sl 1007 0 m2 4, .sl 1011 0 m3 4] ⟨[], x⟩ 1 fun v H' n' => Sub 1 ⟨[(0, .v (.bool true))], ⟨[], x⟩, 1⟩ ⟨[(0, v)], H', n'⟩ := by
  have q1 : min (m1 : Int) 40 = ((min m1 40 : Nat) : Int) := by omega
  have q2 : min (m2 : Int) 20 = ((min m2 20 : Nat) : Int) := by omega
  have q3 : min (m3 : Int) 20 = ((min m3 20 : Nat) : Int) := by omega
  have r1 : min m1 40 ≤ m1 ∧ min m1 40 ≤ 40 := by omega
  have r2 : min m2 20 ≤ m2 ∧ min m2 20 ≤ 20 := by omega
  have r3 : min m3 20 ≤ m3 ∧ min m3 20 ≤ 20 := by omega
  unfold m7
  simp -implicitDefEqProofs only [↓fnVC, initTm]
  simp -implicitDefEqProofs only [go_sem, ↓reduceIte, Nat.reduceEqDiff, Nat.reduceAdd, Nat.reduceMul, Nat.reduceLT, Nat.reduceLeDiff, Nat.reduceSub, Int.reduceToNat, Int.reduceLE, Int.reduceLT, reduceCtorEq, Int.reduceEq, Int.reduceGT, Int.reduceGE, Int.reduceNeg]
  refine at_call t9 keS ?_
  simp -implicitDefEqProofs only [go_sem, ↓reduceIte, Nat.reduceEqDiff, Nat.reduceAdd, Nat.reduceMul, Nat.reduceLT, Nat.reduceLeDiff, Nat.reduceSub, Int.reduceToNat, Int.reduceLE, Int.reduceLT, reduceCtorEq, Int.reduceEq, Int.reduceGT, Int.reduceGE, Int.reduceNeg, q1, q2, q3, Nat.sub_zero]
  generalize min m1 40 = M0 at *
  generalize min m2 20 = M1 at *
  generalize min m3 20 = M2 at *
  refine ⟨by omega, by omega, by omega, ?_⟩
  obtain ⟨z0, ez0⟩ : ∃ z, runs (newD 9, ⟨#[]⟩, 0) [⟨1003, 0, ops1, M0⟩] = z := ⟨_, rfl⟩
  have hP0 : Pl z0.1 9 (0 + (ops1.take M0).length) := ez0 ▸ run_Pl (l := ops1.take M0) (p := (newD 9, ⟨#[]⟩, 0)) (t := 0) (fun o ho => h1.rngs o (List.mem_of_mem_take ho)) (Pl.new (by decide)) (by simp; omega)
  refine at_call t23 (lvG (Ls := [⟨1003, 0, ops1, M0⟩]) rfl (by decide) rfl (by decide) (by simpa using h1) ez0 (by decide)) ?_
  simp -implicitDefEqProofs only [go_sem, ↓reduceIte, Nat.reduceEqDiff, Nat.reduceAdd, Nat.reduceMul, Nat.reduceLT, Nat.reduceLeDiff, Nat.reduceSub, Int.reduceToNat, Int.reduceLE, Int.reduceLT, reduceCtorEq, Int.reduceEq, Int.reduceGT, Int.reduceGE, Int.reduceNeg, devL_eq]
  refine at_call t13 (cpS (i := 2) (a := 3) (b := 4) (c := 5) ⟨rfl, rfl, rfl, rfl, by decide⟩ hP0.ok (by rw [hP0.len]; decide) (by decide)) ?_
  simp -implicitDefEqProofs only [go_sem, ↓reduceIte, Nat.reduceEqDiff, Nat.reduceAdd, Nat.reduceMul, Nat.reduceLT, Nat.reduceLeDiff, Nat.reduceSub, Int.reduceToNat, Int.reduceLE, Int.reduceLT, reduceCtorEq, Int.reduceEq, Int.reduceGT, Int.reduceGE, Int.reduceNeg]
  replace hP0 : Pl z0.1 9 40 := hP0.mono (by simp; omega)
  refine loop_fam (fun (p : Nat × Fd × Fd) => p.1 ≤ 20 ∧ p.2.1 = (run z0 (ops2.take (min p.1 M1))).1 ∧ p.2.2 = (run z0 (ops3.take (min p.1 M2))).1) (fcO M0 M1 M2 x) (fun p => 20 - p.1) (0, z0.1, z0.1) ⟨Nat.zero_le 20, by simp [run], by simp [run]⟩ ?_ ?_
  · unfold fcO devL
    refine sub_mk [(1, 2), (2, 3), (3, 4), (4, 5), (5, 6), (6, 7), (7, 8), (8, 9)] rfl rfl rfl ?_
    simp only [tmSub, hpSub, objSub, eqTm, eqHp, rn, lk, SV.ren, SV.renC, SV.renB, SV.renA, ren_ints, ren_strs, ren_pl, ren_svs, SV.v.injEq, Value.int.injEq, Body.ints.injEq, SV.ptr.injEq, SV.sl.injEq, Value.string.injEq, Value.bool.injEq, List.map_cons, List.map_nil, forall_const, Nat.reduceLT, Nat.lt_add_one, imp_self, true_and, and_true, and_self, ob_some, get_mk, lk_cons, ↓reduceIte, Nat.reduceEqDiff, ne_eq, not_true_eq_false, not_false_eq_true, Nat.one_ne_zero, Nat.zero_ne_one, Nat.succ_ne_self, Nat.reduceAdd, Bool.false_eq_true, false_implies, implies_true, reduceCtorEq]
    repeat' (first | rfl | apply And.intro)
  · rintro ⟨i, d, c⟩ ⟨hi, hd, hc⟩
    simp only at hi hd hc
    unfold fcO
    simp -implicitDefEqProofs only [go_sem, ↓reduceIte, Nat.reduceEqDiff, Nat.reduceAdd, Nat.reduceMul, Nat.reduceLT, Nat.reduceLeDiff, Nat.reduceSub, Int.reduceToNat, Int.reduceLE, Int.reduceLT, reduceCtorEq, Int.reduceEq, Int.reduceGT, Int.reduceGE, Int.reduceNeg, devL_eq]
    refine condK_bb (fun e1 => ?_) (fun e1 => ?_)
    · have c1 : i < 20 := by simp only [decide_eq_true_eq] at e1; omega
      simp -implicitDefEqProofs only [go_sem, ↓reduceIte, Nat.reduceEqDiff, Nat.reduceAdd, Nat.reduceMul, Nat.reduceLT, Nat.reduceLeDiff, Nat.reduceSub, Int.reduceToNat, Int.reduceLE, Int.reduceLT, reduceCtorEq, Int.reduceEq, Int.reduceGT, Int.reduceGE, Int.reduceNeg, splice_zero, splice_succ, List.cons_append]
      refine loop_fam (fun (p : Nat × Fd × Fd) => p.1 ≤ 2 ∧ p.2.1 = (run z0 (ops2.take (min (if 1 ≤ p.1 then i + 1 else i) M1))).1 ∧ p.2.2 = (run z0 (ops3.take (min (if 2 ≤ p.1 then i + 1 else i) M2))).1) (fcN M0 M1 M2 i x) (fun p => 2 - p.1) (0, d, c) ⟨Nat.zero_le 2, hd, hc⟩ ?_ ?_
      · unfold fcN devL
        refine sub_mk [] rfl rfl rfl ?_
        simp only [tmSub, hpSub, objSub, eqTm, eqHp, rn, lk, SV.ren, SV.renC, SV.renB, SV.renA, ren_ints, ren_strs, ren_pl, ren_svs, SV.v.injEq, Value.int.injEq, Body.ints.injEq, SV.ptr.injEq, SV.sl.injEq, Value.string.injEq, Value.bool.injEq, List.map_cons, List.map_nil, forall_const, Nat.reduceLT, Nat.lt_add_one, imp_self, true_and, and_true, and_self, ob_some, get_mk, lk_cons, ↓reduceIte, Nat.reduceEqDiff, ne_eq, not_true_eq_false, not_false_eq_true, Nat.one_ne_zero, Nat.zero_ne_one, Nat.succ_ne_self, Nat.reduceAdd, Bool.false_eq_true, false_implies, implies_true, reduceCtorEq]
        repeat' (first | rfl | apply And.intro)
      · rintro ⟨k, d, c⟩ ⟨hk, hd, hc⟩
        simp only at hk hd hc
        unfold fcN
        simp -implicitDefEqProofs only [go_sem, ↓reduceIte, Nat.reduceEqDiff, Nat.reduceAdd, Nat.reduceMul, Nat.reduceLT, Nat.reduceLeDiff, Nat.reduceSub, Int.reduceToNat, Int.reduceLE, Int.reduceLT, reduceCtorEq, Int.reduceEq, Int.reduceGT, Int.reduceGE, Int.reduceNeg, devL_eq]
        rcases (by omega : k = 0 ∨ k = 1 ∨ k = 2) with rfl | rfl | rfl
        · have e1 : decide ((0 : Int) < 2) = true := rfl
          simp -implicitDefEqProofs only [go_sem, ↓reduceIte, Nat.reduceEqDiff, Nat.reduceAdd, Nat.reduceMul, Nat.reduceLT, Nat.reduceLeDiff, Nat.reduceSub, Int.reduceToNat, Int.reduceLE, Int.reduceLT, reduceCtorEq, Int.reduceEq, Int.reduceGT, Int.reduceGE, Int.reduceNeg, Int.cast_ofNat_Int, Int.toNat_zero]
          refine condK_bb (fun e2 => ?_) (fun e2 => ?_)
          · have c2 : M1 ≤ i := by simp only [decide_eq_true_eq] at e2; omega
            have hw : IntKind.i64.wrap ((0 : Int) + 1) = ((0 + 1 : Nat) : Int) := rfl
            simp -implicitDefEqProofs only [go_sem, ↓reduceIte, Nat.reduceEqDiff, Nat.reduceAdd, Nat.reduceMul, Nat.reduceLT, Nat.reduceLeDiff, Nat.reduceSub, Int.reduceToNat, Int.reduceLE, Int.reduceLT, reduceCtorEq, Int.reduceEq, Int.reduceGT, Int.reduceGE, Int.reduceNeg, hw, Int.cast_ofNat_Int]
            refine kLoop_mk (0 + 1, d, c) ⟨by simp only; omega, ?_, ?_⟩ (by simp only; omega) ?_
            · simp only
              rw [hd, if_neg (by decide), if_pos (by decide), show min (i + 1) M1 = min i M1 by omega]
            · simp only
              rw [hc, if_neg (by decide), if_neg (by decide)]
            unfold devL
            refine sub_mk [] rfl rfl rfl ?_
            simp only [tmSub, hpSub, objSub, eqTm, eqHp, rn, lk, SV.ren, SV.renC, SV.renB, SV.renA, ren_ints, ren_strs, ren_pl, ren_svs, SV.v.injEq, Value.int.injEq, Body.ints.injEq, SV.ptr.injEq, SV.sl.injEq, Value.string.injEq, Value.bool.injEq, List.map_cons, List.map_nil, forall_const, Nat.reduceLT, Nat.lt_add_one, imp_self, true_and, and_true, and_self, ob_some, get_mk, lk_cons, ↓reduceIte, Nat.reduceEqDiff, ne_eq, not_true_eq_false, not_false_eq_true, Nat.one_ne_zero, Nat.zero_ne_one, Nat.succ_ne_self, Nat.reduceAdd, Bool.false_eq_true, false_implies, implies_true, reduceCtorEq]
            repeat' (first | rfl | apply And.intro)
          · have c2 : i < M1 := by simp only [decide_eq_false_iff_not] at e2; omega
            have hlem := h2.lem
            simp only at hlem
            have hw : IntKind.i64.wrap ((i : Int) + 1) = ((i + 1 : Nat) : Int) := by rw [wrap_i64 (by omega) (by omega)]; omega
            simp -implicitDefEqProofs only [go_sem, ↓reduceIte, Nat.reduceEqDiff, Nat.reduceAdd, Nat.reduceMul, Nat.reduceLT, Nat.reduceLeDiff, Nat.reduceSub, Int.reduceToNat, Int.reduceLE, Int.reduceLT, reduceCtorEq, Int.reduceEq, Int.reduceGT, Int.reduceGE, Int.reduceNeg, hw, Nat.sub_zero]
            obtain ⟨V, eV⟩ : ∃ V, run z0 (ops2.take (i + 1)) = V := ⟨_, rfl⟩
            have hRow := h2.row
            have hOl := orow_len (A := 1) (l := ops2) (j := 0)
            have hra := orow_at (A := 1) (o0 := o00) (l := ops2) (j0 := 0) (j := i) (by omega)
            have hsu := run_succ (p := z0) (l := ops2) (o0 := o00) (t := i) (by omega)
            have y5 := h2.nest i (by simp only; omega)
            have y6 := h2.rng i (by simp only; omega)
            have y7 := h2.len i (by simp only; omega)
            simp only at hRow y5 y6 y7
            generalize ops2.getD i o00 = o at hra hsu y5 y6 y7
            rw [Nat.zero_add] at hra
            have hge : 1000 ≤ 1000 + 4 * i + 1 := by omega
            generalize 1000 + 4 * i + 1 = rid at hra y5 hge
            have hrow : ∀ l : List (Nat × Option SO), (∀ e ∈ l, e.1 < 1000) → rowAt ⟨l, x⟩ rid (.ints .i64 []) = some (.ints .i64 o.zs) := fun l hl => by
              unfold rowAt Hp.get
              rw [lk_out hl hge]
              simp only [y5]
              rw [if_neg (by omega)]; rfl
            have hD : d = (run z0 (ops2.take i)).1 := by rw [hd, if_neg (by decide), show min i M1 = i by omega]
            have hPd : Pl d 9 (40 + i) := by
              rw [hD]
              exact (run_Pl (l := ops2.take i) (t := 40) (fun o ho => h2.rngs o (List.mem_of_mem_take ho)) hP0 (by simp; omega)).mono (by simp; omega)
            have hV : opT d o = V := by rw [← eV, hsu, hD]
            have hOp : opDV d o = (V.1, ansV V.2.1 V.2.2) := by rw [opDV_T, hV]
            have hVr : runs (newD 9, ⟨#[]⟩, 0) [⟨1003, 0, ops1, M0⟩, ⟨1007, 1, ops2, i + 1⟩] = V := by rw [← eV, ← ez0]; rfl
            have hLs : ∀ l ∈ [(⟨1003, 0, ops1, M0⟩ : LV), ⟨1007, 1, ops2, i + 1⟩], LIn x l := by
              intro l hl
              simp only [List.mem_cons, List.not_mem_nil, or_false] at hl
              rcases hl with rfl | rfl
              · exact h1
              · exact h2.cut (M := i + 1) (by simp only; omega)
            refine ⟨by omega, at_call t23 (lvG (Ls := [⟨1003, 0, ops1, M0⟩, ⟨1007, 1, ops2, i + 1⟩]) rfl (by decide) rfl (by decide) hLs hVr (by decide)) ?_⟩
            simp -implicitDefEqProofs only [go_sem, ↓reduceIte, Nat.reduceEqDiff, Nat.reduceAdd, Nat.reduceMul, Nat.reduceLT, Nat.reduceLeDiff, Nat.reduceSub, Int.reduceToNat, Int.reduceLE, Int.reduceLT, reduceCtorEq, Int.reduceEq, Int.reduceGT, Int.reduceGE, Int.reduceNeg, devL_eq, hRow, hra, ocell, splice_zero, splice_succ, List.cons_append]
            refine ⟨by omega, by omega, by omega, at_call t24 (opG (d := d) (d' := V.1) (v := ansV V.2.1 V.2.2) (o := o) (i := 1) (a := 2) (b := 3) (c := 4) (r := rid) ⟨rfl, rfl, rfl, rfl, by decide⟩ hPd (by decide) y6.1.1 y7 (hrow _ (by simp)) (by omega) (by decide) hOp) ?_⟩
            have hw2 : IntKind.i64.wrap ((0 : Int) + 1) = ((0 + 1 : Nat) : Int) := rfl
            simp -implicitDefEqProofs only [go_sem, ↓reduceIte, Nat.reduceEqDiff, Nat.reduceAdd, Nat.reduceMul, Nat.reduceLT, Nat.reduceLeDiff, Nat.reduceSub, Int.reduceToNat, Int.reduceLE, Int.reduceLT, reduceCtorEq, Int.reduceEq, Int.reduceGT, Int.reduceGE, Int.reduceNeg, ansV, seq_self3, hw2, bne_self_eq_false, Int.cast_ofNat_Int]
            refine kLoop_mk (0 + 1, V.1, c) ⟨by simp only; omega, ?_, ?_⟩ (by simp only; omega) ?_
            · simp only
              rw [if_pos (by decide), show min (i + 1) M1 = i + 1 by omega, eV]
            · simp only
              rw [hc, if_neg (by decide), if_neg (by decide)]
            unfold devL
            refine sub_mk [(2, 14), (3, 15), (4, 16)] rfl rfl rfl ?_
            simp only [tmSub, hpSub, objSub, eqTm, eqHp, rn, lk, SV.ren, SV.renC, SV.renB, SV.renA, ren_ints, ren_strs, ren_pl, ren_svs, SV.v.injEq, Value.int.injEq, Body.ints.injEq, SV.ptr.injEq, SV.sl.injEq, Value.string.injEq, Value.bool.injEq, List.map_cons, List.map_nil, forall_const, Nat.reduceLT, Nat.lt_add_one, imp_self, true_and, and_true, and_self, ob_some, get_mk, lk_cons, ↓reduceIte, Nat.reduceEqDiff, ne_eq, not_true_eq_false, not_false_eq_true, Nat.one_ne_zero, Nat.zero_ne_one, Nat.succ_ne_self, Nat.reduceAdd, Bool.false_eq_true, false_implies, implies_true, reduceCtorEq]
            repeat' (first | rfl | apply And.intro)
        · have e1 : decide ((1 : Int) < 2) = true := rfl
          simp -implicitDefEqProofs only [go_sem, ↓reduceIte, Nat.reduceEqDiff, Nat.reduceAdd, Nat.reduceMul, Nat.reduceLT, Nat.reduceLeDiff, Nat.reduceSub, Int.reduceToNat, Int.reduceLE, Int.reduceLT, reduceCtorEq, Int.reduceEq, Int.reduceGT, Int.reduceGE, Int.reduceNeg, Int.cast_ofNat_Int, Int.toNat_zero]
          refine condK_bb (fun e2 => ?_) (fun e2 => ?_)
          · have c2 : M2 ≤ i := by simp only [decide_eq_true_eq] at e2; omega
            have hw : IntKind.i64.wrap ((1 : Int) + 1) = ((1 + 1 : Nat) : Int) := rfl
            simp -implicitDefEqProofs only [go_sem, ↓reduceIte, Nat.reduceEqDiff, Nat.reduceAdd, Nat.reduceMul, Nat.reduceLT, Nat.reduceLeDiff, Nat.reduceSub, Int.reduceToNat, Int.reduceLE, Int.reduceLT, reduceCtorEq, Int.reduceEq, Int.reduceGT, Int.reduceGE, Int.reduceNeg, hw, Int.cast_ofNat_Int]
            refine kLoop_mk (1 + 1, d, c) ⟨by simp only; omega, ?_, ?_⟩ (by simp only; omega) ?_
            · simp only
              rw [hd, if_pos (by decide), if_pos (by decide)]
            · simp only
              rw [hc, if_neg (by decide), if_pos (by decide), show min (i + 1) M2 = min i M2 by omega]
            unfold devL
            refine sub_mk [] rfl rfl rfl ?_
            simp only [tmSub, hpSub, objSub, eqTm, eqHp, rn, lk, SV.ren, SV.renC, SV.renB, SV.renA, ren_ints, ren_strs, ren_pl, ren_svs, SV.v.injEq, Value.int.injEq, Body.ints.injEq, SV.ptr.injEq, SV.sl.injEq, Value.string.injEq, Value.bool.injEq, List.map_cons, List.map_nil, forall_const, Nat.reduceLT, Nat.lt_add_one, imp_self, true_and, and_true, and_self, ob_some, get_mk, lk_cons, ↓reduceIte, Nat.reduceEqDiff, ne_eq, not_true_eq_false, not_false_eq_true, Nat.one_ne_zero, Nat.zero_ne_one, Nat.succ_ne_self, Nat.reduceAdd, Bool.false_eq_true, false_implies, implies_true, reduceCtorEq]
            repeat' (first | rfl | apply And.intro)
          · have c2 : i < M2 := by simp only [decide_eq_false_iff_not] at e2; omega
            have hlem := h3.lem
            simp only at hlem
            have hw : IntKind.i64.wrap ((i : Int) + 1) = ((i + 1 : Nat) : Int) := by rw [wrap_i64 (by omega) (by omega)]; omega
            simp -implicitDefEqProofs only [go_sem, ↓reduceIte, Nat.reduceEqDiff, Nat.reduceAdd, Nat.reduceMul, Nat.reduceLT, Nat.reduceLeDiff, Nat.reduceSub, Int.reduceToNat, Int.reduceLE, Int.reduceLT, reduceCtorEq, Int.reduceEq, Int.reduceGT, Int.reduceGE, Int.reduceNeg, hw, Nat.sub_zero]
            obtain ⟨V, eV⟩ : ∃ V, run z0 (ops3.take (i + 1)) = V := ⟨_, rfl⟩
            have hRow := h3.row
            have hOl := orow_len (A := 2) (l := ops3) (j := 0)
            have hra := orow_at (A := 2) (o0 := o00) (l := ops3) (j0 := 0) (j := i) (by omega)
            have hsu := run_succ (p := z0) (l := ops3) (o0 := o00) (t := i) (by omega)
            have y5 := h3.nest i (by simp only; omega)
            have y6 := h3.rng i (by simp only; omega)
            have y7 := h3.len i (by simp only; omega)
            simp only at hRow y5 y6 y7
            generalize ops3.getD i o00 = o at hra hsu y5 y6 y7
            rw [Nat.zero_add] at hra
            have hge : 1000 ≤ 1000 + 4 * i + 2 := by omega
            generalize 1000 + 4 * i + 2 = rid at hra y5 hge
            have hrow : ∀ l : List (Nat × Option SO), (∀ e ∈ l, e.1 < 1000) → rowAt ⟨l, x⟩ rid (.ints .i64 []) = some (.ints .i64 o.zs) := fun l hl => by
              unfold rowAt Hp.get
              rw [lk_out hl hge]
              simp only [y5]
              rw [if_neg (by omega)]; rfl
            have hD : c = (run z0 (ops3.take i)).1 := by rw [hc, if_neg (by decide), show min i M2 = i by omega]
            have hPd : Pl c 9 (40 + i) := by
              rw [hD]
              exact (run_Pl (l := ops3.take i) (t := 40) (fun o ho => h3.rngs o (List.mem_of_mem_take ho)) hP0 (by simp; omega)).mono (by simp; omega)
            have hV : opT c o = V := by rw [← eV, hsu, hD]
            have hOp : opDV c o = (V.1, ansV V.2.1 V.2.2) := by rw [opDV_T, hV]
            have hVr : runs (newD 9, ⟨#[]⟩, 0) [⟨1003, 0, ops1, M0⟩, ⟨1011, 2, ops3, i + 1⟩] = V := by rw [← eV, ← ez0]; rfl
            have hLs : ∀ l ∈ [(⟨1003, 0, ops1, M0⟩ : LV), ⟨1011, 2, ops3, i + 1⟩], LIn x l := by
              intro l hl
              simp only [List.mem_cons, List.not_mem_nil, or_false] at hl
              rcases hl with rfl | rfl
              · exact h1
              · exact h3.cut (M := i + 1) (by simp only; omega)
            refine ⟨by omega, at_call t23 (lvG (Ls := [⟨1003, 0, ops1, M0⟩, ⟨1011, 2, ops3, i + 1⟩]) rfl (by decide) rfl (by decide) hLs hVr (by decide)) ?_⟩
            simp -implicitDefEqProofs only [go_sem, ↓reduceIte, Nat.reduceEqDiff, Nat.reduceAdd, Nat.reduceMul, Nat.reduceLT, Nat.reduceLeDiff, Nat.reduceSub, Int.reduceToNat, Int.reduceLE, Int.reduceLT, reduceCtorEq, Int.reduceEq, Int.reduceGT, Int.reduceGE, Int.reduceNeg, devL_eq, hRow, hra, ocell, splice_zero, splice_succ, List.cons_append]
            refine ⟨by omega, by omega, by omega, at_call t24 (opG (d := c) (d' := V.1) (v := ansV V.2.1 V.2.2) (o := o) (i := 5) (a := 6) (b := 7) (c := 8) (r := rid) ⟨rfl, rfl, rfl, rfl, by decide⟩ hPd (by decide) y6.1.1 y7 (hrow _ (by simp)) (by omega) (by decide) hOp) ?_⟩
            have hw2 : IntKind.i64.wrap ((1 : Int) + 1) = ((1 + 1 : Nat) : Int) := rfl
            simp -implicitDefEqProofs only [go_sem, ↓reduceIte, Nat.reduceEqDiff, Nat.reduceAdd, Nat.reduceMul, Nat.reduceLT, Nat.reduceLeDiff, Nat.reduceSub, Int.reduceToNat, Int.reduceLE, Int.reduceLT, reduceCtorEq, Int.reduceEq, Int.reduceGT, Int.reduceGE, Int.reduceNeg, ansV, seq_self3, hw2, bne_self_eq_false, Int.cast_ofNat_Int]
            refine kLoop_mk (1 + 1, d, V.1) ⟨by simp only; omega, ?_, ?_⟩ (by simp only; omega) ?_
            · simp only
              rw [hd, if_pos (by decide), if_pos (by decide)]
            · simp only
              rw [if_pos (by decide), show min (i + 1) M2 = i + 1 by omega, eV]
            unfold devL
            refine sub_mk [(6, 14), (7, 15), (8, 16)] rfl rfl rfl ?_
            simp only [tmSub, hpSub, objSub, eqTm, eqHp, rn, lk, SV.ren, SV.renC, SV.renB, SV.renA, ren_ints, ren_strs, ren_pl, ren_svs, SV.v.injEq, Value.int.injEq, Body.ints.injEq, SV.ptr.injEq, SV.sl.injEq, Value.string.injEq, Value.bool.injEq, List.map_cons, List.map_nil, forall_const, Nat.reduceLT, Nat.lt_add_one, imp_self, true_and, and_true, and_self, ob_some, get_mk, lk_cons, ↓reduceIte, Nat.reduceEqDiff, ne_eq, not_true_eq_false, not_false_eq_true, Nat.one_ne_zero, Nat.zero_ne_one, Nat.succ_ne_self, Nat.reduceAdd, Bool.false_eq_true, false_implies, implies_true, reduceCtorEq]
            repeat' (first | rfl | apply And.intro)
        · have hw : IntKind.i64.wrap ((i : Int) + 1) = ((i + 1 : Nat) : Int) := by rw [wrap_i64 (by omega) (by omega)]; omega
          simp -implicitDefEqProofs only [go_sem, ↓reduceIte, Nat.reduceEqDiff, Nat.reduceAdd, Nat.reduceMul, Nat.reduceLT, Nat.reduceLeDiff, Nat.reduceSub, Int.reduceToNat, Int.reduceLE, Int.reduceLT, reduceCtorEq, Int.reduceEq, Int.reduceGT, Int.reduceGE, Int.reduceNeg, hw, Int.cast_ofNat_Int]
          refine kLoop_mk (i + 1, d, c) ⟨by simp only; omega, by simpa using hd, by simpa using hc⟩ (by simp only; omega) ?_
          unfold devL
          refine sub_mk [] rfl rfl rfl ?_
          simp only [tmSub, hpSub, objSub, eqTm, eqHp, rn, lk, SV.ren, SV.renC, SV.renB, SV.renA, ren_ints, ren_strs, ren_pl, ren_svs, SV.v.injEq, Value.int.injEq, Body.ints.injEq, SV.ptr.injEq, SV.sl.injEq, Value.string.injEq, Value.bool.injEq, List.map_cons, List.map_nil, forall_const, Nat.reduceLT, Nat.lt_add_one, imp_self, true_and, and_true, and_self, ob_some, get_mk, lk_cons, ↓reduceIte, Nat.reduceEqDiff, ne_eq, not_true_eq_false, not_false_eq_true, Nat.one_ne_zero, Nat.zero_ne_one, Nat.succ_ne_self, Nat.reduceAdd, Bool.false_eq_true, false_implies, implies_true, reduceCtorEq]
          repeat' (first | rfl | apply And.intro)
    · simp -implicitDefEqProofs only [go_sem, ↓reduceIte, Nat.reduceEqDiff, Nat.reduceAdd, Nat.reduceMul, Nat.reduceLT, Nat.reduceLeDiff, Nat.reduceSub, Int.reduceToNat, Int.reduceLE, Int.reduceLT, reduceCtorEq, Int.reduceEq, Int.reduceGT, Int.reduceGE, Int.reduceNeg]
      have c1 : i = 20 := by simp only [decide_eq_false_iff_not] at e1; omega
      rw [show min i M1 = M1 by omega] at hd
      rw [show min i M2 = M2 by omega] at hc
      have hx1 : runs (newD 9, ⟨#[]⟩, 0) [⟨1003, 0, ops1, M0⟩, ⟨1007, 1, ops2, M1⟩] = run z0 (ops2.take M1) := by rw [← ez0]; rfl
      have hx2 : runs (newD 9, ⟨#[]⟩, 0) [⟨1003, 0, ops1, M0⟩, ⟨1011, 2, ops3, M2⟩] = run z0 (ops3.take M2) := by rw [← ez0]; rfl
      have hPd : Pl d 9 60 := by
        rw [hd]
        exact (run_Pl (l := ops2.take M1) (t := 40) (fun o ho => h2.rngs o (List.mem_of_mem_take ho)) hP0 (by simp; omega)).mono (by simp; omega)
      have hPc : Pl c 9 60 := by
        rw [hc]
        exact (run_Pl (l := ops3.take M2) (t := 40) (fun o ho => h3.rngs o (List.mem_of_mem_take ho)) hP0 (by simp; omega)).mono (by simp; omega)
      generalize run z0 (ops2.take M1) = V at hx1 hd
      generalize run z0 (ops3.take M2) = U at hx2 hc
      refine at_call t23 (lvG (Ls := [⟨1003, 0, ops1, M0⟩, ⟨1007, 1, ops2, M1⟩]) rfl (by decide) rfl (by decide) (by simpa using ⟨h1, h2⟩) hx1 (by decide)) ?_
      simp -implicitDefEqProofs only [go_sem, ↓reduceIte, Nat.reduceEqDiff, Nat.reduceAdd, Nat.reduceMul, Nat.reduceLT, Nat.reduceLeDiff, Nat.reduceSub, Int.reduceToNat, Int.reduceLE, Int.reduceLT, reduceCtorEq, Int.reduceEq, Int.reduceGT, Int.reduceGE, Int.reduceNeg, devL_eq, splice_zero, splice_succ, List.cons_append]
      refine at_call t23 (lvG (Ls := [⟨1003, 0, ops1, M0⟩, ⟨1011, 2, ops3, M2⟩]) rfl (by decide) rfl (by decide) (by simpa using ⟨h1, h3⟩) hx2 (by decide)) ?_
      rw [← hd, ← hc]
      simp -implicitDefEqProofs only [go_sem, ↓reduceIte, Nat.reduceEqDiff, Nat.reduceAdd, Nat.reduceMul, Nat.reduceLT, Nat.reduceLeDiff, Nat.reduceSub, Int.reduceToNat, Int.reduceLE, Int.reduceLT, reduceCtorEq, Int.reduceEq, Int.reduceGT, Int.reduceGE, Int.reduceNeg, devL_eq]
      refine at_call t25 (alG (d := d) (i := 1) (a := 2) (b := 3) (c := 4) (j := 10) (p := 11) (q := 12) (r := 13) ⟨rfl, rfl, rfl, rfl, by decide⟩ ⟨rfl, rfl, rfl, rfl, by decide⟩ hPd (by decide)) ?_
      simp -implicitDefEqProofs only [go_sem, ↓reduceIte, Nat.reduceEqDiff, Nat.reduceAdd, Nat.reduceMul, Nat.reduceLT, Nat.reduceLeDiff, Nat.reduceSub, Int.reduceToNat, Int.reduceLE, Int.reduceLT, reduceCtorEq, Int.reduceEq, Int.reduceGT, Int.reduceGE, Int.reduceNeg]
      refine at_call t25 (alG (d := c) (i := 5) (a := 6) (b := 7) (c := 8) (j := 15) (p := 16) (q := 17) (r := 18) ⟨rfl, rfl, rfl, rfl, by decide⟩ ⟨rfl, rfl, rfl, rfl, by decide⟩ hPc (by decide)) ?_
      simp -implicitDefEqProofs only [go_sem, ↓reduceIte, Nat.reduceEqDiff, Nat.reduceAdd, Nat.reduceMul, Nat.reduceLT, Nat.reduceLeDiff, Nat.reduceSub, Int.reduceToNat, Int.reduceLE, Int.reduceLT, reduceCtorEq, Int.reduceEq, Int.reduceGT, Int.reduceGE, Int.reduceNeg]
      exact sub_val rfl (by decide) (by decide) rfl
theorem s7 {ops1 ops2 ops3 : List OpV} {m1 m2 m3 : Nat} (h1 : LIn x ⟨1003, 0, ops1, min m1 40⟩) (h2 : LIn x ⟨1007, 1, ops2, min m2 20⟩) (h3 : LIn x ⟨1011, 2, ops3, min m3 20⟩) :
    SpecAt Try.prog 7 [.sl 1003 0 m1 4, .sl 1007 0 m2 4, .sl 1011 0 m3 4] ⟨[], x⟩ 1 (.v (.bool true)) ⟨[], x⟩ 1 := ok3.spec t7 (w7 h1 h2 h3)
theorem lin_of {W : World} {v : Value} {ops : List OpV} {m M rid A : Nat} {lf : Nat → Loc} (g : OpsIn W v ops m lf) (hM : M ≤ m) (hf : M ≤ 1000) (hb : 1000 ≤ rid) (hr : x rid = some ⟨false, .sv (orow A 0 ops)⟩)
    (hn : ∀ j, j < ops.length → x (1000 + 4 * j + A) = some ⟨false, .ints .i64 (ops.getD j o00).zs⟩) : LIn x ⟨rid, A, ops, M⟩ :=
  ⟨by have := g.lem; simp only; omega, hf, hb, hr, hn, g.rng, fun j hj => by
    obtain ⟨vs, _, hv, _⟩ := g.ok
    obtain ⟨kv, _, hk⟩ := hv j hj
    exact hk.len⟩
end Go.Sx
