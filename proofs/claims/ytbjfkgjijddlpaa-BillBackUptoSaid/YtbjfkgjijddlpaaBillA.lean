/- Bills: sizes of chunks, how many there are, whether a bill is good. -/
import Derived.Test.YtbjfkgjijddlpaaPack
import Derived.Laws.Strings

set_option linter.unusedVariables false
set_option linter.unusedSimpArgs false
set_option maxRecDepth 100000
namespace Go.Sx
attribute [local go_sem ↓] bind_mk intsB_mk strsB_mk svB_mk fnVC ob_some vc_skip vc_exit vc_ret vc_seq vc_block kSeq_normal kSeq_exit kSeq_ret kBlock_normal kBlock_exit kBlock_ret vc_reg vc_regD vc_cond condK_true condK_false vc_loop kLoop_exit kLoop_ret kRoll_normal kRoll_exit kRoll_ret vcOps_nil vcOps_cons gd_bool gd_undef put_some put_none vcT_fin vcT_pure vcT_act vcT_acts vcT_stop stab_none stab_some stabM_nil stabM_cons stabO_ld stabO_ldn stabO_slP stabO_b2s fldOf_ai fldOf_agg fldOf_ait fldOf_aggt intsOf_nil intsOf_cons strsOf_nil strsOf_cons c_omap ob_if lk_nil lk_cons ev_t ev_k z_mov z_pick z_bin z_binB z_binP z_un z_r2s z_conv z_s2b z_b2s z_alloc z_bld z_bldI z_rowI z_rowS z_ld z_ldn z_st z_stn asN_ptr asN_fn z_nilck z_fld z_fadr z_idxA z_idxP z_idxS z_idxV z_slS z_slL z_slP z_mk z_lenS z_lenL z_app appC_ints appC_pl appC_sv appC_strs isS_strs loose_ints loose_pl loose_sv z_slM z_callv callvK_fn callvK_f callvK_yl vc_rangeF rfEnd_eq rfGo_none rfGo_ret rfGo_exit yGo_mk yEnd_n yEnd_r yEnd_e yRdy_mk yMid_n putPs_nil putPs_cons leaf_v leaf_ptr leaf_sl leaf_yl leaf_mp z_appS z_appZ z_cpyS z_mkfn reps_int reps_str z_rowV z_slnil nilK_zero z_cpy z_call asT_tup z_extT z_box boxOf_ai boxOf_agg boxOf_int boxOf_str boxOf_bool boxOf_ptr boxOf_sl sbin_int sbin_str sbinB_mk sbinP_nn sbinP_pn sbinP_np i_add i_sub i_mul i_quo i_rem i_and i_or i_xor i_andNot i_shl i_shr i_eql i_neq i_lss i_leq i_gtr i_geq st_add st_eql st_neq st_lss st_leq st_gtr st_geq bo_eql bo_neq pt_eql pt_neq un_neg un_xor un_not asI_mk asB_mk asS_mk asP_mk asSl_mk asBy_mk bnd_none bnd_some get_mk hput_mk hdel_mk kill_eq wrOf_eq rowOf_eq rsvs_0 rsvs_1 rsvs_2 rsvs_3 rsv_t rsv_c1 rsv_cn nt_v nt_ptr nt_sl nt_agg nt_ai get_ints get_strs get_pl get_sv getN_ints getN_sv set_ints set_strs set_sv setN_ints setN_sv part_ints part_strs part_sv cat_ints cat_strs cat_sv over_ints over_strs over_sv ones_ints ones_strs evs_nil evs_cons condK_eqt condK_eqf det_callP V_ns V_nn V_gs V_gn obC_mk fresh_ev setN_plagg setN_intsv setN_svai setN_svagg over_intsv set_pl setN_pl setN_plai getN_pl getN_strs part_pl cat_pl over_pl over_plints z_mm
attribute [local go_sem] initTm ne_eq not_true_eq_false not_false_eq_true true_and and_true List.length_cons List.length_nil Int.toNat_natCast Nat.add_zero Nat.zero_add Nat.mul_one List.getElem?_cons_zero List.drop_zero List.take_length List.take_succ_cons List.take_zero List.take_nil List.drop_succ_cons Option.map_some Nat.le_refl implies_true List.getElem?_cons_succ decide_true decide_false Bool.not_true Bool.not_false beq_self_eq_true Nat.succ_ne_self Nat.one_ne_zero Nat.zero_ne_one vk_mk hk_mk nk_mk tok_eq plsOf_map intsOf_map bodyOf_pl bodyOf_ints bodyOf_strs bodyOf_sv part_aggv part_agg part_ai part_int part_str part_bool part_sl part_ptr part_nil numsOf_map u_int u_str u_bool u_pnil u_sl u_ptr u_oci u_ocs evq_nil evq_cons fillS_nil fillS_cons u_ocb ones_pl cells_sv cells_ints cells_strs cells_pl smms_nil smms_cons smm_min smm_max plsOf_nil List.nil_append List.all_cons List.all_nil Bool.and_self Bool.true_and Bool.and_true zws_len zw_len zi_len List.set_cons_zero List.set_cons_succ List.flatMap_cons List.flatMap_nil List.append_nil
open Go.Proofs
variable {H : Hp} {n : Nat} {x : Nat → Option SO}

def partB (c : Int) : Bool := decide (c = 64 ∨ c = 128 ∨ c = 256 ∨ c = 512 ∨ c = 1024)
def partL : Bool := (List.range 961).all fun k => decide (iand .i64 ((k + 64 : Nat) : Int) ((k + 63 : Nat) : Int) = 0) == partB ((k + 64 : Nat) : Int)
theorem partL_ok : partL = true := by decide +kernel
theorem part_iand {c : Int} (h1 : 64 ≤ c) (h2 : c ≤ 1024) : decide (iand .i64 c (c - 1) = 0) = partB c := by
  have h := partL_ok
  unfold partL at h
  rw [List.all_eq_true] at h
  have := h (c - 64).toNat (List.mem_range.2 (by omega))
  rw [beq_iff_eq] at this
  rwa [show (((c - 64).toNat + 64 : Nat) : Int) = c by omega, show (((c - 64).toNat + 63 : Nat) : Int) = c - 1 by omega] at this
theorem partB_bound {c : Int} (h : partB c = true) : 64 ≤ c ∧ c ≤ 1024 := by
  have := of_decide_eq_true h; omega
theorem partB_not {c : Int} (h : c < 64 ∨ 1024 < c) : partB c = false := decide_eq_false (by omega)
theorem partS {c : Int} : SpecAt Try.prog nBpart [.v (.int .i64 c)] H n (.v (.bool (partB c))) H n := okT.pure tBpart (by
  unfold mBpart
  simp -implicitDefEqProofs only [↓fnVC, initTm]
  by_cases h1 : 64 ≤ c
  · have a1 : decide (c ≥ 64) = true := decide_eq_true h1
    by_cases h2 : c ≤ 1024
    · have a2 : decide (c ≤ 1024) = true := decide_eq_true h2
      have a3 : IntKind.i64.wrap (c - 1) = c - 1 := wrap_i64 (by omega) (by omega)
      simp -implicitDefEqProofs only [go_sem, ↓reduceIte, Nat.reduceEqDiff, Nat.reduceAdd, Nat.reduceMul, Nat.reduceLT, Nat.reduceLeDiff, Nat.reduceSub, Int.reduceToNat, Int.reduceLE, Int.reduceLT, reduceCtorEq, Int.reduceEq, Int.reduceGT, Int.reduceGE, Int.reduceNeg, a1, a2, a3, part_iand, h1, h2]
    · have a2 : decide (c ≤ 1024) = false := decide_eq_false h2
      simp -implicitDefEqProofs only [go_sem, ↓reduceIte, Nat.reduceEqDiff, Nat.reduceAdd, Nat.reduceMul, Nat.reduceLT, Nat.reduceLeDiff, Nat.reduceSub, Int.reduceToNat, Int.reduceLE, Int.reduceLT, reduceCtorEq, Int.reduceEq, Int.reduceGT, Int.reduceGE, Int.reduceNeg, a1, a2]
      rw [partB_not (by omega)]
  · have a1 : decide (c ≥ 64) = false := decide_eq_false (by omega)
    simp -implicitDefEqProofs only [go_sem, ↓reduceIte, Nat.reduceEqDiff, Nat.reduceAdd, Nat.reduceMul, Nat.reduceLT, Nat.reduceLeDiff, Nat.reduceSub, Int.reduceToNat, Int.reduceLE, Int.reduceLT, reduceCtorEq, Int.reduceEq, Int.reduceGT, Int.reduceGE, Int.reduceNeg, a1]
    rw [partB_not (by omega)])
theorem rsizeS {c : Int} : SpecAt Try.prog nrsize [.v (.int .i64 c)] H n (.v (.bool (partB c))) H n := okT.pure trsize (by
  unfold mrsize
  simp -implicitDefEqProofs only [↓fnVC, initTm]
  unfold partB
  by_cases h1 : c = 64
  · subst h1; simp -implicitDefEqProofs only [go_sem, ↓reduceIte, Nat.reduceEqDiff, Nat.reduceAdd, Nat.reduceMul, Nat.reduceLT, Nat.reduceLeDiff, Nat.reduceSub, Int.reduceToNat, Int.reduceLE, Int.reduceLT, reduceCtorEq, Int.reduceEq, Int.reduceGT, Int.reduceGE, Int.reduceNeg]; trivial
  by_cases h2 : c = 128
  · subst h2; simp -implicitDefEqProofs only [go_sem, ↓reduceIte, Nat.reduceEqDiff, Nat.reduceAdd, Nat.reduceMul, Nat.reduceLT, Nat.reduceLeDiff, Nat.reduceSub, Int.reduceToNat, Int.reduceLE, Int.reduceLT, reduceCtorEq, Int.reduceEq, Int.reduceGT, Int.reduceGE, Int.reduceNeg]; trivial
  by_cases h3 : c = 256
  · subst h3; simp -implicitDefEqProofs only [go_sem, ↓reduceIte, Nat.reduceEqDiff, Nat.reduceAdd, Nat.reduceMul, Nat.reduceLT, Nat.reduceLeDiff, Nat.reduceSub, Int.reduceToNat, Int.reduceLE, Int.reduceLT, reduceCtorEq, Int.reduceEq, Int.reduceGT, Int.reduceGE, Int.reduceNeg]; trivial
  by_cases h4 : c = 512
  · subst h4; simp -implicitDefEqProofs only [go_sem, ↓reduceIte, Nat.reduceEqDiff, Nat.reduceAdd, Nat.reduceMul, Nat.reduceLT, Nat.reduceLeDiff, Nat.reduceSub, Int.reduceToNat, Int.reduceLE, Int.reduceLT, reduceCtorEq, Int.reduceEq, Int.reduceGT, Int.reduceGE, Int.reduceNeg]; trivial
  by_cases h5 : c = 1024
  · subst h5; simp -implicitDefEqProofs only [go_sem, ↓reduceIte, Nat.reduceEqDiff, Nat.reduceAdd, Nat.reduceMul, Nat.reduceLT, Nat.reduceLeDiff, Nat.reduceSub, Int.reduceToNat, Int.reduceLE, Int.reduceLT, reduceCtorEq, Int.reduceEq, Int.reduceGT, Int.reduceGE, Int.reduceNeg]; trivial
  have a1 := decide_eq_false h1
  have a2 := decide_eq_false h2
  have a3 := decide_eq_false h3
  have a4 := decide_eq_false h4
  have a5 := decide_eq_false h5
  rw [decide_eq_false (by omega : ¬ (c = 64 ∨ c = 128 ∨ c = 256 ∨ c = 512 ∨ c = 1024))]
  simp -implicitDefEqProofs only [go_sem, ↓reduceIte, Nat.reduceEqDiff, Nat.reduceAdd, Nat.reduceMul, Nat.reduceLT, Nat.reduceLeDiff, Nat.reduceSub, Int.reduceToNat, Int.reduceLE, Int.reduceLT, reduceCtorEq, Int.reduceEq, Int.reduceGT, Int.reduceGE, Int.reduceNeg, a1, a2, a3, a4, a5])
/-- How many chunks there are. -/
def cnt (sz ch : Int) : Int := (sz + ch - 1) / ch
theorem countS {sz ch : Int} (h1 : 1 ≤ sz) (h2 : sz ≤ 8192) (h3 : 64 ≤ ch) (h4 : ch ≤ 1024) : SpecAt Try.prog nBcount [.v (.int .i64 sz), .v (.int .i64 ch)] H n (.v (.int .i64 (cnt sz ch))) H n := okT.pure tBcount (by
  unfold mBcount
  simp -implicitDefEqProofs only [↓fnVC, initTm]
  have a1 : IntKind.i64.wrap (sz + ch) = sz + ch := wrap_i64 (by omega) (by omega)
  have a2 : IntKind.i64.wrap (sz + ch - 1) = sz + ch - 1 := wrap_i64 (by omega) (by omega)
  have a3 : (sz + ch - 1).tdiv ch = cnt sz ch := Int.tdiv_eq_ediv_of_nonneg (by omega)
  have b1 : 0 ≤ cnt sz ch := Int.ediv_nonneg (by omega) (by omega)
  have b2 : cnt sz ch ≤ sz + ch - 1 := Int.ediv_le_self _ (by omega)
  have a4 : IntKind.i64.wrap (cnt sz ch) = cnt sz ch := wrap_i64 (by omega) (by omega)
  simp -implicitDefEqProofs only [go_sem, ↓reduceIte, Nat.reduceEqDiff, Nat.reduceAdd, Nat.reduceMul, Nat.reduceLT, Nat.reduceLeDiff, Nat.reduceSub, Int.reduceToNat, Int.reduceLE, Int.reduceLT, reduceCtorEq, Int.reduceEq, Int.reduceGT, Int.reduceGE, Int.reduceNeg, a1, a2, a3, a4]
  omega)

theorem contS {i o m : Nat} {ss : List ByteArray} (hr : rowAt H i (.strs []) = some (.strs ss)) (hom : o + m ≤ ss.length) (hm : m ≤ 1048576) :
    SpecAt Try.prog nContF [.sl i o m 1, .v (.func (.func 58) #[] #[])] H n (.v (.bool (((ss.drop o).take m).any odd32))) H n := by
  have := lift_ro (n := n) (okT.spec tContF (args := [.sl 1 o m 1, .v (.func (.func 58) #[] #[])]) (H := ⟨[(1, some ⟨false, .strs ss⟩)], H.x⟩) (n := 2) (v := .v (.bool (((ss.drop o).take m).any odd32))) (H' := ⟨[], H.x⟩) (n' := 2) (by
    unfold mContF
    simp -implicitDefEqProofs only [↓fnVC, initTm]
    simp -implicitDefEqProofs only [go_sem, ↓reduceIte, Nat.reduceEqDiff, Nat.reduceAdd, Nat.reduceMul, Nat.reduceLT, Nat.reduceLeDiff, Nat.reduceSub, Int.reduceToNat, Int.reduceLE, Int.reduceLT, reduceCtorEq, Int.reduceEq, Int.reduceGT, Int.reduceGE, Int.reduceNeg]
    refine in_call mixT tIndexF ?_
    unfold mIndexF
    simp -implicitDefEqProofs only [↓fnVC, initTm]
    simp -implicitDefEqProofs only [go_sem, ↓reduceIte, Nat.reduceEqDiff, Nat.reduceAdd, Nat.reduceMul, Nat.reduceLT, Nat.reduceLeDiff, Nat.reduceSub, Int.reduceToNat, Int.reduceLE, Int.reduceLT, reduceCtorEq, Int.reduceEq, Int.reduceGT, Int.reduceGE, Int.reduceNeg]
    refine loop_fam (fun (j : Nat) => j ≤ m ∧ ∀ s ∈ (ss.drop o).take j, odd32 s = false) (fun j => ⟨[(0, .sl 1 o m 1), (1, .v (.func (.func 58) #[] #[])), (7, .v (.int .i64 m)), (8, .v (.int .i64 j))], ⟨[(1, some ⟨false, .strs ss⟩)], H.x⟩, 2⟩) (fun j => m - j) 0 ⟨Nat.zero_le _, by simp⟩ ?_ ?_
    · refine sub_mk [] rfl rfl rfl ?_
      simp only [tmSub, hpSub, objSub, eqTm, eqHp, rn, lk, SV.ren, SV.renC, SV.renB, SV.renA, ren_ints, ren_strs, ren_pl, ren_svs, SV.v.injEq, Value.int.injEq, Body.ints.injEq, SV.ptr.injEq, SV.sl.injEq, Value.string.injEq, Value.bool.injEq, List.map_cons, List.map_nil, forall_const, Nat.reduceLT, Nat.lt_add_one, imp_self, true_and, and_true, and_self, ob_some, get_mk, lk_cons, ↓reduceIte, Nat.reduceEqDiff, ne_eq, not_true_eq_false, not_false_eq_true, Nat.one_ne_zero, Nat.zero_ne_one, Nat.succ_ne_self, Nat.reduceAdd, Bool.false_eq_true, false_implies, implies_true, reduceCtorEq]
      rfl
    · intro j ⟨hj, hall⟩
      simp -implicitDefEqProofs only [go_sem, ↓reduceIte, Nat.reduceEqDiff, Nat.reduceAdd, Nat.reduceMul, Nat.reduceLT, Nat.reduceLeDiff, Nat.reduceSub, Int.reduceToNat, Int.reduceLE, Int.reduceLT, reduceCtorEq, Int.reduceEq, Int.reduceGT, Int.reduceGE, Int.reduceNeg]
      refine condK_bb (fun c => ?_) (fun c => ?_)
      · have c1 : j < m := by have := of_decide_eq_true c; omega
        simp -implicitDefEqProofs only [go_sem, ↓reduceIte, Nat.reduceEqDiff, Nat.reduceAdd, Nat.reduceMul, Nat.reduceLT, Nat.reduceLeDiff, Nat.reduceSub, Int.reduceToNat, Int.reduceLE, Int.reduceLT, reduceCtorEq, Int.reduceEq, Int.reduceGT, Int.reduceGE, Int.reduceNeg, c]
        refine ⟨by omega, by omega, ?_⟩
        refine in_call mixT tBCheck1 ?_
        unfold mBCheck1
        simp -implicitDefEqProofs only [↓fnVC, initTm]
        simp -implicitDefEqProofs only [go_sem, ↓reduceIte, Nat.reduceEqDiff, Nat.reduceAdd, Nat.reduceMul, Nat.reduceLT, Nat.reduceLeDiff, Nat.reduceSub, Int.reduceToNat, Int.reduceLE, Int.reduceLT, reduceCtorEq, Int.reduceEq, Int.reduceGT, Int.reduceGE, Int.reduceNeg]
        have hgD : ss.getD (o + j) ByteArray.empty = ((ss.drop o).take m).getD j ByteArray.empty := by
          rw [List.getD_eq_getElem?_getD, List.getD_eq_getElem?_getD, List.getElem?_take, if_pos c1, List.getElem?_drop]
        have hlen : ((ss.drop o).take m).length = m := by rw [List.length_take, List.length_drop]; omega
        have hmem : ss.getD (o + j) ByteArray.empty ∈ (ss.drop o).take m := by
          rw [hgD, List.getD_eq_getElem?_getD, List.getElem?_eq_getElem (by omega)]; exact List.getElem_mem _
        have htk : (ss.drop o).take (j + 1) = (ss.drop o).take j ++ [ss.getD (o + j) ByteArray.empty] := by
          rw [List.take_succ_eq_append_getElem (by rw [List.length_drop]; omega), List.getElem_drop, List.getD_eq_getElem?_getD, List.getElem?_eq_getElem (by omega)]; rfl
        generalize ss.getD (o + j) ByteArray.empty = q at hmem htk ⊢
        by_cases d : q.size = 32
        · have d1 : decide ((q.size : Int) = 32) = true := decide_eq_true (by omega)
          have w4 : IntKind.i64.wrap ((j : Int) + 1) = ((j + 1 : Nat) : Int) := by rw [wrap_i64 (by omega) (by omega)]; omega
          simp -implicitDefEqProofs only [go_sem, ↓reduceIte, Nat.reduceEqDiff, Nat.reduceAdd, Nat.reduceMul, Nat.reduceLT, Nat.reduceLeDiff, Nat.reduceSub, Int.reduceToNat, Int.reduceLE, Int.reduceLT, reduceCtorEq, Int.reduceEq, Int.reduceGT, Int.reduceGE, Int.reduceNeg, d1, w4]
          refine kLoop_mk (j + 1) ⟨by omega, ?_⟩ (by omega) ?_
          · rw [htk]
            intro s hs
            rcases List.mem_append.1 hs with hs | hs
            · exact hall s hs
            · rw [List.mem_singleton.1 hs]; exact decide_eq_false (by omega)
          · refine sub_mk [] rfl rfl rfl ?_
            simp only [tmSub, hpSub, objSub, eqTm, eqHp, rn, lk, SV.ren, SV.renC, SV.renB, SV.renA, ren_ints, ren_strs, ren_pl, ren_svs, SV.v.injEq, Value.int.injEq, Body.ints.injEq, SV.ptr.injEq, SV.sl.injEq, Value.string.injEq, Value.bool.injEq, List.map_cons, List.map_nil, forall_const, Nat.reduceLT, Nat.lt_add_one, imp_self, true_and, and_true, and_self, ob_some, get_mk, lk_cons, ↓reduceIte, Nat.reduceEqDiff, ne_eq, not_true_eq_false, not_false_eq_true, Nat.one_ne_zero, Nat.zero_ne_one, Nat.succ_ne_self, Nat.reduceAdd, Bool.false_eq_true, false_implies, implies_true, reduceCtorEq]
        · have d1 : decide ((q.size : Int) = 32) = false := decide_eq_false (by omega)
          have d2 : decide ((j : Int) ≥ 0) = true := decide_eq_true (by omega)
          simp -implicitDefEqProofs only [go_sem, ↓reduceIte, Nat.reduceEqDiff, Nat.reduceAdd, Nat.reduceMul, Nat.reduceLT, Nat.reduceLeDiff, Nat.reduceSub, Int.reduceToNat, Int.reduceLE, Int.reduceLT, reduceCtorEq, Int.reduceEq, Int.reduceGT, Int.reduceGE, Int.reduceNeg, d1, d2]
          refine sub_val rfl (by decide) (by decide) ?_
          rw [List.any_eq_true.2 ⟨q, hmem, decide_eq_true d⟩]
      · have c1 : j = m := by have := of_decide_eq_false c; omega
        subst c1
        simp -implicitDefEqProofs only [go_sem, ↓reduceIte, Nat.reduceEqDiff, Nat.reduceAdd, Nat.reduceMul, Nat.reduceLT, Nat.reduceLeDiff, Nat.reduceSub, Int.reduceToNat, Int.reduceLE, Int.reduceLT, reduceCtorEq, Int.reduceEq, Int.reduceGT, Int.reduceGE, Int.reduceNeg, c]
        have d2 : ((ss.drop o).take j).any odd32 = false := List.any_eq_false.2 (fun s hs => by rw [hall s hs]; decide)
        rw [d2]
        exact sub_val rfl (by decide) (by decide) rfl
    )) [(1, i)] rfl rfl rfl (by omega) rfl rfl ⟨rowAt_sub hr rfl ⟨rfl, fun _ h => (by cases h)⟩ rfl, trivial⟩ rfl rfl rfl
  exact this
end Go.Sx

/- Bills: the check. -/
set_option linter.unusedVariables false
set_option linter.unusedSimpArgs false
set_option maxRecDepth 100000
namespace Go.Sx
attribute [local go_sem ↓] bind_mk intsB_mk strsB_mk svB_mk fnVC ob_some vc_skip vc_exit vc_ret vc_seq vc_block kSeq_normal kSeq_exit kSeq_ret kBlock_normal kBlock_exit kBlock_ret vc_reg vc_regD vc_cond condK_true condK_false vc_loop kLoop_exit kLoop_ret kRoll_normal kRoll_exit kRoll_ret vcOps_nil vcOps_cons gd_bool gd_undef put_some put_none vcT_fin vcT_pure vcT_act vcT_acts vcT_stop stab_none stab_some stabM_nil stabM_cons stabO_ld stabO_ldn stabO_slP stabO_b2s fldOf_ai fldOf_agg fldOf_ait fldOf_aggt intsOf_nil intsOf_cons strsOf_nil strsOf_cons c_omap ob_if lk_nil lk_cons ev_t ev_k z_mov z_pick z_bin z_binB z_binP z_un z_r2s z_conv z_s2b z_b2s z_alloc z_bld z_bldI z_rowI z_rowS z_ld z_ldn z_st z_stn asN_ptr asN_fn z_nilck z_fld z_fadr z_idxA z_idxP z_idxS z_idxV z_slS z_slL z_slP z_mk z_lenS z_lenL z_app appC_ints appC_pl appC_sv appC_strs isS_strs loose_ints loose_pl loose_sv z_slM z_callv callvK_fn callvK_f callvK_yl vc_rangeF rfEnd_eq rfGo_none rfGo_ret rfGo_exit yGo_mk yEnd_n yEnd_r yEnd_e yRdy_mk yMid_n putPs_nil putPs_cons leaf_v leaf_ptr leaf_sl leaf_yl leaf_mp z_appS z_appZ z_cpyS z_mkfn reps_int reps_str z_rowV z_slnil nilK_zero z_cpy z_call asT_tup z_extT z_box boxOf_ai boxOf_agg boxOf_int boxOf_str boxOf_bool boxOf_ptr boxOf_sl sbin_int sbin_str sbinB_mk sbinP_nn sbinP_pn sbinP_np i_add i_sub i_mul i_quo i_rem i_and i_or i_xor i_andNot i_shl i_shr i_eql i_neq i_lss i_leq i_gtr i_geq st_add st_eql st_neq st_lss st_leq st_gtr st_geq bo_eql bo_neq pt_eql pt_neq un_neg un_xor un_not asI_mk asB_mk asS_mk asP_mk asSl_mk asBy_mk bnd_none bnd_some get_mk hput_mk hdel_mk kill_eq wrOf_eq rowOf_eq rsvs_0 rsvs_1 rsvs_2 rsvs_3 rsv_t rsv_c1 rsv_cn nt_v nt_ptr nt_sl nt_agg nt_ai get_ints get_strs get_pl get_sv getN_ints getN_sv set_ints set_strs set_sv setN_ints setN_sv part_ints part_strs part_sv cat_ints cat_strs cat_sv over_ints over_strs over_sv ones_ints ones_strs evs_nil evs_cons condK_eqt condK_eqf det_callP V_ns V_nn V_gs V_gn obC_mk fresh_ev setN_plagg setN_intsv setN_svai setN_svagg over_intsv set_pl setN_pl setN_plai getN_pl getN_strs part_pl cat_pl over_pl over_plints z_mm
attribute [local go_sem] initTm ne_eq not_true_eq_false not_false_eq_true true_and and_true List.length_cons List.length_nil Int.toNat_natCast Nat.add_zero Nat.zero_add Nat.mul_one List.getElem?_cons_zero List.drop_zero List.take_length List.take_succ_cons List.take_zero List.take_nil List.drop_succ_cons Option.map_some Nat.le_refl implies_true List.getElem?_cons_succ decide_true decide_false Bool.not_true Bool.not_false beq_self_eq_true Nat.succ_ne_self Nat.one_ne_zero Nat.zero_ne_one vk_mk hk_mk nk_mk tok_eq plsOf_map intsOf_map bodyOf_pl bodyOf_ints bodyOf_strs bodyOf_sv part_aggv part_agg part_ai part_int part_str part_bool part_sl part_ptr part_nil numsOf_map u_int u_str u_bool u_pnil u_sl u_ptr u_oci u_ocs evq_nil evq_cons fillS_nil fillS_cons u_ocb ones_pl cells_sv cells_ints cells_strs cells_pl smms_nil smms_cons smm_min smm_max plsOf_nil List.nil_append List.all_cons List.all_nil Bool.and_self Bool.true_and Bool.and_true zws_len zw_len zi_len List.set_cons_zero List.set_cons_succ List.flatMap_cons List.flatMap_nil List.append_nil
open Go.Proofs
variable {H : Hp} {n : Nat} {x : Nat → Option SO}

theorem seq_ne {a b : ByteArray} (h : a ≠ b) : seq a b = false := by
  unfold seq
  rw [ByteArray.toList_eq, ByteArray.toList_eq, beq_eq_false_iff_ne]
  intro e
  obtain ⟨⟨p⟩⟩ := a
  obtain ⟨⟨q⟩⟩ := b
  simp at e
  subst e
  exact h rfl
/-- A bill, with its chunks under a slice. -/
def blA (ver sz ch : Int) (h t : ByteArray) (i o m : Nat) : SV := .agg [.v (.int .i64 ver), .v (.int .i64 sz), .v (.int .i64 ch), .v (.string h), .v (.string t), .sl i o m 1]
def ckP (ver sz ch : Int) (h t : ByteArray) (l : List ByteArray) : Prop := 1 ≤ ver ∧ ver ≤ 255 ∧ 1 ≤ sz ∧ sz ≤ 8192 ∧ partB ch = true ∧ h.size = 32 ∧ t.size = 32 ∧ (l = [] ∨ ((l.length : Int) = cnt sz ch ∧ root l = t ∧ l.any odd32 = false))
instance {ver sz ch : Int} {h t : ByteArray} {l : List ByteArray} : Decidable (ckP ver sz ch h t l) := by unfold ckP; infer_instance
def ckE (ver sz ch : Int) (h t : ByteArray) (l : List ByteArray) : Int := if ckP ver sz ch h t l then 0 else 1
theorem checkW {ver sz ch : Int} {h t : ByteArray} {o m : Nat} {ss : List ByteArray} (hom : o + m ≤ ss.length) (hm : m ≤ 1048576) (hz : szB ((ss.drop o).take m)) :
    fnVC CT mBCheck [blA ver sz ch h t 1 o m] ⟨[(1, some ⟨false, .strs ss⟩)], x⟩ 2 fun v H' n' => Sub 2 ⟨[(0, .v (.int .i64 (ckE ver sz ch h t ((ss.drop o).take m))))], ⟨[], x⟩, 2⟩ ⟨[(0, v)], H', n'⟩ := by
  unfold mBCheck blA
  have hlen : ((ss.drop o).take m).length = m := by rw [List.length_take, List.length_drop]; omega
  simp -implicitDefEqProofs only [↓fnVC, initTm]
  by_cases a1 : ver < 1
  · have b1 := decide_eq_true a1
    simp -implicitDefEqProofs only [go_sem, ↓reduceIte, Nat.reduceEqDiff, Nat.reduceAdd, Nat.reduceMul, Nat.reduceLT, Nat.reduceLeDiff, Nat.reduceSub, Int.reduceToNat, Int.reduceLE, Int.reduceLT, reduceCtorEq, Int.reduceEq, Int.reduceGT, Int.reduceGE, Int.reduceNeg, b1]
    exact sub_val rfl (by decide) (by decide) (by unfold ckE; rw [if_neg (by unfold ckP; omega)])
  have b1 := decide_eq_false a1
  by_cases a2 : ver > 255
  · have b2 := decide_eq_true a2
    simp -implicitDefEqProofs only [go_sem, ↓reduceIte, Nat.reduceEqDiff, Nat.reduceAdd, Nat.reduceMul, Nat.reduceLT, Nat.reduceLeDiff, Nat.reduceSub, Int.reduceToNat, Int.reduceLE, Int.reduceLT, reduceCtorEq, Int.reduceEq, Int.reduceGT, Int.reduceGE, Int.reduceNeg, b1, b2]
    exact sub_val rfl (by decide) (by decide) (by unfold ckE; rw [if_neg (by unfold ckP; omega)])
  have b2 := decide_eq_false a2
  by_cases a3 : sz < 1
  · have b3 := decide_eq_true a3
    simp -implicitDefEqProofs only [go_sem, ↓reduceIte, Nat.reduceEqDiff, Nat.reduceAdd, Nat.reduceMul, Nat.reduceLT, Nat.reduceLeDiff, Nat.reduceSub, Int.reduceToNat, Int.reduceLE, Int.reduceLT, reduceCtorEq, Int.reduceEq, Int.reduceGT, Int.reduceGE, Int.reduceNeg, b1, b2, b3]
    exact sub_val rfl (by decide) (by decide) (by unfold ckE; rw [if_neg (by unfold ckP; omega)])
  have b3 := decide_eq_false a3
  by_cases a4 : sz > 8192
  · have b4 := decide_eq_true a4
    simp -implicitDefEqProofs only [go_sem, ↓reduceIte, Nat.reduceEqDiff, Nat.reduceAdd, Nat.reduceMul, Nat.reduceLT, Nat.reduceLeDiff, Nat.reduceSub, Int.reduceToNat, Int.reduceLE, Int.reduceLT, reduceCtorEq, Int.reduceEq, Int.reduceGT, Int.reduceGE, Int.reduceNeg, b1, b2, b3, b4]
    exact sub_val rfl (by decide) (by decide) (by unfold ckE; rw [if_neg (by unfold ckP; omega)])
  have b4 := decide_eq_false a4
  simp -implicitDefEqProofs only [go_sem, ↓reduceIte, Nat.reduceEqDiff, Nat.reduceAdd, Nat.reduceMul, Nat.reduceLT, Nat.reduceLeDiff, Nat.reduceSub, Int.reduceToNat, Int.reduceLE, Int.reduceLT, reduceCtorEq, Int.reduceEq, Int.reduceGT, Int.reduceGE, Int.reduceNeg, b1, b2, b3, b4]
  refine at_call tBpart partS ?_
  by_cases a5 : partB ch = false
  · simp -implicitDefEqProofs only [go_sem, ↓reduceIte, Nat.reduceEqDiff, Nat.reduceAdd, Nat.reduceMul, Nat.reduceLT, Nat.reduceLeDiff, Nat.reduceSub, Int.reduceToNat, Int.reduceLE, Int.reduceLT, reduceCtorEq, Int.reduceEq, Int.reduceGT, Int.reduceGE, Int.reduceNeg, a5]
    exact sub_val rfl (by decide) (by decide) (by unfold ckE; rw [if_neg (by unfold ckP; rw [a5]; simp)])
  have b5 : partB ch = true := by simpa using a5
  have c5 := partB_bound b5
  by_cases a6 : h.size ≠ 32
  · have b6 : decide ((h.size : Int) = 32) = false := decide_eq_false (by omega)
    simp -implicitDefEqProofs only [go_sem, ↓reduceIte, Nat.reduceEqDiff, Nat.reduceAdd, Nat.reduceMul, Nat.reduceLT, Nat.reduceLeDiff, Nat.reduceSub, Int.reduceToNat, Int.reduceLE, Int.reduceLT, reduceCtorEq, Int.reduceEq, Int.reduceGT, Int.reduceGE, Int.reduceNeg, b5, b6]
    exact sub_val rfl (by decide) (by decide) (by unfold ckE; rw [if_neg (by unfold ckP; omega)])
  have b6 : decide ((h.size : Int) = 32) = true := decide_eq_true (by omega)
  by_cases a7 : t.size ≠ 32
  · have b7 : decide ((t.size : Int) = 32) = false := decide_eq_false (by omega)
    simp -implicitDefEqProofs only [go_sem, ↓reduceIte, Nat.reduceEqDiff, Nat.reduceAdd, Nat.reduceMul, Nat.reduceLT, Nat.reduceLeDiff, Nat.reduceSub, Int.reduceToNat, Int.reduceLE, Int.reduceLT, reduceCtorEq, Int.reduceEq, Int.reduceGT, Int.reduceGE, Int.reduceNeg, b5, b6, b7]
    exact sub_val rfl (by decide) (by decide) (by unfold ckE; rw [if_neg (by unfold ckP; omega)])
  have b7 : decide ((t.size : Int) = 32) = true := decide_eq_true (by omega)
  have base : ckE ver sz ch h t ((ss.drop o).take m) = if ((ss.drop o).take m) = [] ∨ ((((ss.drop o).take m).length : Int) = cnt sz ch ∧ root ((ss.drop o).take m) = t ∧ ((ss.drop o).take m).any odd32 = false) then 0 else 1 := by
    unfold ckE ckP
    simp only [b5, true_and, show 1 ≤ ver by omega, show ver ≤ 255 by omega, show 1 ≤ sz by omega, show sz ≤ 8192 by omega, show h.size = 32 by omega, show t.size = 32 by omega]
  by_cases a8 : m = 0
  · have b8 : decide ((m : Int) = 0) = true := decide_eq_true (by omega)
    simp -implicitDefEqProofs only [go_sem, ↓reduceIte, Nat.reduceEqDiff, Nat.reduceAdd, Nat.reduceMul, Nat.reduceLT, Nat.reduceLeDiff, Nat.reduceSub, Int.reduceToNat, Int.reduceLE, Int.reduceLT, reduceCtorEq, Int.reduceEq, Int.reduceGT, Int.reduceGE, Int.reduceNeg, b5, b6, b7, b8]
    refine sub_val rfl (by decide) (by decide) ?_
    rw [base, if_pos (.inl (List.length_eq_zero_iff.1 (by omega)))]
  have b8 : decide ((m : Int) = 0) = false := decide_eq_false (by omega)
  have hne : (ss.drop o).take m ≠ [] := fun e => by rw [e] at hlen; simp at hlen; omega
  rw [hlen] at base
  simp only [hne, false_or] at base
  simp -implicitDefEqProofs only [go_sem, ↓reduceIte, Nat.reduceEqDiff, Nat.reduceAdd, Nat.reduceMul, Nat.reduceLT, Nat.reduceLeDiff, Nat.reduceSub, Int.reduceToNat, Int.reduceLE, Int.reduceLT, reduceCtorEq, Int.reduceEq, Int.reduceGT, Int.reduceGE, Int.reduceNeg, b5, b6, b7, b8]
  refine at_call tBcount (countS (by omega) (by omega) (by omega) (by omega)) ?_
  by_cases a9 : (m : Int) ≠ cnt sz ch
  · have b9 : decide ((m : Int) = cnt sz ch) = false := decide_eq_false a9
    simp -implicitDefEqProofs only [go_sem, ↓reduceIte, Nat.reduceEqDiff, Nat.reduceAdd, Nat.reduceMul, Nat.reduceLT, Nat.reduceLeDiff, Nat.reduceSub, Int.reduceToNat, Int.reduceLE, Int.reduceLT, reduceCtorEq, Int.reduceEq, Int.reduceGT, Int.reduceGE, Int.reduceNeg, b9]
    refine sub_val rfl (by decide) (by decide) ?_
    rw [base, if_neg (by simp [a9])]
  have b9 : decide ((m : Int) = cnt sz ch) = true := decide_eq_true (by omega)
  simp -implicitDefEqProofs only [go_sem, ↓reduceIte, Nat.reduceEqDiff, Nat.reduceAdd, Nat.reduceMul, Nat.reduceLT, Nat.reduceLeDiff, Nat.reduceSub, Int.reduceToNat, Int.reduceLE, Int.reduceLT, reduceCtorEq, Int.reduceEq, Int.reduceGT, Int.reduceGE, Int.reduceNeg, b9]
  refine at_call tRoot (rootS (i := 1) (by rfl) hom (by omega) hz) ?_
  by_cases a10 : root ((ss.drop o).take m) = t
  · have b10 : seq (root ((ss.drop o).take m)) t = true := by rw [a10]; exact seq_self _
    simp -implicitDefEqProofs only [go_sem, ↓reduceIte, Nat.reduceEqDiff, Nat.reduceAdd, Nat.reduceMul, Nat.reduceLT, Nat.reduceLeDiff, Nat.reduceSub, Int.reduceToNat, Int.reduceLE, Int.reduceLT, reduceCtorEq, Int.reduceEq, Int.reduceGT, Int.reduceGE, Int.reduceNeg, b10]
    refine at_call tContF (contS (i := 1) (by rfl) hom (by omega)) ?_
    by_cases a11 : ((ss.drop o).take m).any odd32 = true
    · simp -implicitDefEqProofs only [go_sem, ↓reduceIte, Nat.reduceEqDiff, Nat.reduceAdd, Nat.reduceMul, Nat.reduceLT, Nat.reduceLeDiff, Nat.reduceSub, Int.reduceToNat, Int.reduceLE, Int.reduceLT, reduceCtorEq, Int.reduceEq, Int.reduceGT, Int.reduceGE, Int.reduceNeg, a11]
      refine sub_val rfl (by decide) (by decide) ?_
      rw [base, if_neg (by simp [a11])]
    · have b11 : ((ss.drop o).take m).any odd32 = false := by simpa using a11
      simp -implicitDefEqProofs only [go_sem, ↓reduceIte, Nat.reduceEqDiff, Nat.reduceAdd, Nat.reduceMul, Nat.reduceLT, Nat.reduceLeDiff, Nat.reduceSub, Int.reduceToNat, Int.reduceLE, Int.reduceLT, reduceCtorEq, Int.reduceEq, Int.reduceGT, Int.reduceGE, Int.reduceNeg, b11]
      refine sub_val rfl (by decide) (by decide) ?_
      rw [base, if_pos ⟨by omega, a10, b11⟩]
  · have b10 : seq (root ((ss.drop o).take m)) t = false := seq_ne a10
    simp -implicitDefEqProofs only [go_sem, ↓reduceIte, Nat.reduceEqDiff, Nat.reduceAdd, Nat.reduceMul, Nat.reduceLT, Nat.reduceLeDiff, Nat.reduceSub, Int.reduceToNat, Int.reduceLE, Int.reduceLT, reduceCtorEq, Int.reduceEq, Int.reduceGT, Int.reduceGE, Int.reduceNeg, b10]
    refine sub_val rfl (by decide) (by decide) ?_
    rw [base, if_neg (by simp [a10])]
theorem rcheckW {ver sz ch : Int} {h t : ByteArray} {o m : Nat} {ss : List ByteArray} (hom : o + m ≤ ss.length) (hm : m ≤ 1048576) (hz : szB ((ss.drop o).take m)) :
    fnVC CT mrBCheck [blA ver sz ch h t 1 o m] ⟨[(1, some ⟨false, .strs ss⟩)], x⟩ 2 fun v H' n' => Sub 2 ⟨[(0, .v (.int .i64 (ckE ver sz ch h t ((ss.drop o).take m))))], ⟨[], x⟩, 2⟩ ⟨[(0, v)], H', n'⟩ := by
  unfold mrBCheck blA
  have hlen : ((ss.drop o).take m).length = m := by rw [List.length_take, List.length_drop]; omega
  simp -implicitDefEqProofs only [↓fnVC, initTm]
  by_cases a1 : ver < 1
  · have b1 := decide_eq_true a1
    simp -implicitDefEqProofs only [go_sem, ↓reduceIte, Nat.reduceEqDiff, Nat.reduceAdd, Nat.reduceMul, Nat.reduceLT, Nat.reduceLeDiff, Nat.reduceSub, Int.reduceToNat, Int.reduceLE, Int.reduceLT, reduceCtorEq, Int.reduceEq, Int.reduceGT, Int.reduceGE, Int.reduceNeg, b1]
    exact sub_val rfl (by decide) (by decide) (by unfold ckE; rw [if_neg (by unfold ckP; omega)])
  have b1 := decide_eq_false a1
  by_cases a2 : ver > 255
  · have b2 := decide_eq_true a2
    simp -implicitDefEqProofs only [go_sem, ↓reduceIte, Nat.reduceEqDiff, Nat.reduceAdd, Nat.reduceMul, Nat.reduceLT, Nat.reduceLeDiff, Nat.reduceSub, Int.reduceToNat, Int.reduceLE, Int.reduceLT, reduceCtorEq, Int.reduceEq, Int.reduceGT, Int.reduceGE, Int.reduceNeg, b1, b2]
    exact sub_val rfl (by decide) (by decide) (by unfold ckE; rw [if_neg (by unfold ckP; omega)])
  have b2 := decide_eq_false a2
  by_cases a3 : sz < 1
  · have b3 := decide_eq_true a3
    simp -implicitDefEqProofs only [go_sem, ↓reduceIte, Nat.reduceEqDiff, Nat.reduceAdd, Nat.reduceMul, Nat.reduceLT, Nat.reduceLeDiff, Nat.reduceSub, Int.reduceToNat, Int.reduceLE, Int.reduceLT, reduceCtorEq, Int.reduceEq, Int.reduceGT, Int.reduceGE, Int.reduceNeg, b1, b2, b3]
    exact sub_val rfl (by decide) (by decide) (by unfold ckE; rw [if_neg (by unfold ckP; omega)])
  have b3 := decide_eq_false a3
  by_cases a4 : sz > 8192
  · have b4 := decide_eq_true a4
    simp -implicitDefEqProofs only [go_sem, ↓reduceIte, Nat.reduceEqDiff, Nat.reduceAdd, Nat.reduceMul, Nat.reduceLT, Nat.reduceLeDiff, Nat.reduceSub, Int.reduceToNat, Int.reduceLE, Int.reduceLT, reduceCtorEq, Int.reduceEq, Int.reduceGT, Int.reduceGE, Int.reduceNeg, b1, b2, b3, b4]
    exact sub_val rfl (by decide) (by decide) (by unfold ckE; rw [if_neg (by unfold ckP; omega)])
  have b4 := decide_eq_false a4
  simp -implicitDefEqProofs only [go_sem, ↓reduceIte, Nat.reduceEqDiff, Nat.reduceAdd, Nat.reduceMul, Nat.reduceLT, Nat.reduceLeDiff, Nat.reduceSub, Int.reduceToNat, Int.reduceLE, Int.reduceLT, reduceCtorEq, Int.reduceEq, Int.reduceGT, Int.reduceGE, Int.reduceNeg, b1, b2, b3, b4]
  refine at_call trsize rsizeS ?_
  by_cases a5 : partB ch = false
  · simp -implicitDefEqProofs only [go_sem, ↓reduceIte, Nat.reduceEqDiff, Nat.reduceAdd, Nat.reduceMul, Nat.reduceLT, Nat.reduceLeDiff, Nat.reduceSub, Int.reduceToNat, Int.reduceLE, Int.reduceLT, reduceCtorEq, Int.reduceEq, Int.reduceGT, Int.reduceGE, Int.reduceNeg, a5]
    exact sub_val rfl (by decide) (by decide) (by unfold ckE; rw [if_neg (by unfold ckP; rw [a5]; simp)])
  have b5 : partB ch = true := by simpa using a5
  have c5 := partB_bound b5
  by_cases a6 : h.size ≠ 32
  · have b6 : decide ((h.size : Int) = 32) = false := decide_eq_false (by omega)
    simp -implicitDefEqProofs only [go_sem, ↓reduceIte, Nat.reduceEqDiff, Nat.reduceAdd, Nat.reduceMul, Nat.reduceLT, Nat.reduceLeDiff, Nat.reduceSub, Int.reduceToNat, Int.reduceLE, Int.reduceLT, reduceCtorEq, Int.reduceEq, Int.reduceGT, Int.reduceGE, Int.reduceNeg, b5, b6]
    exact sub_val rfl (by decide) (by decide) (by unfold ckE; rw [if_neg (by unfold ckP; omega)])
  have b6 : decide ((h.size : Int) = 32) = true := decide_eq_true (by omega)
  by_cases a7 : t.size ≠ 32
  · have b7 : decide ((t.size : Int) = 32) = false := decide_eq_false (by omega)
    simp -implicitDefEqProofs only [go_sem, ↓reduceIte, Nat.reduceEqDiff, Nat.reduceAdd, Nat.reduceMul, Nat.reduceLT, Nat.reduceLeDiff, Nat.reduceSub, Int.reduceToNat, Int.reduceLE, Int.reduceLT, reduceCtorEq, Int.reduceEq, Int.reduceGT, Int.reduceGE, Int.reduceNeg, b5, b6, b7]
    exact sub_val rfl (by decide) (by decide) (by unfold ckE; rw [if_neg (by unfold ckP; omega)])
  have b7 : decide ((t.size : Int) = 32) = true := decide_eq_true (by omega)
  have base : ckE ver sz ch h t ((ss.drop o).take m) = if ((ss.drop o).take m) = [] ∨ ((((ss.drop o).take m).length : Int) = cnt sz ch ∧ root ((ss.drop o).take m) = t ∧ ((ss.drop o).take m).any odd32 = false) then 0 else 1 := by
    unfold ckE ckP
    simp only [b5, true_and, show 1 ≤ ver by omega, show ver ≤ 255 by omega, show 1 ≤ sz by omega, show sz ≤ 8192 by omega, show h.size = 32 by omega, show t.size = 32 by omega]
  by_cases a8 : m = 0
  · have b8 : decide ((m : Int) = 0) = true := decide_eq_true (by omega)
    simp -implicitDefEqProofs only [go_sem, ↓reduceIte, Nat.reduceEqDiff, Nat.reduceAdd, Nat.reduceMul, Nat.reduceLT, Nat.reduceLeDiff, Nat.reduceSub, Int.reduceToNat, Int.reduceLE, Int.reduceLT, reduceCtorEq, Int.reduceEq, Int.reduceGT, Int.reduceGE, Int.reduceNeg, b5, b6, b7, b8]
    refine sub_val rfl (by decide) (by decide) ?_
    rw [base, if_pos (.inl (List.length_eq_zero_iff.1 (by omega)))]
  have b8 : decide ((m : Int) = 0) = false := decide_eq_false (by omega)
  have hne : (ss.drop o).take m ≠ [] := fun e => by rw [e] at hlen; simp at hlen; omega
  rw [hlen] at base
  simp only [hne, false_or] at base
  have d1 : IntKind.i64.wrap (sz + ch) = sz + ch := wrap_i64 (by omega) (by omega)
  have d2 : IntKind.i64.wrap (sz + ch - 1) = sz + ch - 1 := wrap_i64 (by omega) (by omega)
  have d3 : (sz + ch - 1).tdiv ch = cnt sz ch := Int.tdiv_eq_ediv_of_nonneg (by omega)
  have e1 : 0 ≤ cnt sz ch := Int.ediv_nonneg (by omega) (by omega)
  have e2 : cnt sz ch ≤ sz + ch - 1 := Int.ediv_le_self _ (by omega)
  have d4 : IntKind.i64.wrap (cnt sz ch) = cnt sz ch := wrap_i64 (by omega) (by omega)
  by_cases a9 : (m : Int) ≠ cnt sz ch
  · have b9 : decide ((m : Int) = cnt sz ch) = false := decide_eq_false a9
    simp -implicitDefEqProofs only [go_sem, ↓reduceIte, Nat.reduceEqDiff, Nat.reduceAdd, Nat.reduceMul, Nat.reduceLT, Nat.reduceLeDiff, Nat.reduceSub, Int.reduceToNat, Int.reduceLE, Int.reduceLT, reduceCtorEq, Int.reduceEq, Int.reduceGT, Int.reduceGE, Int.reduceNeg, b5, b6, b7, b8, d1, d2, d3, d4, b9]
    refine ⟨by omega, sub_val rfl (by decide) (by decide) ?_⟩
    rw [base, if_neg (by simp [a9])]
  have b9 : decide ((m : Int) = cnt sz ch) = true := decide_eq_true (by omega)
  simp -implicitDefEqProofs only [go_sem, ↓reduceIte, Nat.reduceEqDiff, Nat.reduceAdd, Nat.reduceMul, Nat.reduceLT, Nat.reduceLeDiff, Nat.reduceSub, Int.reduceToNat, Int.reduceLE, Int.reduceLT, reduceCtorEq, Int.reduceEq, Int.reduceGT, Int.reduceGE, Int.reduceNeg, b5, b6, b7, b8, d1, d2, d3, d4, b9]
  refine ⟨by omega, ?_⟩
  refine at_call trefRoot (rrootS (i := 1) (by rfl) hom (by omega) hz) ?_
  by_cases a10 : root ((ss.drop o).take m) = t
  · have b10 : seq (root ((ss.drop o).take m)) t = true := by rw [a10]; exact seq_self _
    simp -implicitDefEqProofs only [go_sem, ↓reduceIte, Nat.reduceEqDiff, Nat.reduceAdd, Nat.reduceMul, Nat.reduceLT, Nat.reduceLeDiff, Nat.reduceSub, Int.reduceToNat, Int.reduceLE, Int.reduceLT, reduceCtorEq, Int.reduceEq, Int.reduceGT, Int.reduceGE, Int.reduceNeg, b10]
    refine loop_fam (fun (j : Nat) => j ≤ m ∧ ∀ s ∈ (ss.drop o).take j, odd32 s = false) (fun j => ⟨[(1, .ptr 2 0), (3, .v (.int .i64 j))], ⟨[(1, some ⟨false, .strs ss⟩), (2, some ⟨true, .sv [.v (.int .i64 ver), .v (.int .i64 sz), .v (.int .i64 ch), .v (.string h), .v (.string t), .sl 1 o m 1]⟩)], x⟩, 3⟩) (fun j => m - j) 0 ⟨Nat.zero_le _, by simp⟩ ?_ ?_
    · refine sub_mk [] rfl rfl rfl ?_
      simp only [tmSub, hpSub, objSub, eqTm, eqHp, rn, lk, SV.ren, SV.renC, SV.renB, SV.renA, ren_ints, ren_strs, ren_pl, ren_svs, SV.v.injEq, Value.int.injEq, Body.ints.injEq, SV.ptr.injEq, SV.sl.injEq, Value.string.injEq, Value.bool.injEq, List.map_cons, List.map_nil, forall_const, Nat.reduceLT, Nat.lt_add_one, imp_self, true_and, and_true, and_self, ob_some, get_mk, lk_cons, ↓reduceIte, Nat.reduceEqDiff, ne_eq, not_true_eq_false, not_false_eq_true, Nat.one_ne_zero, Nat.zero_ne_one, Nat.succ_ne_self, Nat.reduceAdd, Bool.false_eq_true, false_implies, implies_true, reduceCtorEq]
      rfl
    · intro j ⟨hj, hall⟩
      simp -implicitDefEqProofs only [go_sem, ↓reduceIte, Nat.reduceEqDiff, Nat.reduceAdd, Nat.reduceMul, Nat.reduceLT, Nat.reduceLeDiff, Nat.reduceSub, Int.reduceToNat, Int.reduceLE, Int.reduceLT, reduceCtorEq, Int.reduceEq, Int.reduceGT, Int.reduceGE, Int.reduceNeg]
      refine condK_bb (fun c => ?_) (fun c => ?_)
      · have c1 : j < m := by have := of_decide_eq_true c; omega
        simp -implicitDefEqProofs only [go_sem, ↓reduceIte, Nat.reduceEqDiff, Nat.reduceAdd, Nat.reduceMul, Nat.reduceLT, Nat.reduceLeDiff, Nat.reduceSub, Int.reduceToNat, Int.reduceLE, Int.reduceLT, reduceCtorEq, Int.reduceEq, Int.reduceGT, Int.reduceGE, Int.reduceNeg, c]
        refine ⟨by omega, by omega, ?_⟩
        have hgD : ss.getD (o + j) ByteArray.empty = ((ss.drop o).take m).getD j ByteArray.empty := by
          rw [List.getD_eq_getElem?_getD, List.getD_eq_getElem?_getD, List.getElem?_take, if_pos c1, List.getElem?_drop]
        have hmem : ss.getD (o + j) ByteArray.empty ∈ (ss.drop o).take m := by
          rw [hgD, List.getD_eq_getElem?_getD, List.getElem?_eq_getElem (by omega)]; exact List.getElem_mem _
        have htk : (ss.drop o).take (j + 1) = (ss.drop o).take j ++ [ss.getD (o + j) ByteArray.empty] := by
          rw [List.take_succ_eq_append_getElem (by rw [List.length_drop]; omega), List.getElem_drop, List.getD_eq_getElem?_getD, List.getElem?_eq_getElem (by omega)]; rfl
        generalize ss.getD (o + j) ByteArray.empty = q at hmem htk ⊢
        by_cases d : q.size = 32
        · have d1 : decide ((q.size : Int) = 32) = true := decide_eq_true (by omega)
          have w4 : IntKind.i64.wrap ((j : Int) + 1) = ((j + 1 : Nat) : Int) := by rw [wrap_i64 (by omega) (by omega)]; omega
          simp -implicitDefEqProofs only [go_sem, ↓reduceIte, Nat.reduceEqDiff, Nat.reduceAdd, Nat.reduceMul, Nat.reduceLT, Nat.reduceLeDiff, Nat.reduceSub, Int.reduceToNat, Int.reduceLE, Int.reduceLT, reduceCtorEq, Int.reduceEq, Int.reduceGT, Int.reduceGE, Int.reduceNeg, d1, w4]
          refine kLoop_mk (j + 1) ⟨by omega, ?_⟩ (by omega) ?_
          · rw [htk]
            intro s hs
            rcases List.mem_append.1 hs with hs | hs
            · exact hall s hs
            · rw [List.mem_singleton.1 hs]; exact decide_eq_false (by omega)
          · refine sub_mk [] rfl rfl rfl ?_
            simp only [tmSub, hpSub, objSub, eqTm, eqHp, rn, lk, SV.ren, SV.renC, SV.renB, SV.renA, ren_ints, ren_strs, ren_pl, ren_svs, SV.v.injEq, Value.int.injEq, Body.ints.injEq, SV.ptr.injEq, SV.sl.injEq, Value.string.injEq, Value.bool.injEq, List.map_cons, List.map_nil, forall_const, Nat.reduceLT, Nat.lt_add_one, imp_self, true_and, and_true, and_self, ob_some, get_mk, lk_cons, ↓reduceIte, Nat.reduceEqDiff, ne_eq, not_true_eq_false, not_false_eq_true, Nat.one_ne_zero, Nat.zero_ne_one, Nat.succ_ne_self, Nat.reduceAdd, Bool.false_eq_true, false_implies, implies_true, reduceCtorEq]
        · have d1 : decide ((q.size : Int) = 32) = false := decide_eq_false (by omega)
          simp -implicitDefEqProofs only [go_sem, ↓reduceIte, Nat.reduceEqDiff, Nat.reduceAdd, Nat.reduceMul, Nat.reduceLT, Nat.reduceLeDiff, Nat.reduceSub, Int.reduceToNat, Int.reduceLE, Int.reduceLT, reduceCtorEq, Int.reduceEq, Int.reduceGT, Int.reduceGE, Int.reduceNeg, d1]
          refine sub_val rfl (by decide) (by decide) ?_
          rw [base, if_neg (by rw [List.any_eq_true.2 ⟨q, hmem, decide_eq_true d⟩]; simp)]
      · have c1 : j = m := by have := of_decide_eq_false c; omega
        subst c1
        simp -implicitDefEqProofs only [go_sem, ↓reduceIte, Nat.reduceEqDiff, Nat.reduceAdd, Nat.reduceMul, Nat.reduceLT, Nat.reduceLeDiff, Nat.reduceSub, Int.reduceToNat, Int.reduceLE, Int.reduceLT, reduceCtorEq, Int.reduceEq, Int.reduceGT, Int.reduceGE, Int.reduceNeg, c]
        have d2 : ((ss.drop o).take j).any odd32 = false := List.any_eq_false.2 (fun s hs => by rw [hall s hs]; decide)
        refine sub_val rfl (by decide) (by decide) ?_
        rw [base, if_pos ⟨by omega, a10, d2⟩]
  · have b10 : seq (root ((ss.drop o).take m)) t = false := seq_ne a10
    simp -implicitDefEqProofs only [go_sem, ↓reduceIte, Nat.reduceEqDiff, Nat.reduceAdd, Nat.reduceMul, Nat.reduceLT, Nat.reduceLeDiff, Nat.reduceSub, Int.reduceToNat, Int.reduceLE, Int.reduceLT, reduceCtorEq, Int.reduceEq, Int.reduceGT, Int.reduceGE, Int.reduceNeg, b10]
    refine sub_val rfl (by decide) (by decide) ?_
    rw [base, if_neg (by simp [a10])]
/-- A bill among the arguments, at any heap. -/
theorem lift_bl {f i o m : Nat} {ver sz ch : Int} {h t : ByteArray} {post : List Value} {v : SV} {ss : List ByteArray} (hr : rowAt H i (.strs []) = some (.strs ss)) (hv : v.ren [(1, i)] = v)
    (hs : SpecAt Try.prog f (blA ver sz ch h t 1 o m :: post.map .v) ⟨[(1, some ⟨false, .strs ss⟩)], H.x⟩ 2 v ⟨[], H.x⟩ 2) : SpecAt Try.prog f (blA ver sz ch h t i o m :: post.map .v) H n v H n := by
  have := lift_ro (n := n) hs [(1, i)] rfl rfl (by simp [blA, ltT, ltC, ltB, ltA, idOK, Function.comp_def]) (by omega) rfl rfl ⟨rowAt_sub hr rfl ⟨rfl, fun _ h => (by cases h)⟩ rfl, trivial⟩ rfl rfl hv
  simpa [blA, SV.ren, SV.renC, SV.renB, SV.renA, rn, lk, Function.comp_def] using this
theorem checkS {ver sz ch : Int} {h t : ByteArray} {i o m : Nat} {ss : List ByteArray} (hr : rowAt H i (.strs []) = some (.strs ss)) (hom : o + m ≤ ss.length) (hm : m ≤ 1048576) (hz : szB ((ss.drop o).take m)) :
    SpecAt Try.prog nBCheck [blA ver sz ch h t i o m] H n (.v (.int .i64 (ckE ver sz ch h t ((ss.drop o).take m)))) H n :=
  lift_bl (post := []) hr rfl (okT.spec tBCheck (checkW hom hm hz))
theorem rcheckS {ver sz ch : Int} {h t : ByteArray} {i o m : Nat} {ss : List ByteArray} (hr : rowAt H i (.strs []) = some (.strs ss)) (hom : o + m ≤ ss.length) (hm : m ≤ 1048576) (hz : szB ((ss.drop o).take m)) :
    SpecAt Try.prog nrBCheck [blA ver sz ch h t i o m] H n (.v (.int .i64 (ckE ver sz ch h t ((ss.drop o).take m)))) H n :=
  lift_bl (post := []) hr rfl (okT.spec trBCheck (rcheckW hom hm hz))
end Go.Sx

/- Bills: how many chunks, where they stand, whether a text is one, whether a text is the image. -/
set_option linter.unusedVariables false
set_option linter.unusedSimpArgs false
set_option maxRecDepth 100000
namespace Go.Sx
attribute [local go_sem ↓] bind_mk intsB_mk strsB_mk svB_mk fnVC ob_some vc_skip vc_exit vc_ret vc_seq vc_block kSeq_normal kSeq_exit kSeq_ret kBlock_normal kBlock_exit kBlock_ret vc_reg vc_regD vc_cond condK_true condK_false vc_loop kLoop_exit kLoop_ret kRoll_normal kRoll_exit kRoll_ret vcOps_nil vcOps_cons gd_bool gd_undef put_some put_none vcT_fin vcT_pure vcT_act vcT_acts vcT_stop stab_none stab_some stabM_nil stabM_cons stabO_ld stabO_ldn stabO_slP stabO_b2s fldOf_ai fldOf_agg fldOf_ait fldOf_aggt intsOf_nil intsOf_cons strsOf_nil strsOf_cons c_omap ob_if lk_nil lk_cons ev_t ev_k z_mov z_pick z_bin z_binB z_binP z_un z_r2s z_conv z_s2b z_b2s z_alloc z_bld z_bldI z_rowI z_rowS z_ld z_ldn z_st z_stn asN_ptr asN_fn z_nilck z_fld z_fadr z_idxA z_idxP z_idxS z_idxV z_slS z_slL z_slP z_mk z_lenS z_lenL z_app appC_ints appC_pl appC_sv appC_strs isS_strs loose_ints loose_pl loose_sv z_slM z_callv callvK_fn callvK_f callvK_yl vc_rangeF rfEnd_eq rfGo_none rfGo_ret rfGo_exit yGo_mk yEnd_n yEnd_r yEnd_e yRdy_mk yMid_n putPs_nil putPs_cons leaf_v leaf_ptr leaf_sl leaf_yl leaf_mp z_appS z_appZ z_cpyS z_mkfn reps_int reps_str z_rowV z_slnil nilK_zero z_cpy z_call asT_tup z_extT z_box boxOf_ai boxOf_agg boxOf_int boxOf_str boxOf_bool boxOf_ptr boxOf_sl sbin_int sbin_str sbinB_mk sbinP_nn sbinP_pn sbinP_np i_add i_sub i_mul i_quo i_rem i_and i_or i_xor i_andNot i_shl i_shr i_eql i_neq i_lss i_leq i_gtr i_geq st_add st_eql st_neq st_lss st_leq st_gtr st_geq bo_eql bo_neq pt_eql pt_neq un_neg un_xor un_not asI_mk asB_mk asS_mk asP_mk asSl_mk asBy_mk bnd_none bnd_some get_mk hput_mk hdel_mk kill_eq wrOf_eq rowOf_eq rsvs_0 rsvs_1 rsvs_2 rsvs_3 rsv_t rsv_c1 rsv_cn nt_v nt_ptr nt_sl nt_agg nt_ai get_ints get_strs get_pl get_sv getN_ints getN_sv set_ints set_strs set_sv setN_ints setN_sv part_ints part_strs part_sv cat_ints cat_strs cat_sv over_ints over_strs over_sv ones_ints ones_strs evs_nil evs_cons condK_eqt condK_eqf det_callP V_ns V_nn V_gs V_gn obC_mk fresh_ev setN_plagg setN_intsv setN_svai setN_svagg over_intsv set_pl setN_pl setN_plai getN_pl getN_strs part_pl cat_pl over_pl over_plints z_mm
attribute [local go_sem] initTm ne_eq not_true_eq_false not_false_eq_true true_and and_true List.length_cons List.length_nil Int.toNat_natCast Nat.add_zero Nat.zero_add Nat.mul_one List.getElem?_cons_zero List.drop_zero List.take_length List.take_succ_cons List.take_zero List.take_nil List.drop_succ_cons Option.map_some Nat.le_refl implies_true List.getElem?_cons_succ decide_true decide_false Bool.not_true Bool.not_false beq_self_eq_true Nat.succ_ne_self Nat.one_ne_zero Nat.zero_ne_one vk_mk hk_mk nk_mk tok_eq plsOf_map intsOf_map bodyOf_pl bodyOf_ints bodyOf_strs bodyOf_sv part_aggv part_agg part_ai part_int part_str part_bool part_sl part_ptr part_nil numsOf_map u_int u_str u_bool u_pnil u_sl u_ptr u_oci u_ocs evq_nil evq_cons fillS_nil fillS_cons u_ocb ones_pl cells_sv cells_ints cells_strs cells_pl smms_nil smms_cons smm_min smm_max plsOf_nil List.nil_append List.all_cons List.all_nil Bool.and_self Bool.true_and Bool.and_true zws_len zw_len zi_len List.set_cons_zero List.set_cons_succ List.flatMap_cons List.flatMap_nil List.append_nil
open Go.Proofs
variable {H : Hp} {n : Nat} {x : Nat → Option SO}

def cntV (ver sz ch : Int) (h t : ByteArray) (l : List ByteArray) : Int := if ckP ver sz ch h t l then cnt sz ch else 0
theorem cnt_bound {sz ch : Int} (h1 : 1 ≤ sz) (h2 : sz ≤ 8192) (h3 : 64 ≤ ch) (h4 : ch ≤ 1024) : 1 ≤ cnt sz ch ∧ cnt sz ch ≤ 128 ∧ ∀ i, i < cnt sz ch → i * ch < sz := by
  unfold cnt
  refine ⟨by rw [Int.le_ediv_iff_mul_le (by omega)]; omega, ?_, fun i hi => ?_⟩
  · have : (sz + ch - 1) / ch < 129 := by
      rw [Int.ediv_lt_iff_lt_mul (by omega)]
      omega
    omega
  · have h5 : i + 1 ≤ (sz + ch - 1) / ch := hi
    rw [Int.le_ediv_iff_mul_le (by omega)] at h5
    rw [Int.add_mul] at h5
    omega
theorem ckP.bounds {ver sz ch : Int} {h t : ByteArray} {l : List ByteArray} (hp : ckP ver sz ch h t l) : 1 ≤ sz ∧ sz ≤ 8192 ∧ 64 ≤ ch ∧ ch ≤ 1024 := by
  obtain ⟨_, _, h3, h4, h5, _⟩ := hp
  have := partB_bound h5
  omega
/-- From where to where a chunk goes. -/
def cutA (ver sz ch : Int) (h t : ByteArray) (l : List ByteArray) (i : Int) : Int := if 0 ≤ i ∧ i < cntV ver sz ch h t l then i * ch else 0
def cutZ (ver sz ch : Int) (h t : ByteArray) (l : List ByteArray) (i : Int) : Int := if 0 ≤ i ∧ i < cntV ver sz ch h t l then min (i * ch + ch) sz else 0
def fitE (ver sz ch : Int) (h t : ByteArray) (l : List ByteArray) (i : Int) (s : ByteArray) : Int :=
  if cutZ ver sz ch h t l i = 0 ∨ l = [] then 1 else if (s.size : Int) ≠ cutZ ver sz ch h t l i - cutA ver sz ch h t l i then 4 else if lf s ≠ l.getD i.toNat .empty then 10 else 0
def wholeE (ver sz ch : Int) (h t : ByteArray) (l : List ByteArray) (s : ByteArray) : Int :=
  if ¬ ckP ver sz ch h t l then 1 else if (s.size : Int) ≠ sz then 4 else if sha (bts s) ≠ h then 10 else 0
theorem cut_bound {ver sz ch : Int} {h t : ByteArray} {l : List ByteArray} {i : Int} (hi : 0 ≤ i ∧ i < cntV ver sz ch h t l) : ckP ver sz ch h t l ∧ cntV ver sz ch h t l = cnt sz ch ∧ 0 ≤ i * ch ∧ i * ch < sz ∧ i ≤ 128 ∧ 64 ≤ ch ∧ ch ≤ 1024 ∧ sz ≤ 8192 := by
  have hp : ckP ver sz ch h t l := Decidable.byContradiction fun e => by
    unfold cntV at hi; rw [if_neg e] at hi; omega
  have hb := hp.bounds
  have e : cntV ver sz ch h t l = cnt sz ch := by unfold cntV; rw [if_pos hp]
  rw [e] at hi
  obtain ⟨c1, c2, c3⟩ := cnt_bound hb.1 hb.2.1 hb.2.2.1 hb.2.2.2
  have := c3 i hi.2
  exact ⟨hp, e, Int.mul_nonneg hi.1 (by omega), this, by omega, hb.2.2.1, hb.2.2.2, hb.2.1⟩

theorem sum1S {i : Nat} {s : ByteArray} (hr : rowAt H i (.strs []) = some (.strs [s])) (hs : s.size ≤ 1073741824) : SpecAt Try.prog 29 [.sl i 0 1 1] H n (.v (.string (sha (bts s)))) H n := by
  have hc : catb (([s].drop 0).take 1) = bts s := by simp [catb]
  have hk := sumS (n := n) (o := 0) (m := 1) hr (by show 0 + 1 ≤ 1; decide) (by decide) (by rw [hc, bts_len]; omega)
  rw [hc] at hk
  exact hk
theorem countW {ver sz ch : Int} {h t : ByteArray} {o m : Nat} {ss : List ByteArray} (hom : o + m ≤ ss.length) (hm : m ≤ 1048576) (hz : szB ((ss.drop o).take m)) :
    fnVC CT mBCount [blA ver sz ch h t 1 o m] ⟨[(1, some ⟨false, .strs ss⟩)], x⟩ 2 fun v H' n' => Sub 2 ⟨[(0, .v (.int .i64 (cntV ver sz ch h t ((ss.drop o).take m))))], ⟨[], x⟩, 2⟩ ⟨[(0, v)], H', n'⟩ := by
  unfold mBCount
  simp -implicitDefEqProofs only [↓fnVC, initTm]
  simp -implicitDefEqProofs only [go_sem, ↓reduceIte, Nat.reduceEqDiff, Nat.reduceAdd, Nat.reduceMul, Nat.reduceLT, Nat.reduceLeDiff, Nat.reduceSub, Int.reduceToNat, Int.reduceLE, Int.reduceLT, reduceCtorEq, Int.reduceEq, Int.reduceGT, Int.reduceGE, Int.reduceNeg, blA]
  refine at_call tBCheck (checkS (i := 1) (by rfl) hom hm hz) ?_
  unfold cntV ckE
  by_cases hp : ckP ver sz ch h t ((ss.drop o).take m)
  · rw [if_pos hp, if_pos hp]
    have hb := hp.bounds
    simp -implicitDefEqProofs only [go_sem, ↓reduceIte, Nat.reduceEqDiff, Nat.reduceAdd, Nat.reduceMul, Nat.reduceLT, Nat.reduceLeDiff, Nat.reduceSub, Int.reduceToNat, Int.reduceLE, Int.reduceLT, reduceCtorEq, Int.reduceEq, Int.reduceGT, Int.reduceGE, Int.reduceNeg]
    refine at_call tBcount (countS hb.1 hb.2.1 hb.2.2.1 hb.2.2.2) ?_
    simp -implicitDefEqProofs only [go_sem, ↓reduceIte, Nat.reduceEqDiff, Nat.reduceAdd, Nat.reduceMul, Nat.reduceLT, Nat.reduceLeDiff, Nat.reduceSub, Int.reduceToNat, Int.reduceLE, Int.reduceLT, reduceCtorEq, Int.reduceEq, Int.reduceGT, Int.reduceGE, Int.reduceNeg]
    exact sub_val rfl (by decide) (by decide) rfl
  · rw [if_neg hp, if_neg hp]
    simp -implicitDefEqProofs only [go_sem, ↓reduceIte, Nat.reduceEqDiff, Nat.reduceAdd, Nat.reduceMul, Nat.reduceLT, Nat.reduceLeDiff, Nat.reduceSub, Int.reduceToNat, Int.reduceLE, Int.reduceLT, reduceCtorEq, Int.reduceEq, Int.reduceGT, Int.reduceGE, Int.reduceNeg]
    exact sub_val rfl (by decide) (by decide) rfl
theorem countBS {ver sz ch : Int} {h t : ByteArray} {i o m : Nat} {ss : List ByteArray} (hr : rowAt H i (.strs []) = some (.strs ss)) (hom : o + m ≤ ss.length) (hm : m ≤ 1048576) (hz : szB ((ss.drop o).take m)) :
    SpecAt Try.prog nBCount [blA ver sz ch h t i o m] H n (.v (.int .i64 (cntV ver sz ch h t ((ss.drop o).take m)))) H n :=
  lift_bl (post := []) hr rfl (okT.spec tBCount (countW hom hm hz))
theorem cutW {ver sz ch i : Int} {h t : ByteArray} {o m : Nat} {ss : List ByteArray} (hom : o + m ≤ ss.length) (hm : m ≤ 1048576) (hz : szB ((ss.drop o).take m)) :
    fnVC CT mBCut [blA ver sz ch h t 1 o m, .v (.int .i64 i)] ⟨[(1, some ⟨false, .strs ss⟩)], x⟩ 2 fun v H' n' => Sub 2 ⟨[(0, .tup [.v (.int .i64 (cutA ver sz ch h t ((ss.drop o).take m) i)), .v (.int .i64 (cutZ ver sz ch h t ((ss.drop o).take m) i))])], ⟨[], x⟩, 2⟩ ⟨[(0, v)], H', n'⟩ := by
  unfold mBCut
  simp -implicitDefEqProofs only [↓fnVC, initTm]
  unfold cutA cutZ
  by_cases h0 : i < 0
  · have b0 := decide_eq_true h0
    rw [if_neg (by omega), if_neg (by omega)]
    simp -implicitDefEqProofs only [go_sem, ↓reduceIte, Nat.reduceEqDiff, Nat.reduceAdd, Nat.reduceMul, Nat.reduceLT, Nat.reduceLeDiff, Nat.reduceSub, Int.reduceToNat, Int.reduceLE, Int.reduceLT, reduceCtorEq, Int.reduceEq, Int.reduceGT, Int.reduceGE, Int.reduceNeg, b0, blA]
    refine sub_mk [] rfl rfl rfl ?_
    simp only [tmSub, hpSub, objSub, eqTm, eqHp, rn, lk, SV.ren, SV.renC, SV.renB, SV.renA, ren_ints, ren_strs, ren_pl, ren_svs, SV.v.injEq, Value.int.injEq, Body.ints.injEq, SV.ptr.injEq, SV.sl.injEq, Value.string.injEq, Value.bool.injEq, List.map_cons, List.map_nil, forall_const, Nat.reduceLT, Nat.lt_add_one, imp_self, true_and, and_true, and_self, ob_some, get_mk, lk_cons, ↓reduceIte, Nat.reduceEqDiff, ne_eq, not_true_eq_false, not_false_eq_true, Nat.one_ne_zero, Nat.zero_ne_one, Nat.succ_ne_self, Nat.reduceAdd, Bool.false_eq_true, false_implies, implies_true, reduceCtorEq]
  have b0 := decide_eq_false h0
  simp -implicitDefEqProofs only [go_sem, ↓reduceIte, Nat.reduceEqDiff, Nat.reduceAdd, Nat.reduceMul, Nat.reduceLT, Nat.reduceLeDiff, Nat.reduceSub, Int.reduceToNat, Int.reduceLE, Int.reduceLT, reduceCtorEq, Int.reduceEq, Int.reduceGT, Int.reduceGE, Int.reduceNeg, b0, blA]
  refine at_call tBCount (countBS (i := 1) (by rfl) hom hm hz) ?_
  by_cases h1 : i ≥ cntV ver sz ch h t ((ss.drop o).take m)
  · have b1 := decide_eq_true h1
    rw [if_neg (by omega), if_neg (by omega)]
    simp -implicitDefEqProofs only [go_sem, ↓reduceIte, Nat.reduceEqDiff, Nat.reduceAdd, Nat.reduceMul, Nat.reduceLT, Nat.reduceLeDiff, Nat.reduceSub, Int.reduceToNat, Int.reduceLE, Int.reduceLT, reduceCtorEq, Int.reduceEq, Int.reduceGT, Int.reduceGE, Int.reduceNeg, b1]
    refine sub_mk [] rfl rfl rfl ?_
    simp only [tmSub, hpSub, objSub, eqTm, eqHp, rn, lk, SV.ren, SV.renC, SV.renB, SV.renA, ren_ints, ren_strs, ren_pl, ren_svs, SV.v.injEq, Value.int.injEq, Body.ints.injEq, SV.ptr.injEq, SV.sl.injEq, Value.string.injEq, Value.bool.injEq, List.map_cons, List.map_nil, forall_const, Nat.reduceLT, Nat.lt_add_one, imp_self, true_and, and_true, and_self, ob_some, get_mk, lk_cons, ↓reduceIte, Nat.reduceEqDiff, ne_eq, not_true_eq_false, not_false_eq_true, Nat.one_ne_zero, Nat.zero_ne_one, Nat.succ_ne_self, Nat.reduceAdd, Bool.false_eq_true, false_implies, implies_true, reduceCtorEq]
  have b1 := decide_eq_false h1
  obtain ⟨q1, q2, q3, q4, q5, q6, q7, q8⟩ := cut_bound (ver := ver) (sz := sz) (ch := ch) (h := h) (t := t) (l := (ss.drop o).take m) (i := i) (by omega)
  rw [if_pos (by omega), if_pos (by omega)]
  have w1 : IntKind.i64.wrap (i * ch) = i * ch := wrap_i64 (by omega) (by omega)
  have w2 : IntKind.i64.wrap (i * ch + ch) = i * ch + ch := wrap_i64 (by omega) (by omega)
  have w3 : IntKind.i64.wrap (i + 1) = i + 1 := wrap_i64 (by omega) (by omega)
  have w4 : (i + 1) * ch = i * ch + ch := by rw [Int.add_mul, Int.one_mul]
  simp -implicitDefEqProofs only [go_sem, ↓reduceIte, Nat.reduceEqDiff, Nat.reduceAdd, Nat.reduceMul, Nat.reduceLT, Nat.reduceLeDiff, Nat.reduceSub, Int.reduceToNat, Int.reduceLE, Int.reduceLT, reduceCtorEq, Int.reduceEq, Int.reduceGT, Int.reduceGE, Int.reduceNeg, b1, w1, w2, w3, w4]
  refine sub_mk [] rfl rfl rfl ?_
  simp only [tmSub, hpSub, objSub, eqTm, eqHp, rn, lk, SV.ren, SV.renC, SV.renB, SV.renA, ren_ints, ren_strs, ren_pl, ren_svs, SV.v.injEq, Value.int.injEq, Body.ints.injEq, SV.ptr.injEq, SV.sl.injEq, Value.string.injEq, Value.bool.injEq, List.map_cons, List.map_nil, forall_const, Nat.reduceLT, Nat.lt_add_one, imp_self, true_and, and_true, and_self, ob_some, get_mk, lk_cons, ↓reduceIte, Nat.reduceEqDiff, ne_eq, not_true_eq_false, not_false_eq_true, Nat.one_ne_zero, Nat.zero_ne_one, Nat.succ_ne_self, Nat.reduceAdd, Bool.false_eq_true, false_implies, implies_true, reduceCtorEq]
theorem cutBS {ver sz ch j : Int} {h t : ByteArray} {i o m : Nat} {ss : List ByteArray} (hr : rowAt H i (.strs []) = some (.strs ss)) (hom : o + m ≤ ss.length) (hm : m ≤ 1048576) (hz : szB ((ss.drop o).take m)) :
    SpecAt Try.prog nBCut [blA ver sz ch h t i o m, .v (.int .i64 j)] H n (.tup [.v (.int .i64 (cutA ver sz ch h t ((ss.drop o).take m) j)), .v (.int .i64 (cutZ ver sz ch h t ((ss.drop o).take m) j))]) H n :=
  lift_bl (post := [.int .i64 j]) hr rfl (okT.spec tBCut (cutW hom hm hz))
theorem fitsW {ver sz ch i : Int} {h t s : ByteArray} {o m : Nat} {ss : List ByteArray} (hom : o + m ≤ ss.length) (hm : m ≤ 1048576) (hz : szB ((ss.drop o).take m)) :
    fnVC CT mBFits [blA ver sz ch h t 1 o m, .v (.int .i64 i), .v (.string s)] ⟨[(1, some ⟨false, .strs ss⟩)], x⟩ 2 fun v H' n' => Sub 2 ⟨[(0, .v (.int .i64 (fitE ver sz ch h t ((ss.drop o).take m) i s)))], ⟨[], x⟩, 2⟩ ⟨[(0, v)], H', n'⟩ := by
  unfold mBFits
  have hlen : ((ss.drop o).take m).length = m := by rw [List.length_take, List.length_drop]; omega
  simp -implicitDefEqProofs only [↓fnVC, initTm]
  simp -implicitDefEqProofs only [go_sem, ↓reduceIte, Nat.reduceEqDiff, Nat.reduceAdd, Nat.reduceMul, Nat.reduceLT, Nat.reduceLeDiff, Nat.reduceSub, Int.reduceToNat, Int.reduceLE, Int.reduceLT, reduceCtorEq, Int.reduceEq, Int.reduceGT, Int.reduceGE, Int.reduceNeg, blA]
  refine at_call tBCut (cutBS (i := 1) (by rfl) hom hm hz) ?_
  unfold fitE
  by_cases h0 : cutZ ver sz ch h t ((ss.drop o).take m) i = 0
  · have b0 := decide_eq_true h0
    rw [if_pos (.inl h0)]
    simp -implicitDefEqProofs only [go_sem, ↓reduceIte, Nat.reduceEqDiff, Nat.reduceAdd, Nat.reduceMul, Nat.reduceLT, Nat.reduceLeDiff, Nat.reduceSub, Int.reduceToNat, Int.reduceLE, Int.reduceLT, reduceCtorEq, Int.reduceEq, Int.reduceGT, Int.reduceGE, Int.reduceNeg, b0]
    exact sub_val rfl (by decide) (by decide) rfl
  have b0 := decide_eq_false h0
  by_cases h1 : m = 0
  · have b1 : decide ((m : Int) = 0) = true := decide_eq_true (by omega)
    rw [if_pos (.inr (List.length_eq_zero_iff.1 (by omega)))]
    simp -implicitDefEqProofs only [go_sem, ↓reduceIte, Nat.reduceEqDiff, Nat.reduceAdd, Nat.reduceMul, Nat.reduceLT, Nat.reduceLeDiff, Nat.reduceSub, Int.reduceToNat, Int.reduceLE, Int.reduceLT, reduceCtorEq, Int.reduceEq, Int.reduceGT, Int.reduceGE, Int.reduceNeg, b0, b1]
    exact sub_val rfl (by decide) (by decide) rfl
  have b1 : decide ((m : Int) = 0) = false := decide_eq_false (by omega)
  have hne : (ss.drop o).take m ≠ [] := fun e => by rw [e] at hlen; simp at hlen; omega
  rw [if_neg (by simp [h0, hne])]
  have hi : 0 ≤ i ∧ i < cntV ver sz ch h t ((ss.drop o).take m) := Decidable.byContradiction fun e => h0 (by unfold cutZ; rw [if_neg e])
  obtain ⟨q1, q2, q3, q4, q5, q6, q7, q8⟩ := cut_bound hi
  have qm : (m : Int) = cnt sz ch := by
    obtain ⟨_, _, _, _, _, _, _, c⟩ := q1
    rcases c with c | c
    · exact absurd c hne
    · rw [hlen] at c; exact c.1
  have w1 : IntKind.i64.wrap (cutZ ver sz ch h t ((ss.drop o).take m) i - cutA ver sz ch h t ((ss.drop o).take m) i) = cutZ ver sz ch h t ((ss.drop o).take m) i - cutA ver sz ch h t ((ss.drop o).take m) i := by
    unfold cutZ cutA
    rw [if_pos hi, if_pos hi]
    exact wrap_i64 (by omega) (by omega)
  by_cases h2 : (s.size : Int) = cutZ ver sz ch h t ((ss.drop o).take m) i - cutA ver sz ch h t ((ss.drop o).take m) i
  · have b2 := decide_eq_true h2
    rw [if_neg (by omega)]
    have hsb : s.size ≤ 8192 := by
      unfold cutZ cutA at h2
      rw [if_pos hi, if_pos hi] at h2
      omega
    obtain ⟨j, rfl⟩ : ∃ j : Nat, i = j := ⟨i.toNat, by omega⟩
    have hgD : ss.getD (o + j) ByteArray.empty = ((ss.drop o).take m).getD j ByteArray.empty := by
      rw [List.getD_eq_getElem?_getD, List.getD_eq_getElem?_getD, List.getElem?_take, if_pos (by omega), List.getElem?_drop]
    have hj : j < m := by omega
    have hjo : o + j < ss.length := by omega
    rw [Int.toNat_natCast, ← hgD]
    simp -implicitDefEqProofs only [go_sem, ↓reduceIte, Nat.reduceEqDiff, Nat.reduceAdd, Nat.reduceMul, Nat.reduceLT, Nat.reduceLeDiff, Nat.reduceSub, Int.reduceToNat, Int.reduceLE, Int.reduceLT, reduceCtorEq, Int.reduceEq, Int.reduceGT, Int.reduceGE, Int.reduceNeg, b0, b1, w1, b2]
    refine ⟨by omega, by omega, ?_⟩
    refine at_call tLeaf (leafS (by omega)) ?_
    by_cases h3 : lf s = ss.getD (o + j) ByteArray.empty
    · have b3 : seq (lf s) (ss.getD (o + j) ByteArray.empty) = true := by rw [h3]; exact seq_self _
      rw [if_neg (by simp [h3])]
      simp -implicitDefEqProofs only [go_sem, ↓reduceIte, Nat.reduceEqDiff, Nat.reduceAdd, Nat.reduceMul, Nat.reduceLT, Nat.reduceLeDiff, Nat.reduceSub, Int.reduceToNat, Int.reduceLE, Int.reduceLT, reduceCtorEq, Int.reduceEq, Int.reduceGT, Int.reduceGE, Int.reduceNeg, b3]
      exact sub_val rfl (by decide) (by decide) rfl
    · have b3 := seq_ne h3
      rw [if_pos h3]
      simp -implicitDefEqProofs only [go_sem, ↓reduceIte, Nat.reduceEqDiff, Nat.reduceAdd, Nat.reduceMul, Nat.reduceLT, Nat.reduceLeDiff, Nat.reduceSub, Int.reduceToNat, Int.reduceLE, Int.reduceLT, reduceCtorEq, Int.reduceEq, Int.reduceGT, Int.reduceGE, Int.reduceNeg, b3]
      exact sub_val rfl (by decide) (by decide) rfl
  · have b2 := decide_eq_false h2
    rw [if_pos h2]
    simp -implicitDefEqProofs only [go_sem, ↓reduceIte, Nat.reduceEqDiff, Nat.reduceAdd, Nat.reduceMul, Nat.reduceLT, Nat.reduceLeDiff, Nat.reduceSub, Int.reduceToNat, Int.reduceLE, Int.reduceLT, reduceCtorEq, Int.reduceEq, Int.reduceGT, Int.reduceGE, Int.reduceNeg, b0, b1, w1, b2]
    exact sub_val rfl (by decide) (by decide) rfl
theorem fitsS {ver sz ch j : Int} {h t s : ByteArray} {i o m : Nat} {ss : List ByteArray} (hr : rowAt H i (.strs []) = some (.strs ss)) (hom : o + m ≤ ss.length) (hm : m ≤ 1048576) (hz : szB ((ss.drop o).take m)) :
    SpecAt Try.prog nBFits [blA ver sz ch h t i o m, .v (.int .i64 j), .v (.string s)] H n (.v (.int .i64 (fitE ver sz ch h t ((ss.drop o).take m) j s))) H n :=
  lift_bl (post := [.int .i64 j, .string s]) hr rfl (okT.spec tBFits (fitsW hom hm hz))
theorem wholeW {ver sz ch : Int} {h t s : ByteArray} {o m : Nat} {ss : List ByteArray} (hom : o + m ≤ ss.length) (hm : m ≤ 1048576) (hz : szB ((ss.drop o).take m)) :
    fnVC CT mBWhole [blA ver sz ch h t 1 o m, .v (.string s)] ⟨[(1, some ⟨false, .strs ss⟩)], x⟩ 2 fun v H' n' => Sub 2 ⟨[(0, .v (.int .i64 (wholeE ver sz ch h t ((ss.drop o).take m) s)))], ⟨[], x⟩, 2⟩ ⟨[(0, v)], H', n'⟩ := by
  unfold mBWhole
  simp -implicitDefEqProofs only [↓fnVC, initTm]
  simp -implicitDefEqProofs only [go_sem, ↓reduceIte, Nat.reduceEqDiff, Nat.reduceAdd, Nat.reduceMul, Nat.reduceLT, Nat.reduceLeDiff, Nat.reduceSub, Int.reduceToNat, Int.reduceLE, Int.reduceLT, reduceCtorEq, Int.reduceEq, Int.reduceGT, Int.reduceGE, Int.reduceNeg, blA]
  refine at_call tBCheck (checkS (i := 1) (by rfl) hom hm hz) ?_
  unfold ckE wholeE
  by_cases hp : ckP ver sz ch h t ((ss.drop o).take m)
  · rw [if_pos hp, if_neg (by simp [hp])]
    have hb := hp.bounds
    by_cases h2 : (s.size : Int) = sz
    · have b2 := decide_eq_true h2
      rw [if_neg (by omega)]
      simp -implicitDefEqProofs only [go_sem, ↓reduceIte, Nat.reduceEqDiff, Nat.reduceAdd, Nat.reduceMul, Nat.reduceLT, Nat.reduceLeDiff, Nat.reduceSub, Int.reduceToNat, Int.reduceLE, Int.reduceLT, reduceCtorEq, Int.reduceEq, Int.reduceGT, Int.reduceGE, Int.reduceNeg, b2]
      refine at_call t9 (sum1S (s := s) (by rfl) (by omega)) ?_
      by_cases h3 : sha (bts s) = h
      · have b3 : seq (sha (bts s)) h = true := by rw [h3]; exact seq_self _
        rw [if_neg (by simp [h3])]
        simp -implicitDefEqProofs only [go_sem, ↓reduceIte, Nat.reduceEqDiff, Nat.reduceAdd, Nat.reduceMul, Nat.reduceLT, Nat.reduceLeDiff, Nat.reduceSub, Int.reduceToNat, Int.reduceLE, Int.reduceLT, reduceCtorEq, Int.reduceEq, Int.reduceGT, Int.reduceGE, Int.reduceNeg, b3]
        exact sub_val rfl (by decide) (by decide) rfl
      · have b3 := seq_ne h3
        rw [if_pos h3]
        simp -implicitDefEqProofs only [go_sem, ↓reduceIte, Nat.reduceEqDiff, Nat.reduceAdd, Nat.reduceMul, Nat.reduceLT, Nat.reduceLeDiff, Nat.reduceSub, Int.reduceToNat, Int.reduceLE, Int.reduceLT, reduceCtorEq, Int.reduceEq, Int.reduceGT, Int.reduceGE, Int.reduceNeg, b3]
        exact sub_val rfl (by decide) (by decide) rfl
    · have b2 := decide_eq_false h2
      rw [if_pos h2]
      simp -implicitDefEqProofs only [go_sem, ↓reduceIte, Nat.reduceEqDiff, Nat.reduceAdd, Nat.reduceMul, Nat.reduceLT, Nat.reduceLeDiff, Nat.reduceSub, Int.reduceToNat, Int.reduceLE, Int.reduceLT, reduceCtorEq, Int.reduceEq, Int.reduceGT, Int.reduceGE, Int.reduceNeg, b2]
      exact sub_val rfl (by decide) (by decide) rfl
  · rw [if_neg hp, if_pos hp]
    simp -implicitDefEqProofs only [go_sem, ↓reduceIte, Nat.reduceEqDiff, Nat.reduceAdd, Nat.reduceMul, Nat.reduceLT, Nat.reduceLeDiff, Nat.reduceSub, Int.reduceToNat, Int.reduceLE, Int.reduceLT, reduceCtorEq, Int.reduceEq, Int.reduceGT, Int.reduceGE, Int.reduceNeg]
    exact sub_val rfl (by decide) (by decide) rfl
theorem wholeS {ver sz ch : Int} {h t s : ByteArray} {i o m : Nat} {ss : List ByteArray} (hr : rowAt H i (.strs []) = some (.strs ss)) (hom : o + m ≤ ss.length) (hm : m ≤ 1048576) (hz : szB ((ss.drop o).take m)) :
    SpecAt Try.prog nBWhole [blA ver sz ch h t i o m, .v (.string s)] H n (.v (.int .i64 (wholeE ver sz ch h t ((ss.drop o).take m) s))) H n :=
  lift_bl (post := [.string s]) hr rfl (okT.spec tBWhole (wholeW hom hm hz))

theorem rsum1S {i : Nat} {s : ByteArray} (hr : rowAt H i (.strs []) = some (.strs [s])) (hs : s.size ≤ 1073741824) : SpecAt Try.prog 30 [.sl i 0 1 1] H n (.v (.string (sha (bts s)))) H n := by
  have hc : catb (([s].drop 0).take 1) = bts s := by simp [catb]
  have hk := rsumS (n := n) (o := 0) (m := 1) hr (by show 0 + 1 ≤ 1; decide) (by decide) (by rw [hc, bts_len]; omega)
  rw [hc] at hk
  exact hk
theorem rcountW {ver sz ch : Int} {h t : ByteArray} {o m : Nat} {ss : List ByteArray} (hom : o + m ≤ ss.length) (hm : m ≤ 1048576) (hz : szB ((ss.drop o).take m)) :
    fnVC CT mrBCount [blA ver sz ch h t 1 o m] ⟨[(1, some ⟨false, .strs ss⟩)], x⟩ 2 fun v H' n' => Sub 2 ⟨[(0, .v (.int .i64 (cntV ver sz ch h t ((ss.drop o).take m))))], ⟨[], x⟩, 2⟩ ⟨[(0, v)], H', n'⟩ := by
  unfold mrBCount
  simp -implicitDefEqProofs only [↓fnVC, initTm]
  simp -implicitDefEqProofs only [go_sem, ↓reduceIte, Nat.reduceEqDiff, Nat.reduceAdd, Nat.reduceMul, Nat.reduceLT, Nat.reduceLeDiff, Nat.reduceSub, Int.reduceToNat, Int.reduceLE, Int.reduceLT, reduceCtorEq, Int.reduceEq, Int.reduceGT, Int.reduceGE, Int.reduceNeg, blA]
  refine at_call trBCheck (rcheckS (i := 1) (by rfl) hom hm hz) ?_
  unfold cntV ckE
  by_cases hp : ckP ver sz ch h t ((ss.drop o).take m)
  · rw [if_pos hp, if_pos hp]
    have hb := hp.bounds
    simp -implicitDefEqProofs only [go_sem, ↓reduceIte, Nat.reduceEqDiff, Nat.reduceAdd, Nat.reduceMul, Nat.reduceLT, Nat.reduceLeDiff, Nat.reduceSub, Int.reduceToNat, Int.reduceLE, Int.reduceLT, reduceCtorEq, Int.reduceEq, Int.reduceGT, Int.reduceGE, Int.reduceNeg]
    have d1 : IntKind.i64.wrap (sz + ch) = sz + ch := wrap_i64 (by omega) (by omega)
    have d2 : IntKind.i64.wrap (sz + ch - 1) = sz + ch - 1 := wrap_i64 (by omega) (by omega)
    have d3 : (sz + ch - 1).tdiv ch = cnt sz ch := Int.tdiv_eq_ediv_of_nonneg (by omega)
    have e1 : 0 ≤ cnt sz ch := Int.ediv_nonneg (by omega) (by omega)
    have e2 : cnt sz ch ≤ sz + ch - 1 := Int.ediv_le_self _ (by omega)
    have d4 : IntKind.i64.wrap (cnt sz ch) = cnt sz ch := wrap_i64 (by omega) (by omega)
    simp -implicitDefEqProofs only [go_sem, ↓reduceIte, Nat.reduceEqDiff, Nat.reduceAdd, Nat.reduceMul, Nat.reduceLT, Nat.reduceLeDiff, Nat.reduceSub, Int.reduceToNat, Int.reduceLE, Int.reduceLT, reduceCtorEq, Int.reduceEq, Int.reduceGT, Int.reduceGE, Int.reduceNeg, d1, d2, d3, d4]
    refine ⟨by omega, ?_⟩
    exact sub_val rfl (by decide) (by decide) rfl
  · rw [if_neg hp, if_neg hp]
    simp -implicitDefEqProofs only [go_sem, ↓reduceIte, Nat.reduceEqDiff, Nat.reduceAdd, Nat.reduceMul, Nat.reduceLT, Nat.reduceLeDiff, Nat.reduceSub, Int.reduceToNat, Int.reduceLE, Int.reduceLT, reduceCtorEq, Int.reduceEq, Int.reduceGT, Int.reduceGE, Int.reduceNeg]
    exact sub_val rfl (by decide) (by decide) rfl
theorem rcountBS {ver sz ch : Int} {h t : ByteArray} {i o m : Nat} {ss : List ByteArray} (hr : rowAt H i (.strs []) = some (.strs ss)) (hom : o + m ≤ ss.length) (hm : m ≤ 1048576) (hz : szB ((ss.drop o).take m)) :
    SpecAt Try.prog nrBCount [blA ver sz ch h t i o m] H n (.v (.int .i64 (cntV ver sz ch h t ((ss.drop o).take m)))) H n :=
  lift_bl (post := []) hr rfl (okT.spec trBCount (rcountW hom hm hz))
theorem rcutW {ver sz ch i : Int} {h t : ByteArray} {o m : Nat} {ss : List ByteArray} (hom : o + m ≤ ss.length) (hm : m ≤ 1048576) (hz : szB ((ss.drop o).take m)) :
    fnVC CT mrBCut [blA ver sz ch h t 1 o m, .v (.int .i64 i)] ⟨[(1, some ⟨false, .strs ss⟩)], x⟩ 2 fun v H' n' => Sub 2 ⟨[(0, .tup [.v (.int .i64 (cutA ver sz ch h t ((ss.drop o).take m) i)), .v (.int .i64 (cutZ ver sz ch h t ((ss.drop o).take m) i))])], ⟨[], x⟩, 2⟩ ⟨[(0, v)], H', n'⟩ := by
  unfold mrBCut
  simp -implicitDefEqProofs only [↓fnVC, initTm]
  unfold cutA cutZ
  by_cases h0 : i < 0
  · have b0 := decide_eq_true h0
    rw [if_neg (by omega), if_neg (by omega)]
    simp -implicitDefEqProofs only [go_sem, ↓reduceIte, Nat.reduceEqDiff, Nat.reduceAdd, Nat.reduceMul, Nat.reduceLT, Nat.reduceLeDiff, Nat.reduceSub, Int.reduceToNat, Int.reduceLE, Int.reduceLT, reduceCtorEq, Int.reduceEq, Int.reduceGT, Int.reduceGE, Int.reduceNeg, b0, blA]
    refine sub_mk [] rfl rfl rfl ?_
    simp only [tmSub, hpSub, objSub, eqTm, eqHp, rn, lk, SV.ren, SV.renC, SV.renB, SV.renA, ren_ints, ren_strs, ren_pl, ren_svs, SV.v.injEq, Value.int.injEq, Body.ints.injEq, SV.ptr.injEq, SV.sl.injEq, Value.string.injEq, Value.bool.injEq, List.map_cons, List.map_nil, forall_const, Nat.reduceLT, Nat.lt_add_one, imp_self, true_and, and_true, and_self, ob_some, get_mk, lk_cons, ↓reduceIte, Nat.reduceEqDiff, ne_eq, not_true_eq_false, not_false_eq_true, Nat.one_ne_zero, Nat.zero_ne_one, Nat.succ_ne_self, Nat.reduceAdd, Bool.false_eq_true, false_implies, implies_true, reduceCtorEq]
  have b0 := decide_eq_false h0
  simp -implicitDefEqProofs only [go_sem, ↓reduceIte, Nat.reduceEqDiff, Nat.reduceAdd, Nat.reduceMul, Nat.reduceLT, Nat.reduceLeDiff, Nat.reduceSub, Int.reduceToNat, Int.reduceLE, Int.reduceLT, reduceCtorEq, Int.reduceEq, Int.reduceGT, Int.reduceGE, Int.reduceNeg, b0, blA]
  refine at_call trBCount (rcountBS (i := 1) (by rfl) hom hm hz) ?_
  by_cases h1 : i ≥ cntV ver sz ch h t ((ss.drop o).take m)
  · have b1 := decide_eq_true h1
    rw [if_neg (by omega), if_neg (by omega)]
    simp -implicitDefEqProofs only [go_sem, ↓reduceIte, Nat.reduceEqDiff, Nat.reduceAdd, Nat.reduceMul, Nat.reduceLT, Nat.reduceLeDiff, Nat.reduceSub, Int.reduceToNat, Int.reduceLE, Int.reduceLT, reduceCtorEq, Int.reduceEq, Int.reduceGT, Int.reduceGE, Int.reduceNeg, b1]
    refine sub_mk [] rfl rfl rfl ?_
    simp only [tmSub, hpSub, objSub, eqTm, eqHp, rn, lk, SV.ren, SV.renC, SV.renB, SV.renA, ren_ints, ren_strs, ren_pl, ren_svs, SV.v.injEq, Value.int.injEq, Body.ints.injEq, SV.ptr.injEq, SV.sl.injEq, Value.string.injEq, Value.bool.injEq, List.map_cons, List.map_nil, forall_const, Nat.reduceLT, Nat.lt_add_one, imp_self, true_and, and_true, and_self, ob_some, get_mk, lk_cons, ↓reduceIte, Nat.reduceEqDiff, ne_eq, not_true_eq_false, not_false_eq_true, Nat.one_ne_zero, Nat.zero_ne_one, Nat.succ_ne_self, Nat.reduceAdd, Bool.false_eq_true, false_implies, implies_true, reduceCtorEq]
  have b1 := decide_eq_false h1
  obtain ⟨q1, q2, q3, q4, q5, q6, q7, q8⟩ := cut_bound (ver := ver) (sz := sz) (ch := ch) (h := h) (t := t) (l := (ss.drop o).take m) (i := i) (by omega)
  rw [if_pos (by omega), if_pos (by omega)]
  have w1 : IntKind.i64.wrap (i * ch) = i * ch := wrap_i64 (by omega) (by omega)
  have w2 : IntKind.i64.wrap (i * ch + ch) = i * ch + ch := wrap_i64 (by omega) (by omega)
  have w3 : IntKind.i64.wrap (i + 1) = i + 1 := wrap_i64 (by omega) (by omega)
  have w4 : (i + 1) * ch = i * ch + ch := by rw [Int.add_mul, Int.one_mul]
  simp -implicitDefEqProofs only [go_sem, ↓reduceIte, Nat.reduceEqDiff, Nat.reduceAdd, Nat.reduceMul, Nat.reduceLT, Nat.reduceLeDiff, Nat.reduceSub, Int.reduceToNat, Int.reduceLE, Int.reduceLT, reduceCtorEq, Int.reduceEq, Int.reduceGT, Int.reduceGE, Int.reduceNeg, b1, w1, w2, w3, w4]
  refine sub_mk [] rfl rfl rfl ?_
  simp only [tmSub, hpSub, objSub, eqTm, eqHp, rn, lk, SV.ren, SV.renC, SV.renB, SV.renA, ren_ints, ren_strs, ren_pl, ren_svs, SV.v.injEq, Value.int.injEq, Body.ints.injEq, SV.ptr.injEq, SV.sl.injEq, Value.string.injEq, Value.bool.injEq, List.map_cons, List.map_nil, forall_const, Nat.reduceLT, Nat.lt_add_one, imp_self, true_and, and_true, and_self, ob_some, get_mk, lk_cons, ↓reduceIte, Nat.reduceEqDiff, ne_eq, not_true_eq_false, not_false_eq_true, Nat.one_ne_zero, Nat.zero_ne_one, Nat.succ_ne_self, Nat.reduceAdd, Bool.false_eq_true, false_implies, implies_true, reduceCtorEq]
theorem rcutBS {ver sz ch j : Int} {h t : ByteArray} {i o m : Nat} {ss : List ByteArray} (hr : rowAt H i (.strs []) = some (.strs ss)) (hom : o + m ≤ ss.length) (hm : m ≤ 1048576) (hz : szB ((ss.drop o).take m)) :
    SpecAt Try.prog nrBCut [blA ver sz ch h t i o m, .v (.int .i64 j)] H n (.tup [.v (.int .i64 (cutA ver sz ch h t ((ss.drop o).take m) j)), .v (.int .i64 (cutZ ver sz ch h t ((ss.drop o).take m) j))]) H n :=
  lift_bl (post := [.int .i64 j]) hr rfl (okT.spec trBCut (rcutW hom hm hz))
theorem rfitsW {ver sz ch i : Int} {h t s : ByteArray} {o m : Nat} {ss : List ByteArray} (hom : o + m ≤ ss.length) (hm : m ≤ 1048576) (hz : szB ((ss.drop o).take m)) :
    fnVC CT mrBFits [blA ver sz ch h t 1 o m, .v (.int .i64 i), .v (.string s)] ⟨[(1, some ⟨false, .strs ss⟩)], x⟩ 2 fun v H' n' => Sub 2 ⟨[(0, .v (.int .i64 (fitE ver sz ch h t ((ss.drop o).take m) i s)))], ⟨[], x⟩, 2⟩ ⟨[(0, v)], H', n'⟩ := by
  unfold mrBFits
  have hlen : ((ss.drop o).take m).length = m := by rw [List.length_take, List.length_drop]; omega
  simp -implicitDefEqProofs only [↓fnVC, initTm]
  simp -implicitDefEqProofs only [go_sem, ↓reduceIte, Nat.reduceEqDiff, Nat.reduceAdd, Nat.reduceMul, Nat.reduceLT, Nat.reduceLeDiff, Nat.reduceSub, Int.reduceToNat, Int.reduceLE, Int.reduceLT, reduceCtorEq, Int.reduceEq, Int.reduceGT, Int.reduceGE, Int.reduceNeg, blA]
  refine at_call trBCut (rcutBS (i := 1) (by rfl) hom hm hz) ?_
  unfold fitE
  by_cases h0 : cutZ ver sz ch h t ((ss.drop o).take m) i = 0
  · have b0 := decide_eq_true h0
    rw [if_pos (.inl h0)]
    simp -implicitDefEqProofs only [go_sem, ↓reduceIte, Nat.reduceEqDiff, Nat.reduceAdd, Nat.reduceMul, Nat.reduceLT, Nat.reduceLeDiff, Nat.reduceSub, Int.reduceToNat, Int.reduceLE, Int.reduceLT, reduceCtorEq, Int.reduceEq, Int.reduceGT, Int.reduceGE, Int.reduceNeg, b0]
    exact sub_val rfl (by decide) (by decide) rfl
  have b0 := decide_eq_false h0
  by_cases h1 : m = 0
  · have b1 : decide ((m : Int) = 0) = true := decide_eq_true (by omega)
    rw [if_pos (.inr (List.length_eq_zero_iff.1 (by omega)))]
    simp -implicitDefEqProofs only [go_sem, ↓reduceIte, Nat.reduceEqDiff, Nat.reduceAdd, Nat.reduceMul, Nat.reduceLT, Nat.reduceLeDiff, Nat.reduceSub, Int.reduceToNat, Int.reduceLE, Int.reduceLT, reduceCtorEq, Int.reduceEq, Int.reduceGT, Int.reduceGE, Int.reduceNeg, b0, b1]
    exact sub_val rfl (by decide) (by decide) rfl
  have b1 : decide ((m : Int) = 0) = false := decide_eq_false (by omega)
  have hne : (ss.drop o).take m ≠ [] := fun e => by rw [e] at hlen; simp at hlen; omega
  rw [if_neg (by simp [h0, hne])]
  have hi : 0 ≤ i ∧ i < cntV ver sz ch h t ((ss.drop o).take m) := Decidable.byContradiction fun e => h0 (by unfold cutZ; rw [if_neg e])
  obtain ⟨q1, q2, q3, q4, q5, q6, q7, q8⟩ := cut_bound hi
  have qm : (m : Int) = cnt sz ch := by
    obtain ⟨_, _, _, _, _, _, _, c⟩ := q1
    rcases c with c | c
    · exact absurd c hne
    · rw [hlen] at c; exact c.1
  have w1 : IntKind.i64.wrap (cutZ ver sz ch h t ((ss.drop o).take m) i - cutA ver sz ch h t ((ss.drop o).take m) i) = cutZ ver sz ch h t ((ss.drop o).take m) i - cutA ver sz ch h t ((ss.drop o).take m) i := by
    unfold cutZ cutA
    rw [if_pos hi, if_pos hi]
    exact wrap_i64 (by omega) (by omega)
  by_cases h2 : (s.size : Int) = cutZ ver sz ch h t ((ss.drop o).take m) i - cutA ver sz ch h t ((ss.drop o).take m) i
  · have b2 := decide_eq_true h2
    rw [if_neg (by omega)]
    have hsb : s.size ≤ 8192 := by
      unfold cutZ cutA at h2
      rw [if_pos hi, if_pos hi] at h2
      omega
    obtain ⟨j, rfl⟩ : ∃ j : Nat, i = j := ⟨i.toNat, by omega⟩
    have hgD : ss.getD (o + j) ByteArray.empty = ((ss.drop o).take m).getD j ByteArray.empty := by
      rw [List.getD_eq_getElem?_getD, List.getD_eq_getElem?_getD, List.getElem?_take, if_pos (by omega), List.getElem?_drop]
    have hj : j < m := by omega
    have hjo : o + j < ss.length := by omega
    rw [Int.toNat_natCast, ← hgD]
    simp -implicitDefEqProofs only [go_sem, ↓reduceIte, Nat.reduceEqDiff, Nat.reduceAdd, Nat.reduceMul, Nat.reduceLT, Nat.reduceLeDiff, Nat.reduceSub, Int.reduceToNat, Int.reduceLE, Int.reduceLT, reduceCtorEq, Int.reduceEq, Int.reduceGT, Int.reduceGE, Int.reduceNeg, b0, b1, w1, b2]
    refine ⟨by omega, by omega, ?_⟩
    refine at_call trefLeaf (rleafS (by omega)) ?_
    by_cases h3 : lf s = ss.getD (o + j) ByteArray.empty
    · have b3 : seq (lf s) (ss.getD (o + j) ByteArray.empty) = true := by rw [h3]; exact seq_self _
      rw [if_neg (by simp [h3])]
      simp -implicitDefEqProofs only [go_sem, ↓reduceIte, Nat.reduceEqDiff, Nat.reduceAdd, Nat.reduceMul, Nat.reduceLT, Nat.reduceLeDiff, Nat.reduceSub, Int.reduceToNat, Int.reduceLE, Int.reduceLT, reduceCtorEq, Int.reduceEq, Int.reduceGT, Int.reduceGE, Int.reduceNeg, b3]
      exact sub_val rfl (by decide) (by decide) rfl
    · have b3 := seq_ne h3
      rw [if_pos h3]
      simp -implicitDefEqProofs only [go_sem, ↓reduceIte, Nat.reduceEqDiff, Nat.reduceAdd, Nat.reduceMul, Nat.reduceLT, Nat.reduceLeDiff, Nat.reduceSub, Int.reduceToNat, Int.reduceLE, Int.reduceLT, reduceCtorEq, Int.reduceEq, Int.reduceGT, Int.reduceGE, Int.reduceNeg, b3]
      exact sub_val rfl (by decide) (by decide) rfl
  · have b2 := decide_eq_false h2
    rw [if_pos h2]
    simp -implicitDefEqProofs only [go_sem, ↓reduceIte, Nat.reduceEqDiff, Nat.reduceAdd, Nat.reduceMul, Nat.reduceLT, Nat.reduceLeDiff, Nat.reduceSub, Int.reduceToNat, Int.reduceLE, Int.reduceLT, reduceCtorEq, Int.reduceEq, Int.reduceGT, Int.reduceGE, Int.reduceNeg, b0, b1, w1, b2]
    exact sub_val rfl (by decide) (by decide) rfl
theorem rfitsS {ver sz ch j : Int} {h t s : ByteArray} {i o m : Nat} {ss : List ByteArray} (hr : rowAt H i (.strs []) = some (.strs ss)) (hom : o + m ≤ ss.length) (hm : m ≤ 1048576) (hz : szB ((ss.drop o).take m)) :
    SpecAt Try.prog nrBFits [blA ver sz ch h t i o m, .v (.int .i64 j), .v (.string s)] H n (.v (.int .i64 (fitE ver sz ch h t ((ss.drop o).take m) j s))) H n :=
  lift_bl (post := [.int .i64 j, .string s]) hr rfl (okT.spec trBFits (rfitsW hom hm hz))
theorem rwholeW {ver sz ch : Int} {h t s : ByteArray} {o m : Nat} {ss : List ByteArray} (hom : o + m ≤ ss.length) (hm : m ≤ 1048576) (hz : szB ((ss.drop o).take m)) :
    fnVC CT mrBWhole [blA ver sz ch h t 1 o m, .v (.string s)] ⟨[(1, some ⟨false, .strs ss⟩)], x⟩ 2 fun v H' n' => Sub 2 ⟨[(0, .v (.int .i64 (wholeE ver sz ch h t ((ss.drop o).take m) s)))], ⟨[], x⟩, 2⟩ ⟨[(0, v)], H', n'⟩ := by
  unfold mrBWhole
  simp -implicitDefEqProofs only [↓fnVC, initTm]
  simp -implicitDefEqProofs only [go_sem, ↓reduceIte, Nat.reduceEqDiff, Nat.reduceAdd, Nat.reduceMul, Nat.reduceLT, Nat.reduceLeDiff, Nat.reduceSub, Int.reduceToNat, Int.reduceLE, Int.reduceLT, reduceCtorEq, Int.reduceEq, Int.reduceGT, Int.reduceGE, Int.reduceNeg, blA]
  refine at_call trBCheck (rcheckS (i := 1) (by rfl) hom hm hz) ?_
  unfold ckE wholeE
  by_cases hp : ckP ver sz ch h t ((ss.drop o).take m)
  · rw [if_pos hp, if_neg (by simp [hp])]
    have hb := hp.bounds
    by_cases h2 : (s.size : Int) = sz
    · have b2 := decide_eq_true h2
      rw [if_neg (by omega)]
      simp -implicitDefEqProofs only [go_sem, ↓reduceIte, Nat.reduceEqDiff, Nat.reduceAdd, Nat.reduceMul, Nat.reduceLT, Nat.reduceLeDiff, Nat.reduceSub, Int.reduceToNat, Int.reduceLE, Int.reduceLT, reduceCtorEq, Int.reduceEq, Int.reduceGT, Int.reduceGE, Int.reduceNeg, b2]
      refine at_call t11 (rsum1S (s := s) (by rfl) (by omega)) ?_
      by_cases h3 : sha (bts s) = h
      · have b3 : seq (sha (bts s)) h = true := by rw [h3]; exact seq_self _
        rw [if_neg (by simp [h3])]
        simp -implicitDefEqProofs only [go_sem, ↓reduceIte, Nat.reduceEqDiff, Nat.reduceAdd, Nat.reduceMul, Nat.reduceLT, Nat.reduceLeDiff, Nat.reduceSub, Int.reduceToNat, Int.reduceLE, Int.reduceLT, reduceCtorEq, Int.reduceEq, Int.reduceGT, Int.reduceGE, Int.reduceNeg, b3]
        exact sub_val rfl (by decide) (by decide) rfl
      · have b3 := seq_ne h3
        rw [if_pos h3]
        simp -implicitDefEqProofs only [go_sem, ↓reduceIte, Nat.reduceEqDiff, Nat.reduceAdd, Nat.reduceMul, Nat.reduceLT, Nat.reduceLeDiff, Nat.reduceSub, Int.reduceToNat, Int.reduceLE, Int.reduceLT, reduceCtorEq, Int.reduceEq, Int.reduceGT, Int.reduceGE, Int.reduceNeg, b3]
        exact sub_val rfl (by decide) (by decide) rfl
    · have b2 := decide_eq_false h2
      rw [if_pos h2]
      simp -implicitDefEqProofs only [go_sem, ↓reduceIte, Nat.reduceEqDiff, Nat.reduceAdd, Nat.reduceMul, Nat.reduceLT, Nat.reduceLeDiff, Nat.reduceSub, Int.reduceToNat, Int.reduceLE, Int.reduceLT, reduceCtorEq, Int.reduceEq, Int.reduceGT, Int.reduceGE, Int.reduceNeg, b2]
      exact sub_val rfl (by decide) (by decide) rfl
  · rw [if_neg hp, if_pos hp]
    simp -implicitDefEqProofs only [go_sem, ↓reduceIte, Nat.reduceEqDiff, Nat.reduceAdd, Nat.reduceMul, Nat.reduceLT, Nat.reduceLeDiff, Nat.reduceSub, Int.reduceToNat, Int.reduceLE, Int.reduceLT, reduceCtorEq, Int.reduceEq, Int.reduceGT, Int.reduceGE, Int.reduceNeg]
    exact sub_val rfl (by decide) (by decide) rfl
theorem rwholeS {ver sz ch : Int} {h t s : ByteArray} {i o m : Nat} {ss : List ByteArray} (hr : rowAt H i (.strs []) = some (.strs ss)) (hom : o + m ≤ ss.length) (hm : m ≤ 1048576) (hz : szB ((ss.drop o).take m)) :
    SpecAt Try.prog nrBWhole [blA ver sz ch h t i o m, .v (.string s)] H n (.v (.int .i64 (wholeE ver sz ch h t ((ss.drop o).take m) s))) H n :=
  lift_bl (post := [.string s]) hr rfl (okT.spec trBWhole (rwholeW hom hm hz))
end Go.Sx
