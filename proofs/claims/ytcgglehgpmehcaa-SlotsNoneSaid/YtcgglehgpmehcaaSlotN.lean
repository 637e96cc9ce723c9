/- Slots: what can't be a pair isn't one. -/
import Derived.Test.YtcgglehgpmehcaaSlotB

set_option linter.unusedVariables false
set_option linter.unusedSimpArgs false
set_option maxRecDepth 100000
namespace Go.Sx
attribute [local go_sem ↓] bind_mk intsB_mk strsB_mk svB_mk fnVC ob_some vc_skip vc_exit vc_ret vc_seq vc_block kSeq_normal kSeq_exit kSeq_ret kBlock_normal kBlock_exit kBlock_ret vc_reg vc_regD vc_cond condK_true condK_false vc_loop kLoop_exit kLoop_ret kRoll_normal kRoll_exit kRoll_ret vcOps_nil vcOps_cons gd_bool gd_undef put_some put_none vcT_fin vcT_pure vcT_act vcT_acts vcT_stop stab_none stab_some stabM_nil stabM_cons stabO_ld stabO_ldn stabO_slP stabO_b2s fldOf_ai fldOf_agg fldOf_ait fldOf_aggt intsOf_nil intsOf_cons strsOf_nil strsOf_cons c_omap ob_if lk_nil lk_cons ev_t ev_k z_mov z_pick z_bin z_binB z_binP z_un z_r2s z_conv z_s2b z_b2s z_allocT aggOf_mk z_boxT z_alloc z_bld z_bldI z_rowI z_rowS z_ld z_ldn z_st z_stn asN_ptr asN_fn z_nilck z_fld z_fadr z_idxA z_idxP z_idxS z_idxV z_slS z_slL z_slP z_mk z_lenS z_lenL z_app appC_ints appC_pl appC_sv appC_strs isS_strs loose_ints loose_pl loose_sv z_slM z_callv callvK_fn callvK_f callvK_yl vc_rangeF rfEnd_eq rfGo_none rfGo_ret rfGo_exit yGo_mk yEnd_n yEnd_r yEnd_e yRdy_mk yMid_n putPs_nil putPs_cons leaf_v leaf_ptr leaf_sl leaf_yl leaf_mp z_appS z_appST z_appZ z_cpyS z_mkfn reps_int reps_str z_rowV z_slnil nilK_zero z_cpy z_call asT_tup z_extT z_box boxOf_ai boxOf_agg boxOf_int boxOf_str boxOf_bool boxOf_ptr boxOf_sl sbin_int sbin_str sbinB_mk sbinP_nn sbinP_pn sbinP_np i_add i_sub i_mul i_quo i_rem i_and i_or i_xor i_andNot i_shl i_shr i_eql i_neq i_lss i_leq i_gtr i_geq st_add st_eql st_neq st_lss st_leq st_gtr st_geq bo_eql bo_neq pt_eql pt_neq un_neg un_xor un_not asI_mk asB_mk asS_mk asP_mk asSl_mk asBy_mk bnd_none bnd_some get_mk hput_mk hdel_mk kill_eq wrOf_eq rowOf_eq rsvs_0 rsvs_1 rsvs_2 rsvs_3 rsv_t rsv_c1 rsv_cn nt_v nt_ptr nt_sl nt_agg nt_ai get_ints get_strs get_pl get_sv getN_ints getN_sv set_ints set_strs set_sv setN_ints setN_sv part_ints part_strs part_sv cat_ints cat_strs cat_sv over_ints over_strs over_sv ones_ints ones_strs evs_nil evs_cons condK_eqt condK_eqf det_callP V_ns V_nn V_gs V_gn obC_mk fresh_ev freshT_ev freshR_ev setN_plagg setN_intsv setN_svai setN_svagg over_intsv set_pl setN_pl setN_plai getN_pl getN_strs part_pl cat_pl over_pl over_plints z_mm
attribute [local go_sem] initTm ne_eq not_true_eq_false not_false_eq_true true_and and_true List.length_cons List.length_nil Int.toNat_natCast Nat.add_zero Nat.zero_add Nat.mul_one List.getElem?_cons_zero List.drop_zero List.take_length List.take_succ_cons List.take_zero List.take_nil List.drop_succ_cons Option.map_some Nat.le_refl implies_true List.getElem?_cons_succ decide_true decide_false Bool.not_true Bool.not_false beq_self_eq_true Nat.succ_ne_self Nat.one_ne_zero Nat.zero_ne_one vk_mk hk_mk nk_mk tok_eq plsOf_map intsOf_map bodyOf_pl bodyOf_ints bodyOf_strs bodyOf_sv part_aggv part_agg part_ai part_int part_str part_bool part_sl part_ptr part_nil numsOf_map u_int u_str u_bool u_pnil u_sl u_ptr u_oci u_ocs evq_nil evq_cons fillS_nil fillS_cons u_ocb ones_pl cells_sv cells_ints cells_strs cells_pl smms_nil smms_cons smm_min smm_max plsOf_nil List.nil_append List.all_cons List.all_nil Bool.and_self Bool.true_and Bool.and_true zws_len zw_len zi_len List.set_cons_zero List.set_cons_succ List.flatMap_cons List.flatMap_nil List.append_nil
open Go.Proofs
variable {H : Hp} {n : Nat} {x : Nat → Option SO} {d d' : Fd} {i a b c : Nat} {u1 u2 u3 : Bool}

theorem seq_nil : seq ⟨#[]⟩ ⟨#[]⟩ = true := seq_self _
def fall1 : Fd := { newD 20 with fa := max 1 0 }
theorem fall1_pl : Pl fall1 20 1 := (Pl.new (by decide)).fall (by decide)
theorem wNone {bs r slot : Int} (h64 : bs < 9223372036854775808 ∧ -9223372036854775808 ≤ bs ∧ r < 9223372036854775808 ∧ -9223372036854775808 ≤ r) :
    fnVC CT mSlotsNone [.v (.int .i64 bs), .v (.int .i64 r), .v (.int .i64 slot)] ⟨[], x⟩ 1 fun v H' n' => Sub 1 ⟨[(0, .v (.bool true))], ⟨[], x⟩, 1⟩ ⟨[(0, v)], H', n'⟩ := by
  unfold mSlotsNone
  simp -implicitDefEqProofs only [↓fnVC, initTm]
  simp -implicitDefEqProofs only [go_sem, ↓reduceIte, Nat.reduceEqDiff, Nat.reduceAdd, Nat.reduceMul, Nat.reduceLT, Nat.reduceLeDiff, Nat.reduceSub, Int.reduceToNat, Int.reduceLE, Int.reduceLT, reduceCtorEq, Int.reduceEq, Int.reduceGT, Int.reduceGE, Int.reduceNeg]
  refine at_call tkeeps22 (keepsS (by decide)) ?_
  simp -implicitDefEqProofs only [go_sem, ↓reduceIte, Nat.reduceEqDiff, Nat.reduceAdd, Nat.reduceMul, Nat.reduceLT, Nat.reduceLeDiff, Nat.reduceSub, Int.reduceToNat, Int.reduceLE, Int.reduceLT, reduceCtorEq, Int.reduceEq, Int.reduceGT, Int.reduceGE, Int.reduceNeg]
  refine at_call tFNew (nwD (k := 20) (by decide) (by decide) (by decide)) ?_
  unfold devL
  simp -implicitDefEqProofs only [go_sem, ↓reduceIte, Nat.reduceEqDiff, Nat.reduceAdd, Nat.reduceMul, Nat.reduceLT, Nat.reduceLeDiff, Nat.reduceSub, Int.reduceToNat, Int.reduceLE, Int.reduceLT, reduceCtorEq, Int.reduceEq, Int.reduceGT, Int.reduceGE, Int.reduceNeg, List.isEmpty_cons, Bool.false_eq_true, if_false]
  refine at_call trFNew (rnwG (k := 20) (by decide) (by decide) (by decide)) ?_
  unfold refL
  simp -implicitDefEqProofs only [go_sem, ↓reduceIte, Nat.reduceEqDiff, Nat.reduceAdd, Nat.reduceMul, Nat.reduceLT, Nat.reduceLeDiff, Nat.reduceSub, Int.reduceToNat, Int.reduceLE, Int.reduceLT, reduceCtorEq, Int.reduceEq, Int.reduceGT, Int.reduceGE, Int.reduceNeg, List.isEmpty_cons, Bool.false_eq_true, if_false]
  by_cases hP : opP 20 bs r
  · obtain ⟨bs, rfl⟩ : ∃ k : Nat, bs = k := ⟨bs.toNat, by unfold opP at hP; omega⟩
    obtain ⟨r, rfl⟩ : ∃ k : Nat, r = k := ⟨r.toNat, by unfold opP at hP; omega⟩
    refine at_call tSOpen (openS (i := 1) (a := 2) (b := 3) (c := 4) (d := newD 20) (bs := bs) (r := r) ⟨by rfl, by rfl, by rfl, by rfl, by decide⟩ (by decide) hP rfl (by decide)) ?_
    unfold devL
    simp -implicitDefEqProofs only [go_sem, ↓reduceIte, Nat.reduceEqDiff, Nat.reduceAdd, Nat.reduceMul, Nat.reduceLT, Nat.reduceLeDiff, Nat.reduceSub, Int.reduceToNat, Int.reduceLE, Int.reduceLT, reduceCtorEq, Int.reduceEq, Int.reduceGT, Int.reduceGE, Int.reduceNeg, List.isEmpty_cons, Bool.false_eq_true, if_false]
    refine at_call trSOpen (ropenS (i := 5) (a := 6) (b := 7) (d := newD 20) (bs := bs) (r := r) ⟨by rfl, by rfl, by rfl, by decide⟩ (by decide) hP rfl (by decide)) ?_
    unfold refL
    simp -implicitDefEqProofs only [go_sem, ↓reduceIte, Nat.reduceEqDiff, Nat.reduceAdd, Nat.reduceMul, Nat.reduceLT, Nat.reduceLeDiff, Nat.reduceSub, Int.reduceToNat, Int.reduceLE, Int.reduceLT, reduceCtorEq, Int.reduceEq, Int.reduceGT, Int.reduceGE, Int.reduceNeg, List.isEmpty_cons, Bool.false_eq_true, if_false]
    refine at_call tSOpen openNil ?_
    simp -implicitDefEqProofs only [go_sem, ↓reduceIte, Nat.reduceEqDiff, Nat.reduceAdd, Nat.reduceMul, Nat.reduceLT, Nat.reduceLeDiff, Nat.reduceSub, Int.reduceToNat, Int.reduceLE, Int.reduceLT, reduceCtorEq, Int.reduceEq, Int.reduceGT, Int.reduceGE, Int.reduceNeg, List.isEmpty_cons, Bool.false_eq_true, if_false]
    refine at_call tFFall (faG (i := 1) (a := 2) (b := 3) (c := 4) (d := newD 20) (k := 1) ⟨by rfl, by rfl, by rfl, by rfl, by decide⟩ rfl) ?_
    simp -implicitDefEqProofs only [go_sem, ↓reduceIte, Nat.reduceEqDiff, Nat.reduceAdd, Nat.reduceMul, Nat.reduceLT, Nat.reduceLeDiff, Nat.reduceSub, Int.reduceToNat, Int.reduceLE, Int.reduceLT, reduceCtorEq, Int.reduceEq, Int.reduceGT, Int.reduceGE, Int.reduceNeg, List.isEmpty_cons, Bool.false_eq_true, if_false]
    refine at_call tFBarrier (baTS (i := 1) (a := 2) (b := 3) (c := 4) (d := fall1) (m := 20) (t := 1) ⟨by rfl, by rfl, by rfl, by rfl, by decide⟩ fall1_pl (by decide) (by decide) (e := 7) (d' := stepD fall1) rfl) ?_
    simp -implicitDefEqProofs only [go_sem, ↓reduceIte, Nat.reduceEqDiff, Nat.reduceAdd, Nat.reduceMul, Nat.reduceLT, Nat.reduceLeDiff, Nat.reduceSub, Int.reduceToNat, Int.reduceLE, Int.reduceLT, reduceCtorEq, Int.reduceEq, Int.reduceGT, Int.reduceGE, Int.reduceNeg, List.isEmpty_cons, Bool.false_eq_true, if_false]
    refine at_call tSOpen (openOff (i := 1) (a := 10) (b := 11) (c := 12) (d := stepD fall1) (bs := 0) (r := 9) (by rfl) (by decide) (by decide) rfl) ?_
    simp -implicitDefEqProofs only [go_sem, ↓reduceIte, Nat.reduceEqDiff, Nat.reduceAdd, Nat.reduceMul, Nat.reduceLT, Nat.reduceLeDiff, Nat.reduceSub, Int.reduceToNat, Int.reduceLE, Int.reduceLT, reduceCtorEq, Int.reduceEq, Int.reduceGT, Int.reduceGE, Int.reduceNeg, List.isEmpty_cons, Bool.false_eq_true, if_false]
    refine at_call tSRead sreadNil ?_
    unfold rV
    have e0 : ((0 : Nat) : Int) = 0 := rfl
    simp -implicitDefEqProofs only [go_sem, ↓reduceIte, Nat.reduceEqDiff, Nat.reduceAdd, Nat.reduceMul, Nat.reduceLT, Nat.reduceLeDiff, Nat.reduceSub, Int.reduceToNat, Int.reduceLE, Int.reduceLT, reduceCtorEq, Int.reduceEq, Int.reduceGT, Int.reduceGE, Int.reduceNeg, e0, seq_nil, List.isEmpty_cons, Bool.false_eq_true, if_false]
    refine at_call tSWrite swriteNil ?_
    simp -implicitDefEqProofs only [go_sem, ↓reduceIte, Nat.reduceEqDiff, Nat.reduceAdd, Nat.reduceMul, Nat.reduceLT, Nat.reduceLeDiff, Nat.reduceSub, Int.reduceToNat, Int.reduceLE, Int.reduceLT, reduceCtorEq, Int.reduceEq, Int.reduceGT, Int.reduceGE, Int.reduceNeg, List.isEmpty_cons, Bool.false_eq_true, if_false]
    exact sub_val rfl (by decide) (by decide) rfl
  · refine at_call tSOpen (openNo (i := 1) (a := 2) (b := 3) (c := 4) (d := newD 20) (bs := bs) (r := r) (w := true) (by rfl) (by decide) hP h64) ?_
    simp -implicitDefEqProofs only [go_sem, ↓reduceIte, Nat.reduceEqDiff, Nat.reduceAdd, Nat.reduceMul, Nat.reduceLT, Nat.reduceLeDiff, Nat.reduceSub, Int.reduceToNat, Int.reduceLE, Int.reduceLT, reduceCtorEq, Int.reduceEq, Int.reduceGT, Int.reduceGE, Int.reduceNeg, List.isEmpty_cons, Bool.false_eq_true, if_false]
    refine at_call trSOpen (ropenNo (i := 5) (a := 6) (b := 7) (d := newD 20) (bs := bs) (r := r) (u1 := true) (u2 := true) (u3 := true) ⟨by rfl, by rfl, by rfl, by decide⟩ (by decide) hP h64) ?_
    simp -implicitDefEqProofs only [go_sem, ↓reduceIte, Nat.reduceEqDiff, Nat.reduceAdd, Nat.reduceMul, Nat.reduceLT, Nat.reduceLeDiff, Nat.reduceSub, Int.reduceToNat, Int.reduceLE, Int.reduceLT, reduceCtorEq, Int.reduceEq, Int.reduceGT, Int.reduceGE, Int.reduceNeg, List.isEmpty_cons, Bool.false_eq_true, if_false]
    refine at_call tSOpen openNil ?_
    simp -implicitDefEqProofs only [go_sem, ↓reduceIte, Nat.reduceEqDiff, Nat.reduceAdd, Nat.reduceMul, Nat.reduceLT, Nat.reduceLeDiff, Nat.reduceSub, Int.reduceToNat, Int.reduceLE, Int.reduceLT, reduceCtorEq, Int.reduceEq, Int.reduceGT, Int.reduceGE, Int.reduceNeg, List.isEmpty_cons, Bool.false_eq_true, if_false]
    refine at_call tFFall (faG (i := 1) (a := 2) (b := 3) (c := 4) (d := newD 20) (k := 1) ⟨by rfl, by rfl, by rfl, by rfl, by decide⟩ rfl) ?_
    simp -implicitDefEqProofs only [go_sem, ↓reduceIte, Nat.reduceEqDiff, Nat.reduceAdd, Nat.reduceMul, Nat.reduceLT, Nat.reduceLeDiff, Nat.reduceSub, Int.reduceToNat, Int.reduceLE, Int.reduceLT, reduceCtorEq, Int.reduceEq, Int.reduceGT, Int.reduceGE, Int.reduceNeg, List.isEmpty_cons, Bool.false_eq_true, if_false]
    refine at_call tFBarrier (baTS (i := 1) (a := 2) (b := 3) (c := 4) (d := fall1) (m := 20) (t := 1) ⟨by rfl, by rfl, by rfl, by rfl, by decide⟩ fall1_pl (by decide) (by decide) (e := 7) (d' := stepD fall1) rfl) ?_
    simp -implicitDefEqProofs only [go_sem, ↓reduceIte, Nat.reduceEqDiff, Nat.reduceAdd, Nat.reduceMul, Nat.reduceLT, Nat.reduceLeDiff, Nat.reduceSub, Int.reduceToNat, Int.reduceLE, Int.reduceLT, reduceCtorEq, Int.reduceEq, Int.reduceGT, Int.reduceGE, Int.reduceNeg, List.isEmpty_cons, Bool.false_eq_true, if_false]
    refine at_call tSOpen (openOff (i := 1) (a := 8) (b := 9) (c := 10) (d := stepD fall1) (bs := 0) (r := 9) (by rfl) (by decide) (by decide) rfl) ?_
    simp -implicitDefEqProofs only [go_sem, ↓reduceIte, Nat.reduceEqDiff, Nat.reduceAdd, Nat.reduceMul, Nat.reduceLT, Nat.reduceLeDiff, Nat.reduceSub, Int.reduceToNat, Int.reduceLE, Int.reduceLT, reduceCtorEq, Int.reduceEq, Int.reduceGT, Int.reduceGE, Int.reduceNeg, List.isEmpty_cons, Bool.false_eq_true, if_false]
    refine at_call tSRead sreadNil ?_
    unfold rV
    have e0 : ((0 : Nat) : Int) = 0 := rfl
    simp -implicitDefEqProofs only [go_sem, ↓reduceIte, Nat.reduceEqDiff, Nat.reduceAdd, Nat.reduceMul, Nat.reduceLT, Nat.reduceLeDiff, Nat.reduceSub, Int.reduceToNat, Int.reduceLE, Int.reduceLT, reduceCtorEq, Int.reduceEq, Int.reduceGT, Int.reduceGE, Int.reduceNeg, e0, seq_nil, List.isEmpty_cons, Bool.false_eq_true, if_false]
    refine at_call tSWrite swriteNil ?_
    simp -implicitDefEqProofs only [go_sem, ↓reduceIte, Nat.reduceEqDiff, Nat.reduceAdd, Nat.reduceMul, Nat.reduceLT, Nat.reduceLeDiff, Nat.reduceSub, Int.reduceToNat, Int.reduceLE, Int.reduceLT, reduceCtorEq, Int.reduceEq, Int.reduceGT, Int.reduceGE, Int.reduceNeg, List.isEmpty_cons, Bool.false_eq_true, if_false]
    exact sub_val rfl (by decide) (by decide) rfl
theorem sNone {bs r slot : Int} (h64 : bs < 9223372036854775808 ∧ -9223372036854775808 ≤ bs ∧ r < 9223372036854775808 ∧ -9223372036854775808 ≤ r) :
    SpecAt Try.prog nSlotsNone [.v (.int .i64 bs), .v (.int .i64 r), .v (.int .i64 slot)] ⟨[], x⟩ 1 (.v (.bool true)) ⟨[], x⟩ 1 := okT.spec tSlotsNone (wNone h64)
end Go.Sx
