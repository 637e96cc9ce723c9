/- Trees, at this program. -/
import Derived.Test.YtpdbchccmgdldaaTree

set_option linter.unusedVariables false
set_option linter.unusedSimpArgs false
set_option maxRecDepth 100000
namespace Go.Sx
attribute [local go_sem ↓] bind_mk intsB_mk strsB_mk svB_mk fnVC ob_some vc_skip vc_exit vc_ret vc_seq vc_block kSeq_normal kSeq_exit kSeq_ret kBlock_normal kBlock_exit kBlock_ret vc_reg vc_regD vc_cond condK_true condK_false vc_loop kLoop_exit kLoop_ret kRoll_normal kRoll_exit kRoll_ret vcOps_nil vcOps_cons gd_bool gd_undef put_some put_none vcT_fin vcT_pure vcT_act vcT_acts vcT_stop stab_none stab_some stabM_nil stabM_cons stabO_ld stabO_ldn stabO_slP stabO_b2s fldOf_ai fldOf_agg fldOf_ait fldOf_aggt intsOf_nil intsOf_cons strsOf_nil strsOf_cons c_omap ob_if lk_nil lk_cons ev_t ev_k z_mov z_pick z_bin z_binB z_binP z_un z_r2s z_conv z_s2b z_b2s z_alloc z_bld z_bldI z_rowI z_rowS z_ld z_ldn z_st z_stn asN_ptr asN_fn z_nilck z_fld z_fadr z_idxA z_idxP z_idxS z_idxV z_slS z_slL z_slP z_mk z_lenS z_lenL z_app appC_ints appC_pl appC_sv appC_strs isS_strs loose_ints loose_pl loose_sv z_slM z_callv callvK_fn callvK_f callvK_yl vc_rangeF rfEnd_eq rfGo_none rfGo_ret rfGo_exit yGo_mk yEnd_n yEnd_r yEnd_e yRdy_mk yMid_n putPs_nil putPs_cons leaf_v leaf_ptr leaf_sl leaf_yl leaf_mp z_appS z_appZ z_cpyS z_mkfn reps_int reps_str z_rowV z_slnil nilK_zero z_cpy z_call asT_tup z_extT z_box boxOf_ai boxOf_agg boxOf_int boxOf_str boxOf_bool boxOf_ptr boxOf_sl sbin_int sbin_str sbinB_mk sbinP_nn sbinP_pn sbinP_np i_add i_sub i_mul i_quo i_rem i_and i_or i_xor i_andNot i_shl i_shr i_eql i_neq i_lss i_leq i_gtr i_geq st_add st_eql st_neq st_lss st_leq st_gtr st_geq bo_eql bo_neq pt_eql pt_neq un_neg un_xor un_not asI_mk asB_mk asS_mk asP_mk asSl_mk asBy_mk bnd_none bnd_some get_mk hput_mk hdel_mk kill_eq wrOf_eq rowOf_eq rsvs_0 rsvs_1 rsvs_2 rsvs_3 rsv_t rsv_c1 rsv_cn nt_v nt_ptr nt_sl nt_agg nt_ai get_ints get_strs get_pl get_sv getN_ints getN_sv set_ints set_strs set_sv setN_ints setN_sv part_ints part_strs part_sv cat_ints cat_strs cat_sv over_ints over_strs over_sv ones_ints ones_strs evs_nil evs_cons condK_eqt condK_eqf det_callP V_ns V_nn V_gs V_gn obC_mk fresh_ev setN_plagg setN_intsv setN_svai setN_svagg over_intsv set_pl setN_pl setN_plai getN_pl getN_strs part_pl cat_pl over_pl over_plints z_mm
attribute [local go_sem] initTm ne_eq not_true_eq_false not_false_eq_true true_and and_true List.length_cons List.length_nil Int.toNat_natCast Nat.add_zero Nat.zero_add Nat.mul_one List.getElem?_cons_zero List.drop_zero List.take_length List.take_succ_cons List.take_zero List.take_nil List.drop_succ_cons Option.map_some Nat.le_refl implies_true List.getElem?_cons_succ decide_true decide_false Bool.not_true Bool.not_false beq_self_eq_true Nat.succ_ne_self Nat.one_ne_zero Nat.zero_ne_one vk_mk hk_mk nk_mk tok_eq plsOf_map intsOf_map bodyOf_pl bodyOf_ints bodyOf_strs bodyOf_sv part_aggv part_agg part_ai part_int part_str part_bool part_sl part_ptr part_nil numsOf_map u_int u_str u_bool u_pnil u_sl u_ptr u_oci u_ocs evq_nil evq_cons fillS_nil fillS_cons u_ocb ones_pl cells_sv cells_ints cells_strs cells_pl smms_nil smms_cons smm_min smm_max plsOf_nil List.nil_append List.all_cons List.all_nil Bool.and_self Bool.true_and Bool.and_true zws_len zw_len zi_len List.set_cons_zero List.set_cons_succ List.flatMap_cons List.flatMap_nil List.append_nil
open Go.Proofs
/-! Trees: a place's proof is held against a root. -/
variable {H : Hp} {n : Nat} {x : Nat → Option SO}

theorem lift_rd {f o m : Nat} {pre post : List Value} {a : Nat} {ss : List ByteArray} {v : SV} (hr : rowAt H a (.strs []) = some (.strs ss))
    (hs : SpecAt Try.prog f (pre.map .v ++ .sl 1 o m 1 :: post.map .v) ⟨[(1, some ⟨false, .strs ss⟩)], H.x⟩ 2 v ⟨[], H.x⟩ 2) :
    SpecAt Try.prog f (pre.map .v ++ .sl a o m 1 :: post.map .v) H n (v.ren [(1, a)]) H n := by
  have := lift (n := n) hs [(1, a)] (by rfl) rfl (by simp [ltT, ltC, ltB, ltA, idOK, Function.comp_def]) (by omega) rfl rfl ⟨rowAt_sub hr rfl ⟨rfl, fun _ h => (by cases h)⟩ rfl, trivial⟩ rfl rfl (by omega)
  have e1 : (pre.map SV.v ++ .sl 1 o m 1 :: post.map SV.v).map (SV.ren [(1, a)]) = pre.map SV.v ++ .sl a o m 1 :: post.map SV.v := by
    simp [SV.ren, SV.renC, SV.renB, SV.renA, rn, lk, Function.comp_def]
  rw [e1] at this
  exact this
theorem sub_ro1 {v : SV} {ss : List ByteArray} (hv : ltT 2 v = true) (hr : v.ren [] = v)  : Sub 2 ⟨[(0, v)], ⟨[], x⟩, 2⟩ ⟨[(0, v)], ⟨[(1, some ⟨false, .strs ss⟩)], x⟩, 2⟩ := by
  refine sub_mk [] rfl rfl (by simp [apartB, wfHp, wfTm, hv]) ?_
  simp only [tmSub, hpSub, objSub, eqTm, eqHp, rn, lk, SV.ren, SV.renC, SV.renB, SV.renA, ren_ints, ren_strs, ren_pl, ren_svs, SV.v.injEq, Value.int.injEq, Body.ints.injEq, SV.ptr.injEq, SV.sl.injEq, Value.string.injEq, Value.bool.injEq, List.map_cons, List.map_nil, forall_const, Nat.reduceLT, Nat.lt_add_one, imp_self, true_and, and_true, and_self, ob_some, get_mk, lk_cons, ↓reduceIte, Nat.reduceEqDiff, ne_eq, not_true_eq_false, not_false_eq_true, Nat.one_ne_zero, Nat.zero_ne_one, Nat.succ_ne_self, Nat.reduceAdd, Bool.false_eq_true, false_implies, implies_true, reduceCtorEq]
  exact hr.symm
/-! Trees: a beginning's proof is held against both roots. -/
variable {H : Hp} {n : Nat} {x : Nat → Option SO}

/-! Trees: a beginning's proof, by the program. -/
variable {H : Hp} {n : Nat} {x : Nat → Option SO}

/-! Trees: the document's examples, leaves, lists that are the same. -/
variable {H : Hp} {n : Nat} {x : Nat → Option SO}

theorem seq_self (s : ByteArray) : seq s s = true := by unfold seq; simp
theorem pw_three : pw 3 = 2 := by decide
theorem root_two {a b : ByteArray} : root [a, b] = nd a b := by
  rw [root_step (l := [a, b]) (Nat.le_refl 2)]
  show nd (root (List.take (pw 2) [a, b])) (root (List.drop (pw 2) [a, b])) = _
  rw [pw_two, List.take_succ_cons, List.take_zero, List.drop_succ_cons, List.drop_zero, root_one, root_one]
theorem root_three {a b c : ByteArray} : root [a, b, c] = nd (nd a b) c := by
  rw [root_step (l := [a, b, c]) (by show 2 ≤ 3; decide)]
  show nd (root (List.take (pw 3) [a, b, c])) (root (List.drop (pw 3) [a, b, c])) = _
  rw [pw_three, List.take_succ_cons, List.take_succ_cons, List.take_zero, List.drop_succ_cons, List.drop_succ_cons, List.drop_zero, root_two, root_one]
theorem lf_size {s : ByteArray} : (lf s).size = 32 := sha_size _
theorem szB_three {a b c : ByteArray} (ha : a.size = 32) (hb : b.size = 32) (hc : c.size = 32) : szB [a, b, c] := by
  intro s hs
  simp only [List.mem_cons, List.not_mem_nil, or_false] at hs
  rcases hs with rfl | rfl | rfl <;> omega
theorem enc_low {i : Nat} (h : i < 79) : Utf8.encode ((48 + i : Nat) : Int) = ⟨#[UInt8.ofNat (48 + i)]⟩ := by
  have hv : Utf8.valid ((48 + i : Nat) : Int) = true := by
    unfold Utf8.valid
    simp only [Bool.or_eq_true, Bool.and_eq_true, decide_eq_true_eq]
    exact .inl ⟨by omega, by omega⟩
  unfold Utf8.encode
  simp only [hv, if_true, Int.toNat_natCast]
  rw [if_pos (by omega)]
/-- Two lists that are the same. -/
theorem sameW {o o' l : Nat} {ss tt : List ByteArray} (h1 : o + l ≤ ss.length) (h2 : o' + l ≤ tt.length) (he : ∀ i, i < l → ss.getD (o + i) .empty = tt.getD (o' + i) .empty) (hl : l ≤ 1048576) :
    fnVC CT mSameTexts [.sl 1 o l 1, .sl 2 o' l 1] ⟨[(1, some ⟨false, .strs ss⟩), (2, some ⟨false, .strs tt⟩)], x⟩ 3 fun v H' n' => Sub 3 ⟨[(0, .v (.bool true))], ⟨[], x⟩, 3⟩ ⟨[(0, v)], H', n'⟩ := by
  unfold mSameTexts
  have g0 : decide ((l : Int) = (l : Int)) = true := decide_eq_true rfl
  simp -implicitDefEqProofs only [↓fnVC, initTm]
  simp -implicitDefEqProofs only [go_sem, ↓reduceIte, Nat.reduceEqDiff, Nat.reduceAdd, Nat.reduceMul, Nat.reduceLT, Nat.reduceLeDiff, Nat.reduceSub, Int.reduceToNat, Int.reduceLE, Int.reduceLT, reduceCtorEq, Int.reduceEq, Int.reduceGT, Int.reduceGE, Int.reduceNeg, g0]
  refine loop_fam (fun (i : Nat) => i ≤ l) (fun i => ⟨[(0, .sl 1 o l 1), (1, .sl 2 o' l 1), (5, .v (.int .i64 i))], ⟨[(1, some ⟨false, .strs ss⟩), (2, some ⟨false, .strs tt⟩)], x⟩, 3⟩) (fun i => l - i) 0 (Nat.zero_le _) ?_ ?_
  · refine sub_mk [] rfl rfl rfl ?_
    simp only [tmSub, hpSub, objSub, eqTm, eqHp, rn, lk, SV.ren, SV.renC, SV.renB, SV.renA, ren_ints, ren_strs, ren_pl, ren_svs, SV.v.injEq, Value.int.injEq, Body.ints.injEq, SV.ptr.injEq, SV.sl.injEq, Value.string.injEq, Value.bool.injEq, List.map_cons, List.map_nil, forall_const, Nat.reduceLT, Nat.lt_add_one, imp_self, true_and, and_true, and_self, ob_some, get_mk, lk_cons, ↓reduceIte, Nat.reduceEqDiff, ne_eq, not_true_eq_false, not_false_eq_true, Nat.one_ne_zero, Nat.zero_ne_one, Nat.succ_ne_self, Nat.reduceAdd, Bool.false_eq_true, false_implies, implies_true, reduceCtorEq]
    rfl
  · intro i hi
    simp -implicitDefEqProofs only [go_sem, ↓reduceIte, Nat.reduceEqDiff, Nat.reduceAdd, Nat.reduceMul, Nat.reduceLT, Nat.reduceLeDiff, Nat.reduceSub, Int.reduceToNat, Int.reduceLE, Int.reduceLT, reduceCtorEq, Int.reduceEq, Int.reduceGT, Int.reduceGE, Int.reduceNeg]
    refine condK_bb (fun c => ?_) (fun c => ?_)
    · have c1 : i < l := by have := of_decide_eq_true c; omega
      have w3 : IntKind.i64.wrap ((i : Int) + 1) = ((i + 1 : Nat) : Int) := by rw [wrap_i64 (by omega) (by omega)]; omega
      have hei := he i c1
      have hq : seq (ss.getD (o + i) .empty) (tt.getD (o' + i) .empty) = true := by rw [hei]; exact seq_self _
      simp -implicitDefEqProofs only [go_sem, ↓reduceIte, Nat.reduceEqDiff, Nat.reduceAdd, Nat.reduceMul, Nat.reduceLT, Nat.reduceLeDiff, Nat.reduceSub, Int.reduceToNat, Int.reduceLE, Int.reduceLT, reduceCtorEq, Int.reduceEq, Int.reduceGT, Int.reduceGE, Int.reduceNeg, c, hq]
      refine ⟨⟨by omega, by omega⟩, by omega, ⟨by omega, by omega⟩, by omega, ?_⟩
      refine kLoop_mk (i + 1) (by omega) (by omega) ?_
      refine sub_mk [] rfl rfl rfl ?_
      simp only [tmSub, hpSub, objSub, eqTm, eqHp, rn, lk, SV.ren, SV.renC, SV.renB, SV.renA, ren_ints, ren_strs, ren_pl, ren_svs, SV.v.injEq, Value.int.injEq, Body.ints.injEq, SV.ptr.injEq, SV.sl.injEq, Value.string.injEq, Value.bool.injEq, List.map_cons, List.map_nil, forall_const, Nat.reduceLT, Nat.lt_add_one, imp_self, true_and, and_true, and_self, ob_some, get_mk, lk_cons, ↓reduceIte, Nat.reduceEqDiff, ne_eq, not_true_eq_false, not_false_eq_true, Nat.one_ne_zero, Nat.zero_ne_one, Nat.succ_ne_self, Nat.reduceAdd, Bool.false_eq_true, false_implies, implies_true, reduceCtorEq, w3]
    · have c1 : i = l := by have := of_decide_eq_false c; omega
      simp -implicitDefEqProofs only [go_sem, ↓reduceIte, Nat.reduceEqDiff, Nat.reduceAdd, Nat.reduceMul, Nat.reduceLT, Nat.reduceLeDiff, Nat.reduceSub, Int.reduceToNat, Int.reduceLE, Int.reduceLT, reduceCtorEq, Int.reduceEq, Int.reduceGT, Int.reduceGE, Int.reduceNeg, c]
      exact sub_val rfl (by decide) (by decide) rfl
/-! Trees: proofs of a beginning. -/
variable {H : Hp} {n : Nat} {x : Nat → Option SO}

end Go.Sx
