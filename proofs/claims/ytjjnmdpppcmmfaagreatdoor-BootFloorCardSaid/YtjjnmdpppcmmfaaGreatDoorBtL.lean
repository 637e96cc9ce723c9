/- Boot: Install. -/
import Derived.Test.YtjjnmdpppcmmfaaGreatDoorBtK

set_option linter.unusedVariables false
set_option linter.unusedSimpArgs false
set_option maxRecDepth 100000
namespace Go.Sx
attribute [local go_sem ↓] bind_mk intsB_mk strsB_mk svB_mk fnVC ob_some vc_skip vc_exit vc_ret vc_seq vc_block kSeq_normal kSeq_exit kSeq_ret kBlock_normal kBlock_exit kBlock_ret vc_reg vc_regD vc_cond condK_true condK_false vc_loop kLoop_exit kLoop_ret kRoll_normal kRoll_exit kRoll_ret vcOps_nil vcOps_cons gd_bool gd_undef put_some put_none vcT_fin vcT_pure vcT_act vcT_acts vcT_stop stab_none stab_some stabM_nil stabM_cons stabO_ld stabO_ldn stabO_slP stabO_b2s fldOf_ai fldOf_agg fldOf_ait fldOf_aggt intsOf_nil intsOf_cons strsOf_nil strsOf_cons c_omap ob_if lk_nil lk_cons ev_t ev_k z_mov z_pick z_bin z_binA z_binB z_binP z_un z_r2s z_conv z_s2b z_b2s z_mkM z_luM z_upM z_lenM lenMk_mp lenMk_nil plsOf_v z_delM asM_so plV_v plV_agg mpOf_mp mpOf_nil mpUp_mp asM_mp luV_ok luV_v z_allocT aggOf_mk z_boxT z_alloc z_bld z_bldI z_rowI z_rowS z_ld z_ldn z_st z_stn asN_ptr asN_fn z_nilck z_fld z_fadr z_idxA z_idxP z_idxS z_idxV z_slS z_slL z_slP z_mk z_lenS z_lenL z_app appC_ints appC_pl appC_sv appC_strs isS_strs loose_ints loose_pl loose_sv z_slM z_callv callvK_fn callvK_f callvK_yl vc_rangeF rfEnd_eq rfGo_none rfGo_ret rfGo_exit yGo_mk yEnd_n yEnd_r yEnd_e yRdy_mk yMid_n putPs_nil putPs_cons leaf_v leaf_ptr leaf_sl leaf_yl leaf_mp z_appS z_appST z_appZ z_cpyS z_mkfn reps_int reps_str z_rowV z_slnil nilK_zero z_cpy z_call asT_tup z_extT z_box boxOf_ai boxOf_agg boxOf_int boxOf_str boxOf_bool boxOf_ptr boxOf_sl sbin_int sbin_str sbinA_mk ae_nil ae_int ae_str sbinB_mk sbinP_nn sbinP_pn sbinP_np i_add i_sub i_mul i_quo i_rem i_and i_or i_xor i_andNot i_shl i_shr i_eql i_neq i_lss i_leq i_gtr i_geq st_add st_eql st_neq st_lss st_leq st_gtr st_geq bo_eql bo_neq pt_eql pt_neq un_neg un_xor un_not asI_mk asB_mk asS_mk asP_mk asSl_mk asBy_mk bnd_none bnd_some get_mk hput_mk hdel_mk kill_eq wrOf_eq rowOf_eq rsvs_0 rsvs_1 rsvs_2 rsvs_3 rsv_t rsv_c1 rsv_cn nt_v nt_ptr nt_sl nt_agg nt_ai get_ints get_strs get_pl get_sv getN_ints getN_sv set_ints set_strs set_sv setN_ints setN_sv part_ints part_strs part_sv cat_ints cat_strs cat_sv over_ints over_strs over_sv ones_ints ones_strs evs_nil evs_cons condK_eqt condK_eqf det_callP V_ns V_nn V_gs V_gn obC_mk fresh_ev freshT_ev freshR_ev setN_plagg setN_intsv setN_svai setN_svagg over_intsv set_pl setN_pl setN_plai getN_pl getN_strs part_pl cat_pl over_pl over_plints z_mm
attribute [local go_sem] initTm ne_eq not_true_eq_false not_false_eq_true true_and and_true List.length_cons List.length_nil Int.toNat_natCast Nat.add_zero Nat.zero_add Nat.mul_one List.getElem?_cons_zero List.drop_zero List.take_length List.take_succ_cons List.take_zero List.take_nil List.drop_succ_cons Option.map_some Nat.le_refl implies_true List.getElem?_cons_succ decide_true decide_false Bool.not_true Bool.not_false beq_self_eq_true Nat.succ_ne_self Nat.one_ne_zero Nat.zero_ne_one vk_mk hk_mk nk_mk tok_eq plsOf_map intsOf_map bodyOf_pl bodyOf_ints bodyOf_strs bodyOf_sv part_aggv part_agg part_ai part_int part_str part_bool part_sl part_ptr part_nil numsOf_map u_int u_str u_bool u_pnil u_sl u_ptr u_oci u_ocs evq_nil evq_cons fillS_nil fillS_cons u_ocb ones_pl cells_sv cells_ints cells_strs cells_pl smms_nil smms_cons smm_min smm_max plsOf_nil List.nil_append List.all_cons List.all_nil Bool.and_self Bool.true_and Bool.and_true zws_len zw_len zi_len List.set_cons_zero List.set_cons_succ List.flatMap_cons List.flatMap_nil List.append_nil
attribute [local go_sem_proc] Nat.reduceEqDiff Nat.reduceAdd Nat.reduceMul Nat.reduceLT Nat.reduceLeDiff Nat.reduceSub Int.reduceToNat Int.reduceLE Int.reduceLT reduceCtorEq Int.reduceEq Int.reduceGT Int.reduceGE Int.reduceNeg
attribute [local go_sem_proc ↓] reduceIte
section
open Go.Proofs
variable {H : Hp} {n : Nat} {x : Nat → Option SO} {i q s D M W a b c : Nat} {d d' : Fd} {C C' : Ce} {T : Bt}
def itE (k : Sq) (ver : Int) (I : ByteArray) (tries : Int) (r : Nat) : Int :=
  if k.cf < 0 then 5 else if tries < 1 ∨ 8 < tries then 1 else if k.fl = 255 then 8 else if ver ≤ k.fl then 12 else if 255 < ver ∨ seq I ⟨#[]⟩ = true then 1 else if min 8192 ((r : Int) * 64) < I.size then 4 else 0
def tlR (k : Sq) (ver : Int) (I : ByteArray) (tries : Int) (T : Bt) : Int × Bt :=
  let w := wtB (1 - k.cf) ver I T
  if w.1 ≠ 0 then w else kpR ⟨k.cf, 1 - k.cf, tries, k.fl⟩ w.2
def haltT (o : Int) (T : Bt) : Bt := if T.on = true ∧ T.slot = o then stopT T else T
def inR (ver : Int) (I : ByteArray) (tries : Int) (T : Bt) : Int × Bt :=
  if itE (stQ T.C.now) ver I tries T.r ≠ 0 then (itE (stQ T.C.now) ver I tries T.r, T) else
  let T0 := haltT (1 - (stQ T.C.now).cf) T
  if (stQ T.C.now).tr = -1 ∧ (stQ T.C.now).lf = 0 then tlR (stQ T.C.now) ver I tries T0 else
  let z := kpR (sdQ (stQ T.C.now)) T0
  if z.1 ≠ 0 then z else tlR (stQ T.C.now) ver I tries z.2
set_option maxHeartbeats 8000000 in
theorem instW {ver tries : Int} {I : ByteArray} {m t : Nat} (hK : BtK T m t) (ht : t + 1266 < 1000000) (hnum : T.C.num + 1 < 1000000000000) (hx : NoX x) : fnVC CT mBInstall [.ptr 1 0, .v (.int .i64 ver), .v (.string I), .v (.int .i64 tries)] ⟨btL T true, x⟩ 10 fun v H' n' => Sub 10 ⟨[(0, .v (.int .i64 (inR ver I tries T).1))], ⟨btN (inR ver I tries T).2, x⟩, 15⟩ ⟨[(0, v)], H', n'⟩ := by
  have hx' : x 4001003 = some ⟨false, .sv (sqL nthQ)⟩ := hx
  have hKs : BtK (stopT T) m t := ⟨hK.C, hK.P, hK.t, hK.bs, hK.r, hK.len, hK.clen⟩
  have hcf := @stQ_cf T.C.now
  have hr := hK.r
  have hz : ∀ {e : Int}, itE (stQ T.C.now) ver I tries T.r = e → e ≠ 0 → inR ver I tries T = (e, T) := fun h1 h2 => by unfold inR; rw [h1, if_pos h2]
  unfold mBInstall btL btB
  simp -implicitDefEqProofs only [↓fnVC, initTm]
  simp -implicitDefEqProofs only [go_sem]
  refine at_call tBState (stateS (T := T) (i := 1) (q := 2) (s := 3) (D := 4) (a := 5) (b := 6) (c := 7) (M := 8) (W := 9) ⟨by rfl, by rfl, by rfl, by rfl, by rfl, by rfl, by rfl, by rfl, by rfl, by decide, by rfl, by rfl⟩ hK.C.now hx) ?_
  unfold sqV sqL
  simp -implicitDefEqProofs only [go_sem, hx', sqL, nthQ, splice_zero, splice_succ, List.drop_succ_cons, List.drop_zero, List.drop_nil, List.cons_append, List.nil_append, List.take_succ_cons, List.take_zero, List.length_cons, List.length_nil]
  by_cases c1 : (stQ T.C.now).cf < 0
  · have a1 : decide ((stQ T.C.now).cf < 0) = true := decide_eq_true c1
    cases a0 : (decide ((stQ T.C.now).cf = -1) && (decide ((stQ T.C.now).tr = -1) && (decide ((stQ T.C.now).lf = 0) && decide ((stQ T.C.now).fl = 0)))) with
    | true =>
      simp -implicitDefEqProofs only [go_sem, a0, splice_zero, splice_succ, List.drop_succ_cons, List.drop_zero, List.drop_nil, List.cons_append, List.nil_append, List.take_succ_cons, List.take_zero, List.length_cons, List.length_nil]
      rw [hz (e := 5) (by unfold itE; rw [if_pos c1]) (by decide)]
      unfold btN btB
      refine sub_mk [(10, 5), (11, 6), (12, 7), (13, 8), (14, 9)] rfl rfl rfl ?_
      simp only [tmSub, hpSub, objSub, eqTm, eqHp, rn, lk, SV.ren, SV.renC, SV.renB, SV.renA, ren_ints, ren_strs, ren_pl, ren_svs, SV.v.injEq, Value.int.injEq, Body.ints.injEq, SV.ptr.injEq, SV.sl.injEq, Value.string.injEq, Value.bool.injEq, List.map_cons, List.map_nil, forall_const, Nat.reduceLT, Nat.lt_add_one, imp_self, true_and, and_true, and_self, ob_some, get_mk, lk_cons, ↓reduceIte, Nat.reduceEqDiff, ne_eq, not_true_eq_false, not_false_eq_true, Nat.one_ne_zero, Nat.zero_ne_one, Nat.succ_ne_self, Nat.reduceAdd, Bool.false_eq_true, false_implies, implies_true, reduceCtorEq]
      repeat' (first | rfl | apply And.intro)
    | false =>
      simp -implicitDefEqProofs only [go_sem, a0, a1, splice_zero, splice_succ, List.drop_succ_cons, List.drop_zero, List.drop_nil, List.cons_append, List.nil_append, List.take_succ_cons, List.take_zero, List.length_cons, List.length_nil]
      rw [hz (e := 5) (by unfold itE; rw [if_pos c1]) (by decide)]
      unfold btN btB
      refine sub_mk [(10, 5), (11, 6), (12, 7), (13, 8), (14, 9)] rfl rfl rfl ?_
      simp only [tmSub, hpSub, objSub, eqTm, eqHp, rn, lk, SV.ren, SV.renC, SV.renB, SV.renA, ren_ints, ren_strs, ren_pl, ren_svs, SV.v.injEq, Value.int.injEq, Body.ints.injEq, SV.ptr.injEq, SV.sl.injEq, Value.string.injEq, Value.bool.injEq, List.map_cons, List.map_nil, forall_const, Nat.reduceLT, Nat.lt_add_one, imp_self, true_and, and_true, and_self, ob_some, get_mk, lk_cons, ↓reduceIte, Nat.reduceEqDiff, ne_eq, not_true_eq_false, not_false_eq_true, Nat.one_ne_zero, Nat.zero_ne_one, Nat.succ_ne_self, Nat.reduceAdd, Bool.false_eq_true, false_implies, implies_true, reduceCtorEq]
      repeat' (first | rfl | apply And.intro)
  have a0 : decide ((stQ T.C.now).cf = -1) = false := decide_eq_false (by omega)
  have a1 : decide ((stQ T.C.now).cf < 0) = false := decide_eq_false c1
  simp -implicitDefEqProofs only [go_sem, a0, a1, Bool.false_and, splice_zero, splice_succ, List.drop_succ_cons, List.drop_zero, List.drop_nil, List.cons_append, List.nil_append, List.take_succ_cons, List.take_zero, List.length_cons, List.length_nil]
  by_cases c2 : tries < 1
  · have a2 : decide (tries < 1) = true := decide_eq_true c2
    simp -implicitDefEqProofs only [go_sem, a2, splice_zero, splice_succ, List.drop_succ_cons, List.drop_zero, List.drop_nil, List.cons_append, List.nil_append, List.take_succ_cons, List.take_zero, List.length_cons, List.length_nil]
    rw [hz (e := 1) (by unfold itE; rw [if_neg c1, if_pos (.inl c2)]) (by decide)]
    unfold btN btB
    refine sub_mk [(10, 5), (11, 6), (12, 7), (13, 8), (14, 9)] rfl rfl rfl ?_
    simp only [tmSub, hpSub, objSub, eqTm, eqHp, rn, lk, SV.ren, SV.renC, SV.renB, SV.renA, ren_ints, ren_strs, ren_pl, ren_svs, SV.v.injEq, Value.int.injEq, Body.ints.injEq, SV.ptr.injEq, SV.sl.injEq, Value.string.injEq, Value.bool.injEq, List.map_cons, List.map_nil, forall_const, Nat.reduceLT, Nat.lt_add_one, imp_self, true_and, and_true, and_self, ob_some, get_mk, lk_cons, ↓reduceIte, Nat.reduceEqDiff, ne_eq, not_true_eq_false, not_false_eq_true, Nat.one_ne_zero, Nat.zero_ne_one, Nat.succ_ne_self, Nat.reduceAdd, Bool.false_eq_true, false_implies, implies_true, reduceCtorEq]
    repeat' (first | rfl | apply And.intro)
  have a2 : decide (tries < 1) = false := decide_eq_false c2
  simp -implicitDefEqProofs only [go_sem, a2, splice_zero, splice_succ, List.drop_succ_cons, List.drop_zero, List.drop_nil, List.cons_append, List.nil_append, List.take_succ_cons, List.take_zero, List.length_cons, List.length_nil]
  by_cases c3 : tries > 8
  · have a3 : decide (tries > 8) = true := decide_eq_true c3
    simp -implicitDefEqProofs only [go_sem, a3, splice_zero, splice_succ, List.drop_succ_cons, List.drop_zero, List.drop_nil, List.cons_append, List.nil_append, List.take_succ_cons, List.take_zero, List.length_cons, List.length_nil]
    rw [hz (e := 1) (by unfold itE; rw [if_neg c1, if_pos (.inr c3)]) (by decide)]
    unfold btN btB
    refine sub_mk [(10, 5), (11, 6), (12, 7), (13, 8), (14, 9)] rfl rfl rfl ?_
    simp only [tmSub, hpSub, objSub, eqTm, eqHp, rn, lk, SV.ren, SV.renC, SV.renB, SV.renA, ren_ints, ren_strs, ren_pl, ren_svs, SV.v.injEq, Value.int.injEq, Body.ints.injEq, SV.ptr.injEq, SV.sl.injEq, Value.string.injEq, Value.bool.injEq, List.map_cons, List.map_nil, forall_const, Nat.reduceLT, Nat.lt_add_one, imp_self, true_and, and_true, and_self, ob_some, get_mk, lk_cons, ↓reduceIte, Nat.reduceEqDiff, ne_eq, not_true_eq_false, not_false_eq_true, Nat.one_ne_zero, Nat.zero_ne_one, Nat.succ_ne_self, Nat.reduceAdd, Bool.false_eq_true, false_implies, implies_true, reduceCtorEq]
    repeat' (first | rfl | apply And.intro)
  have a3 : decide (tries > 8) = false := decide_eq_false c3
  simp -implicitDefEqProofs only [go_sem, a3, splice_zero, splice_succ, List.drop_succ_cons, List.drop_zero, List.drop_nil, List.cons_append, List.nil_append, List.take_succ_cons, List.take_zero, List.length_cons, List.length_nil]
  have c23 : ¬ (tries < 1 ∨ 8 < tries) := by omega
  by_cases c4 : (stQ T.C.now).fl = 255
  · have a4 : decide ((stQ T.C.now).fl = 255) = true := decide_eq_true c4
    simp -implicitDefEqProofs only [go_sem, a4, splice_zero, splice_succ, List.drop_succ_cons, List.drop_zero, List.drop_nil, List.cons_append, List.nil_append, List.take_succ_cons, List.take_zero, List.length_cons, List.length_nil]
    rw [hz (e := 8) (by unfold itE; rw [if_neg c1, if_neg c23, if_pos c4]) (by decide)]
    unfold btN btB
    refine sub_mk [(10, 5), (11, 6), (12, 7), (13, 8), (14, 9)] rfl rfl rfl ?_
    simp only [tmSub, hpSub, objSub, eqTm, eqHp, rn, lk, SV.ren, SV.renC, SV.renB, SV.renA, ren_ints, ren_strs, ren_pl, ren_svs, SV.v.injEq, Value.int.injEq, Body.ints.injEq, SV.ptr.injEq, SV.sl.injEq, Value.string.injEq, Value.bool.injEq, List.map_cons, List.map_nil, forall_const, Nat.reduceLT, Nat.lt_add_one, imp_self, true_and, and_true, and_self, ob_some, get_mk, lk_cons, ↓reduceIte, Nat.reduceEqDiff, ne_eq, not_true_eq_false, not_false_eq_true, Nat.one_ne_zero, Nat.zero_ne_one, Nat.succ_ne_self, Nat.reduceAdd, Bool.false_eq_true, false_implies, implies_true, reduceCtorEq]
    repeat' (first | rfl | apply And.intro)
  have a4 : decide ((stQ T.C.now).fl = 255) = false := decide_eq_false c4
  simp -implicitDefEqProofs only [go_sem, a4, splice_zero, splice_succ, List.drop_succ_cons, List.drop_zero, List.drop_nil, List.cons_append, List.nil_append, List.take_succ_cons, List.take_zero, List.length_cons, List.length_nil]
  by_cases c5 : ver ≤ (stQ T.C.now).fl
  · have a5 : decide (ver ≤ (stQ T.C.now).fl) = true := decide_eq_true c5
    simp -implicitDefEqProofs only [go_sem, a5, splice_zero, splice_succ, List.drop_succ_cons, List.drop_zero, List.drop_nil, List.cons_append, List.nil_append, List.take_succ_cons, List.take_zero, List.length_cons, List.length_nil]
    rw [hz (e := 12) (by unfold itE; rw [if_neg c1, if_neg c23, if_neg c4, if_pos c5]) (by decide)]
    unfold btN btB
    refine sub_mk [(10, 5), (11, 6), (12, 7), (13, 8), (14, 9)] rfl rfl rfl ?_
    simp only [tmSub, hpSub, objSub, eqTm, eqHp, rn, lk, SV.ren, SV.renC, SV.renB, SV.renA, ren_ints, ren_strs, ren_pl, ren_svs, SV.v.injEq, Value.int.injEq, Body.ints.injEq, SV.ptr.injEq, SV.sl.injEq, Value.string.injEq, Value.bool.injEq, List.map_cons, List.map_nil, forall_const, Nat.reduceLT, Nat.lt_add_one, imp_self, true_and, and_true, and_self, ob_some, get_mk, lk_cons, ↓reduceIte, Nat.reduceEqDiff, ne_eq, not_true_eq_false, not_false_eq_true, Nat.one_ne_zero, Nat.zero_ne_one, Nat.succ_ne_self, Nat.reduceAdd, Bool.false_eq_true, false_implies, implies_true, reduceCtorEq]
    repeat' (first | rfl | apply And.intro)
  have a5 : decide (ver ≤ (stQ T.C.now).fl) = false := decide_eq_false c5
  simp -implicitDefEqProofs only [go_sem, a5, splice_zero, splice_succ, List.drop_succ_cons, List.drop_zero, List.drop_nil, List.cons_append, List.nil_append, List.take_succ_cons, List.take_zero, List.length_cons, List.length_nil]
  by_cases c6 : ver > 255
  · have a6 : decide (ver > 255) = true := decide_eq_true c6
    simp -implicitDefEqProofs only [go_sem, a6, splice_zero, splice_succ, List.drop_succ_cons, List.drop_zero, List.drop_nil, List.cons_append, List.nil_append, List.take_succ_cons, List.take_zero, List.length_cons, List.length_nil]
    rw [hz (e := 1) (by unfold itE; rw [if_neg c1, if_neg c23, if_neg c4, if_neg c5, if_pos (.inl c6)]) (by decide)]
    unfold btN btB
    refine sub_mk [(10, 5), (11, 6), (12, 7), (13, 8), (14, 9)] rfl rfl rfl ?_
    simp only [tmSub, hpSub, objSub, eqTm, eqHp, rn, lk, SV.ren, SV.renC, SV.renB, SV.renA, ren_ints, ren_strs, ren_pl, ren_svs, SV.v.injEq, Value.int.injEq, Body.ints.injEq, SV.ptr.injEq, SV.sl.injEq, Value.string.injEq, Value.bool.injEq, List.map_cons, List.map_nil, forall_const, Nat.reduceLT, Nat.lt_add_one, imp_self, true_and, and_true, and_self, ob_some, get_mk, lk_cons, ↓reduceIte, Nat.reduceEqDiff, ne_eq, not_true_eq_false, not_false_eq_true, Nat.one_ne_zero, Nat.zero_ne_one, Nat.succ_ne_self, Nat.reduceAdd, Bool.false_eq_true, false_implies, implies_true, reduceCtorEq]
    repeat' (first | rfl | apply And.intro)
  have a6 : decide (ver > 255) = false := decide_eq_false c6
  simp -implicitDefEqProofs only [go_sem, a6, splice_zero, splice_succ, List.drop_succ_cons, List.drop_zero, List.drop_nil, List.cons_append, List.nil_append, List.take_succ_cons, List.take_zero, List.length_cons, List.length_nil]
  cases c7 : seq I ⟨#[]⟩ with
  | true =>
    simp -implicitDefEqProofs only [go_sem, c7, splice_zero, splice_succ, List.drop_succ_cons, List.drop_zero, List.drop_nil, List.cons_append, List.nil_append, List.take_succ_cons, List.take_zero, List.length_cons, List.length_nil]
    rw [hz (e := 1) (by unfold itE; rw [if_neg c1, if_neg c23, if_neg c4, if_neg c5, if_pos (.inr c7)]) (by decide)]
    unfold btN btB
    refine sub_mk [(10, 5), (11, 6), (12, 7), (13, 8), (14, 9)] rfl rfl rfl ?_
    simp only [tmSub, hpSub, objSub, eqTm, eqHp, rn, lk, SV.ren, SV.renC, SV.renB, SV.renA, ren_ints, ren_strs, ren_pl, ren_svs, SV.v.injEq, Value.int.injEq, Body.ints.injEq, SV.ptr.injEq, SV.sl.injEq, Value.string.injEq, Value.bool.injEq, List.map_cons, List.map_nil, forall_const, Nat.reduceLT, Nat.lt_add_one, imp_self, true_and, and_true, and_self, ob_some, get_mk, lk_cons, ↓reduceIte, Nat.reduceEqDiff, ne_eq, not_true_eq_false, not_false_eq_true, Nat.one_ne_zero, Nat.zero_ne_one, Nat.succ_ne_self, Nat.reduceAdd, Bool.false_eq_true, false_implies, implies_true, reduceCtorEq]
    repeat' (first | rfl | apply And.intro)
  | false =>
  have c67 : ¬ (255 < ver ∨ seq I ⟨#[]⟩ = true) := by rw [c7]; simp; omega
  have w1 : IntKind.i64.wrap ((T.r : Int) * 64) = (T.r : Int) * 64 := wrap_i64 (by omega) (by omega)
  simp -implicitDefEqProofs only [go_sem, c7, w1, splice_zero, splice_succ, List.drop_succ_cons, List.drop_zero, List.drop_nil, List.cons_append, List.nil_append, List.take_succ_cons, List.take_zero, List.length_cons, List.length_nil]
  by_cases c8 : (I.size : Int) > min 8192 ((T.r : Int) * 64)
  · have a8 : decide ((I.size : Int) > min 8192 ((T.r : Int) * 64)) = true := decide_eq_true c8
    simp -implicitDefEqProofs only [go_sem, a8, splice_zero, splice_succ, List.drop_succ_cons, List.drop_zero, List.drop_nil, List.cons_append, List.nil_append, List.take_succ_cons, List.take_zero, List.length_cons, List.length_nil]
    rw [hz (e := 4) (by unfold itE; rw [if_neg c1, if_neg c23, if_neg c4, if_neg c5, if_neg c67, if_pos c8]) (by decide)]
    unfold btN btB
    refine sub_mk [(10, 5), (11, 6), (12, 7), (13, 8), (14, 9)] rfl rfl rfl ?_
    simp only [tmSub, hpSub, objSub, eqTm, eqHp, rn, lk, SV.ren, SV.renC, SV.renB, SV.renA, ren_ints, ren_strs, ren_pl, ren_svs, SV.v.injEq, Value.int.injEq, Body.ints.injEq, SV.ptr.injEq, SV.sl.injEq, Value.string.injEq, Value.bool.injEq, List.map_cons, List.map_nil, forall_const, Nat.reduceLT, Nat.lt_add_one, imp_self, true_and, and_true, and_self, ob_some, get_mk, lk_cons, ↓reduceIte, Nat.reduceEqDiff, ne_eq, not_true_eq_false, not_false_eq_true, Nat.one_ne_zero, Nat.zero_ne_one, Nat.succ_ne_self, Nat.reduceAdd, Bool.false_eq_true, false_implies, implies_true, reduceCtorEq]
    repeat' (first | rfl | apply And.intro)
  have a8 : decide ((I.size : Int) > min 8192 ((T.r : Int) * 64)) = false := decide_eq_false c8
  simp -implicitDefEqProofs only [go_sem, a8, splice_zero, splice_succ, List.drop_succ_cons, List.drop_zero, List.drop_nil, List.cons_append, List.nil_append, List.take_succ_cons, List.take_zero, List.length_cons, List.length_nil]
  have hE : itE (stQ T.C.now) ver I tries T.r = 0 := by unfold itE; rw [if_neg c1, if_neg c23, if_neg c4, if_neg c5, if_neg c67, if_neg c8]
  have w2 : IntKind.i64.wrap (1 - (stQ T.C.now).cf) = 1 - (stQ T.C.now).cf := wrap_i64 (by omega) (by omega)
  simp -implicitDefEqProofs only [go_sem, w2, splice_zero, splice_succ, List.drop_succ_cons, List.drop_zero, List.drop_nil, List.cons_append, List.nil_append, List.take_succ_cons, List.take_zero, List.length_cons, List.length_nil]
  refine in_call mixT tBRunning ?_
  unfold mBRunning
  simp -implicitDefEqProofs only [↓fnVC, initTm]
  simp -implicitDefEqProofs only [go_sem]
  by_cases o1 : T.on = true
  · simp -implicitDefEqProofs only [go_sem, o1]
    by_cases o2 : T.slot = 1 - (stQ T.C.now).cf
    · have o3 : decide (T.slot = 1 - (stQ T.C.now).cf) = true := decide_eq_true o2
      simp -implicitDefEqProofs only [go_sem, w2, o3]
      refine in_call mixT tBstop ?_
      unfold mBstop
      simp -implicitDefEqProofs only [↓fnVC, initTm]
      simp -implicitDefEqProofs only [go_sem, splice_zero, splice_succ, List.drop_succ_cons, List.drop_zero, List.drop_nil, List.cons_append, List.nil_append, List.take_succ_cons, List.take_zero, List.length_cons, List.length_nil]
      have hH : haltT (1 - (stQ T.C.now).cf) T = stopT T := if_pos ⟨o1, o2⟩
      refine at_call tBsettled (settledS (k := stQ T.C.now) hx) ?_
      unfold sqV sqL
      simp -implicitDefEqProofs only [go_sem, splice_zero, splice_succ, List.drop_succ_cons, List.drop_zero, List.drop_nil, List.cons_append, List.nil_append, List.take_succ_cons, List.take_zero, List.length_cons, List.length_nil]
      by_cases k1 : (stQ T.C.now).tr = -1 ∧ (stQ T.C.now).lf = 0
      · have u1 : decide ((stQ T.C.now).tr = -1) = true := decide_eq_true k1.1
        have u2 : decide ((stQ T.C.now).lf = 0) = true := decide_eq_true k1.2
        have u3 : decide ((stQ T.C.now).cf = (stQ T.C.now).cf) = true := decide_eq_true rfl
        have u4 : decide ((stQ T.C.now).fl = (stQ T.C.now).fl) = true := decide_eq_true rfl
        simp -implicitDefEqProofs only [go_sem, u1, u2, u3, u4, w2, splice_zero, splice_succ, List.drop_succ_cons, List.drop_zero, List.drop_nil, List.cons_append, List.nil_append, List.take_succ_cons, List.take_zero, List.length_cons, List.length_nil]
        have hT : inR ver I tries T = tlR (stQ T.C.now) ver I tries (stopT T) := by unfold inR; rw [if_neg (by simp [hE])]; simp only [if_pos k1]; rw [hH]
        obtain ⟨⟨e1, d1⟩, hq⟩ : ∃ p, Sl.swR (stopT T).bs (stopT T).r (1 - (stQ T.C.now).cf) ver I (stopT T).d = p := ⟨_, rfl⟩
        have hw : wtB (1 - (stQ T.C.now).cf) ver I (stopT T) = (e1, { (stopT T) with d := d1 }) := by unfold wtB; simp only [hq]
        have hKw : BtK { (stopT T) with d := d1 } m (t + 133) := by have := wtB_k (slot := 1 - (stQ T.C.now).cf) (ver := ver) (I := I) hKs (by omega); rw [hw] at this; exact this
        refine at_call tSWrite (Sl.swriteS (q := 3) (i := 4) (a := 5) (b := 6) (c := 7) (d := (stopT T).d) hKs.bs hKs.r (by rfl) ⟨by rfl, by rfl, by rfl, by rfl, by decide⟩ (by decide) hKs.P hKs.t (by decide) hq) ?_
        rw [Sl.devN_eq]
        simp -implicitDefEqProofs only [go_sem]
        by_cases g1 : e1 = 0
        · have b1 : decide (e1 = 0) = true := decide_eq_true g1
          simp -implicitDefEqProofs only [go_sem, b1, w2, splice_zero, splice_succ, List.drop_succ_cons, List.drop_zero, List.drop_nil, List.cons_append, List.nil_append, List.take_succ_cons, List.take_zero, List.length_cons, List.length_nil]
          rw [show inR ver I tries T = kpR ⟨(stQ T.C.now).cf, 1 - (stQ T.C.now).cf, tries, (stQ T.C.now).fl⟩ { (stopT T) with d := d1 } by rw [hT]; unfold tlR; rw [hw, if_neg (by simp [g1])]]
          obtain ⟨⟨e2, T2⟩, hk2⟩ : ∃ p, kpR ⟨(stQ T.C.now).cf, 1 - (stQ T.C.now).cf, tries, (stQ T.C.now).fl⟩ { (stopT T) with d := d1 } = p := ⟨_, rfl⟩
          rw [hk2]
          refine at_call tBkeep (keepS (T := { (stopT T) with d := d1 }) (k := ⟨(stQ T.C.now).cf, 1 - (stQ T.C.now).cf, tries, (stQ T.C.now).fl⟩) (i := 1) (q := 2) (s := 3) (D := 4) (a := 11) (b := 12) (c := 13) (M := 8) (W := 9) ⟨by rfl, by rfl, by rfl, by rfl, by rfl, by rfl, by rfl, by rfl, by rfl, by decide, by rfl, by rfl⟩ hKw hx (by decide) hk2) ?_
          rw [btF_eq]
          unfold btB
          simp -implicitDefEqProofs only [go_sem]
          unfold btN btB
          refine sub_mk [(10, 14), (11, 15), (12, 16), (13, 17), (14, 18)] rfl rfl rfl ?_
          simp only [tmSub, hpSub, objSub, eqTm, eqHp, rn, lk, SV.ren, SV.renC, SV.renB, SV.renA, ren_ints, ren_strs, ren_pl, ren_svs, SV.v.injEq, Value.int.injEq, Body.ints.injEq, SV.ptr.injEq, SV.sl.injEq, Value.string.injEq, Value.bool.injEq, List.map_cons, List.map_nil, forall_const, Nat.reduceLT, Nat.lt_add_one, imp_self, true_and, and_true, and_self, ob_some, get_mk, lk_cons, ↓reduceIte, Nat.reduceEqDiff, ne_eq, not_true_eq_false, not_false_eq_true, Nat.one_ne_zero, Nat.zero_ne_one, Nat.succ_ne_self, Nat.reduceAdd, Bool.false_eq_true, false_implies, implies_true, reduceCtorEq, stopT]
          repeat' (first | rfl | apply And.intro)
        · have b1 : decide (e1 = 0) = false := decide_eq_false g1
          rw [show inR ver I tries T = (e1, { (stopT T) with d := d1 }) by rw [hT]; unfold tlR; rw [hw, if_pos g1]]
          simp -implicitDefEqProofs only [go_sem, b1]
          unfold btN btB
          refine sub_mk [(10, 11), (11, 12), (12, 13), (13, 8), (14, 9)] rfl rfl rfl ?_
          simp only [tmSub, hpSub, objSub, eqTm, eqHp, rn, lk, SV.ren, SV.renC, SV.renB, SV.renA, ren_ints, ren_strs, ren_pl, ren_svs, SV.v.injEq, Value.int.injEq, Body.ints.injEq, SV.ptr.injEq, SV.sl.injEq, Value.string.injEq, Value.bool.injEq, List.map_cons, List.map_nil, forall_const, Nat.reduceLT, Nat.lt_add_one, imp_self, true_and, and_true, and_self, ob_some, get_mk, lk_cons, ↓reduceIte, Nat.reduceEqDiff, ne_eq, not_true_eq_false, not_false_eq_true, Nat.one_ne_zero, Nat.zero_ne_one, Nat.succ_ne_self, Nat.reduceAdd, Bool.false_eq_true, false_implies, implies_true, reduceCtorEq, stopT]
          repeat' (first | rfl | apply And.intro)
      · have u1 : (decide ((stQ T.C.now).tr = -1) && decide ((stQ T.C.now).lf = 0)) = false := by
          rw [Bool.eq_false_iff]; intro h; simp only [Bool.and_eq_true, decide_eq_true_eq] at h; exact k1 h
        simp -implicitDefEqProofs only [go_sem, u1, splice_zero, splice_succ, List.drop_succ_cons, List.drop_zero, List.drop_nil, List.cons_append, List.nil_append, List.take_succ_cons, List.take_zero, List.length_cons, List.length_nil]
        refine at_call tBsettled (settledS (k := stQ T.C.now) hx) ?_
        unfold sqV sqL
        simp -implicitDefEqProofs only [go_sem, splice_zero, splice_succ, List.drop_succ_cons, List.drop_zero, List.drop_nil, List.cons_append, List.nil_append, List.take_succ_cons, List.take_zero, List.length_cons, List.length_nil]
        obtain ⟨⟨e, T1⟩, hk⟩ : ∃ p, kpR (sdQ (stQ T.C.now)) (stopT T) = p := ⟨_, rfl⟩
        have hkk := kpR_k (k := sdQ (stQ T.C.now)) hKs (by omega) hnum
        rw [hk] at hkk
        obtain ⟨hK1, _, hb1, hb2⟩ := hkk
        have hT : inR ver I tries T = if e ≠ 0 then (e, T1) else tlR (stQ T.C.now) ver I tries T1 := by unfold inR; rw [if_neg (by simp [hE])]; simp only [if_neg k1]; rw [hH]; rw [hk]
        refine at_call tBkeep (keepS (T := (stopT T)) (k := sdQ (stQ T.C.now)) (i := 1) (q := 2) (s := 3) (D := 4) (a := 5) (b := 6) (c := 7) (M := 8) (W := 9) ⟨by rfl, by rfl, by rfl, by rfl, by rfl, by rfl, by rfl, by rfl, by rfl, by decide, by rfl, by rfl⟩ hKs hx (by decide) hk) ?_
        rw [btF_eq]
        unfold btB
        simp -implicitDefEqProofs only [go_sem]
        by_cases d1 : e = 0
        case neg =>
          have k1 : decide (e = 0) = false := decide_eq_false d1
          simp -implicitDefEqProofs only [go_sem, k1]
          rw [hT, if_pos d1]
          unfold btN btB
          refine sub_mk [(10, 11), (11, 12), (12, 13), (13, 14), (14, 15)] rfl rfl rfl ?_
          simp only [tmSub, hpSub, objSub, eqTm, eqHp, rn, lk, SV.ren, SV.renC, SV.renB, SV.renA, ren_ints, ren_strs, ren_pl, ren_svs, SV.v.injEq, Value.int.injEq, Body.ints.injEq, SV.ptr.injEq, SV.sl.injEq, Value.string.injEq, Value.bool.injEq, List.map_cons, List.map_nil, forall_const, Nat.reduceLT, Nat.lt_add_one, imp_self, true_and, and_true, and_self, ob_some, get_mk, lk_cons, ↓reduceIte, Nat.reduceEqDiff, ne_eq, not_true_eq_false, not_false_eq_true, Nat.one_ne_zero, Nat.zero_ne_one, Nat.succ_ne_self, Nat.reduceAdd, Bool.false_eq_true, false_implies, implies_true, reduceCtorEq, stopT]
          repeat' (first | rfl | apply And.intro)
        have d2 : decide (e = 0) = true := decide_eq_true d1
        rw [if_neg (by simp [d1])] at hT
        simp -implicitDefEqProofs only [go_sem, d2, w2]
        obtain ⟨⟨e1, d1⟩, hq⟩ : ∃ p, Sl.swR T1.bs T1.r (1 - (stQ T.C.now).cf) ver I T1.d = p := ⟨_, rfl⟩
        have hw : wtB (1 - (stQ T.C.now).cf) ver I T1 = (e1, { T1 with d := d1 }) := by unfold wtB; simp only [hq]
        have hKw : BtK { T1 with d := d1 } m ((t + 133) + 133) := by have := wtB_k (slot := 1 - (stQ T.C.now).cf) (ver := ver) (I := I) hK1 (by omega); rw [hw] at this; exact this
        refine at_call tSWrite (Sl.swriteS (q := 3) (i := 4) (a := 11) (b := 12) (c := 13) (d := T1.d) hK1.bs hK1.r (by rfl) ⟨by rfl, by rfl, by rfl, by rfl, by decide⟩ (by decide) hK1.P hK1.t (by decide) hq) ?_
        rw [Sl.devN_eq]
        simp -implicitDefEqProofs only [go_sem]
        by_cases g1 : e1 = 0
        · have b1 : decide (e1 = 0) = true := decide_eq_true g1
          simp -implicitDefEqProofs only [go_sem, b1, w2, splice_zero, splice_succ, List.drop_succ_cons, List.drop_zero, List.drop_nil, List.cons_append, List.nil_append, List.take_succ_cons, List.take_zero, List.length_cons, List.length_nil]
          rw [show inR ver I tries T = kpR ⟨(stQ T.C.now).cf, 1 - (stQ T.C.now).cf, tries, (stQ T.C.now).fl⟩ { T1 with d := d1 } by rw [hT]; unfold tlR; rw [hw, if_neg (by simp [g1])]]
          obtain ⟨⟨e2, T2⟩, hk2⟩ : ∃ p, kpR ⟨(stQ T.C.now).cf, 1 - (stQ T.C.now).cf, tries, (stQ T.C.now).fl⟩ { T1 with d := d1 } = p := ⟨_, rfl⟩
          rw [hk2]
          refine at_call tBkeep (keepS (T := { T1 with d := d1 }) (k := ⟨(stQ T.C.now).cf, 1 - (stQ T.C.now).cf, tries, (stQ T.C.now).fl⟩) (i := 1) (q := 2) (s := 3) (D := 4) (a := 16) (b := 17) (c := 18) (M := 14) (W := 15) ⟨by rfl, by rfl, by rfl, by rfl, by rfl, by rfl, by rfl, by rfl, by rfl, by decide, by rfl, by rfl⟩ hKw hx (by decide) hk2) ?_
          rw [btF_eq]
          unfold btB
          simp -implicitDefEqProofs only [go_sem]
          unfold btN btB
          refine sub_mk [(10, 19), (11, 20), (12, 21), (13, 22), (14, 23)] rfl rfl rfl ?_
          simp only [tmSub, hpSub, objSub, eqTm, eqHp, rn, lk, SV.ren, SV.renC, SV.renB, SV.renA, ren_ints, ren_strs, ren_pl, ren_svs, SV.v.injEq, Value.int.injEq, Body.ints.injEq, SV.ptr.injEq, SV.sl.injEq, Value.string.injEq, Value.bool.injEq, List.map_cons, List.map_nil, forall_const, Nat.reduceLT, Nat.lt_add_one, imp_self, true_and, and_true, and_self, ob_some, get_mk, lk_cons, ↓reduceIte, Nat.reduceEqDiff, ne_eq, not_true_eq_false, not_false_eq_true, Nat.one_ne_zero, Nat.zero_ne_one, Nat.succ_ne_self, Nat.reduceAdd, Bool.false_eq_true, false_implies, implies_true, reduceCtorEq, stopT]
          repeat' (first | rfl | apply And.intro)
        · have b1 : decide (e1 = 0) = false := decide_eq_false g1
          rw [show inR ver I tries T = (e1, { T1 with d := d1 }) by rw [hT]; unfold tlR; rw [hw, if_pos g1]]
          simp -implicitDefEqProofs only [go_sem, b1]
          unfold btN btB
          refine sub_mk [(10, 16), (11, 17), (12, 18), (13, 14), (14, 15)] rfl rfl rfl ?_
          simp only [tmSub, hpSub, objSub, eqTm, eqHp, rn, lk, SV.ren, SV.renC, SV.renB, SV.renA, ren_ints, ren_strs, ren_pl, ren_svs, SV.v.injEq, Value.int.injEq, Body.ints.injEq, SV.ptr.injEq, SV.sl.injEq, Value.string.injEq, Value.bool.injEq, List.map_cons, List.map_nil, forall_const, Nat.reduceLT, Nat.lt_add_one, imp_self, true_and, and_true, and_self, ob_some, get_mk, lk_cons, ↓reduceIte, Nat.reduceEqDiff, ne_eq, not_true_eq_false, not_false_eq_true, Nat.one_ne_zero, Nat.zero_ne_one, Nat.succ_ne_self, Nat.reduceAdd, Bool.false_eq_true, false_implies, implies_true, reduceCtorEq, stopT]
          repeat' (first | rfl | apply And.intro)
    · have o3 : decide (T.slot = 1 - (stQ T.C.now).cf) = false := decide_eq_false o2
      simp -implicitDefEqProofs only [go_sem, w2, o3]
      have hH : haltT (1 - (stQ T.C.now).cf) T = T := if_neg fun h => o2 h.2
      refine at_call tBsettled (settledS (k := stQ T.C.now) hx) ?_
      unfold sqV sqL
      simp -implicitDefEqProofs only [go_sem, splice_zero, splice_succ, List.drop_succ_cons, List.drop_zero, List.drop_nil, List.cons_append, List.nil_append, List.take_succ_cons, List.take_zero, List.length_cons, List.length_nil]
      by_cases k1 : (stQ T.C.now).tr = -1 ∧ (stQ T.C.now).lf = 0
      · have u1 : decide ((stQ T.C.now).tr = -1) = true := decide_eq_true k1.1
        have u2 : decide ((stQ T.C.now).lf = 0) = true := decide_eq_true k1.2
        have u3 : decide ((stQ T.C.now).cf = (stQ T.C.now).cf) = true := decide_eq_true rfl
        have u4 : decide ((stQ T.C.now).fl = (stQ T.C.now).fl) = true := decide_eq_true rfl
        simp -implicitDefEqProofs only [go_sem, u1, u2, u3, u4, w2, splice_zero, splice_succ, List.drop_succ_cons, List.drop_zero, List.drop_nil, List.cons_append, List.nil_append, List.take_succ_cons, List.take_zero, List.length_cons, List.length_nil]
        have hT : inR ver I tries T = tlR (stQ T.C.now) ver I tries T := by unfold inR; rw [if_neg (by simp [hE])]; simp only [if_pos k1]; rw [hH]
        obtain ⟨⟨e1, d1⟩, hq⟩ : ∃ p, Sl.swR T.bs T.r (1 - (stQ T.C.now).cf) ver I T.d = p := ⟨_, rfl⟩
        have hw : wtB (1 - (stQ T.C.now).cf) ver I T = (e1, { T with d := d1 }) := by unfold wtB; simp only [hq]
        have hKw : BtK { T with d := d1 } m (t + 133) := by have := wtB_k (slot := 1 - (stQ T.C.now).cf) (ver := ver) (I := I) hK (by omega); rw [hw] at this; exact this
        refine at_call tSWrite (Sl.swriteS (q := 3) (i := 4) (a := 5) (b := 6) (c := 7) (d := T.d) hK.bs hK.r (by rfl) ⟨by rfl, by rfl, by rfl, by rfl, by decide⟩ (by decide) hK.P hK.t (by decide) hq) ?_
        rw [Sl.devN_eq]
        simp -implicitDefEqProofs only [go_sem]
        by_cases g1 : e1 = 0
        · have b1 : decide (e1 = 0) = true := decide_eq_true g1
          simp -implicitDefEqProofs only [go_sem, b1, w2, splice_zero, splice_succ, List.drop_succ_cons, List.drop_zero, List.drop_nil, List.cons_append, List.nil_append, List.take_succ_cons, List.take_zero, List.length_cons, List.length_nil]
          rw [show inR ver I tries T = kpR ⟨(stQ T.C.now).cf, 1 - (stQ T.C.now).cf, tries, (stQ T.C.now).fl⟩ { T with d := d1 } by rw [hT]; unfold tlR; rw [hw, if_neg (by simp [g1])]]
          obtain ⟨⟨e2, T2⟩, hk2⟩ : ∃ p, kpR ⟨(stQ T.C.now).cf, 1 - (stQ T.C.now).cf, tries, (stQ T.C.now).fl⟩ { T with d := d1 } = p := ⟨_, rfl⟩
          rw [hk2]
          refine at_call tBkeep (keepS (T := { T with d := d1 }) (k := ⟨(stQ T.C.now).cf, 1 - (stQ T.C.now).cf, tries, (stQ T.C.now).fl⟩) (i := 1) (q := 2) (s := 3) (D := 4) (a := 11) (b := 12) (c := 13) (M := 8) (W := 9) ⟨by unfold btB; rw [o1]; rfl, by rfl, by rfl, by rfl, by rfl, by rfl, by rfl, by rfl, by rfl, by decide, by rfl, by rfl⟩ hKw hx (by decide) hk2) ?_
          rw [btF_eq]
          unfold btB
          simp -implicitDefEqProofs only [go_sem]
          unfold btN btB
          refine sub_mk [(10, 14), (11, 15), (12, 16), (13, 17), (14, 18)] rfl rfl rfl ?_
          simp only [tmSub, hpSub, objSub, eqTm, eqHp, rn, lk, SV.ren, SV.renC, SV.renB, SV.renA, ren_ints, ren_strs, ren_pl, ren_svs, SV.v.injEq, Value.int.injEq, Body.ints.injEq, SV.ptr.injEq, SV.sl.injEq, Value.string.injEq, Value.bool.injEq, List.map_cons, List.map_nil, forall_const, Nat.reduceLT, Nat.lt_add_one, imp_self, true_and, and_true, and_self, ob_some, get_mk, lk_cons, ↓reduceIte, Nat.reduceEqDiff, ne_eq, not_true_eq_false, not_false_eq_true, Nat.one_ne_zero, Nat.zero_ne_one, Nat.succ_ne_self, Nat.reduceAdd, Bool.false_eq_true, false_implies, implies_true, reduceCtorEq, stopT]
          repeat' (first | rfl | apply And.intro)
        · have b1 : decide (e1 = 0) = false := decide_eq_false g1
          rw [show inR ver I tries T = (e1, { T with d := d1 }) by rw [hT]; unfold tlR; rw [hw, if_pos g1]]
          simp -implicitDefEqProofs only [go_sem, b1]
          unfold btN btB
          rw [o1]
          refine sub_mk [(10, 11), (11, 12), (12, 13), (13, 8), (14, 9)] rfl rfl rfl ?_
          simp only [tmSub, hpSub, objSub, eqTm, eqHp, rn, lk, SV.ren, SV.renC, SV.renB, SV.renA, ren_ints, ren_strs, ren_pl, ren_svs, SV.v.injEq, Value.int.injEq, Body.ints.injEq, SV.ptr.injEq, SV.sl.injEq, Value.string.injEq, Value.bool.injEq, List.map_cons, List.map_nil, forall_const, Nat.reduceLT, Nat.lt_add_one, imp_self, true_and, and_true, and_self, ob_some, get_mk, lk_cons, ↓reduceIte, Nat.reduceEqDiff, ne_eq, not_true_eq_false, not_false_eq_true, Nat.one_ne_zero, Nat.zero_ne_one, Nat.succ_ne_self, Nat.reduceAdd, Bool.false_eq_true, false_implies, implies_true, reduceCtorEq, stopT]
          repeat' (first | rfl | apply And.intro)
      · have u1 : (decide ((stQ T.C.now).tr = -1) && decide ((stQ T.C.now).lf = 0)) = false := by
          rw [Bool.eq_false_iff]; intro h; simp only [Bool.and_eq_true, decide_eq_true_eq] at h; exact k1 h
        simp -implicitDefEqProofs only [go_sem, u1, splice_zero, splice_succ, List.drop_succ_cons, List.drop_zero, List.drop_nil, List.cons_append, List.nil_append, List.take_succ_cons, List.take_zero, List.length_cons, List.length_nil]
        refine at_call tBsettled (settledS (k := stQ T.C.now) hx) ?_
        unfold sqV sqL
        simp -implicitDefEqProofs only [go_sem, splice_zero, splice_succ, List.drop_succ_cons, List.drop_zero, List.drop_nil, List.cons_append, List.nil_append, List.take_succ_cons, List.take_zero, List.length_cons, List.length_nil]
        obtain ⟨⟨e, T1⟩, hk⟩ : ∃ p, kpR (sdQ (stQ T.C.now)) T = p := ⟨_, rfl⟩
        have hkk := kpR_k (k := sdQ (stQ T.C.now)) hK (by omega) hnum
        rw [hk] at hkk
        obtain ⟨hK1, _, hb1, hb2⟩ := hkk
        have hT : inR ver I tries T = if e ≠ 0 then (e, T1) else tlR (stQ T.C.now) ver I tries T1 := by unfold inR; rw [if_neg (by simp [hE])]; simp only [if_neg k1]; rw [hH]; rw [hk]
        refine at_call tBkeep (keepS (T := T) (k := sdQ (stQ T.C.now)) (i := 1) (q := 2) (s := 3) (D := 4) (a := 5) (b := 6) (c := 7) (M := 8) (W := 9) ⟨by unfold btB; rw [o1]; rfl, by rfl, by rfl, by rfl, by rfl, by rfl, by rfl, by rfl, by rfl, by decide, by rfl, by rfl⟩ hK hx (by decide) hk) ?_
        rw [btF_eq]
        unfold btB
        simp -implicitDefEqProofs only [go_sem]
        by_cases d1 : e = 0
        case neg =>
          have k1 : decide (e = 0) = false := decide_eq_false d1
          simp -implicitDefEqProofs only [go_sem, k1]
          rw [hT, if_pos d1]
          unfold btN btB
          refine sub_mk [(10, 11), (11, 12), (12, 13), (13, 14), (14, 15)] rfl rfl rfl ?_
          simp only [tmSub, hpSub, objSub, eqTm, eqHp, rn, lk, SV.ren, SV.renC, SV.renB, SV.renA, ren_ints, ren_strs, ren_pl, ren_svs, SV.v.injEq, Value.int.injEq, Body.ints.injEq, SV.ptr.injEq, SV.sl.injEq, Value.string.injEq, Value.bool.injEq, List.map_cons, List.map_nil, forall_const, Nat.reduceLT, Nat.lt_add_one, imp_self, true_and, and_true, and_self, ob_some, get_mk, lk_cons, ↓reduceIte, Nat.reduceEqDiff, ne_eq, not_true_eq_false, not_false_eq_true, Nat.one_ne_zero, Nat.zero_ne_one, Nat.succ_ne_self, Nat.reduceAdd, Bool.false_eq_true, false_implies, implies_true, reduceCtorEq, stopT]
          repeat' (first | rfl | apply And.intro)
        have d2 : decide (e = 0) = true := decide_eq_true d1
        rw [if_neg (by simp [d1])] at hT
        simp -implicitDefEqProofs only [go_sem, d2, w2]
        obtain ⟨⟨e1, d1⟩, hq⟩ : ∃ p, Sl.swR T1.bs T1.r (1 - (stQ T.C.now).cf) ver I T1.d = p := ⟨_, rfl⟩
        have hw : wtB (1 - (stQ T.C.now).cf) ver I T1 = (e1, { T1 with d := d1 }) := by unfold wtB; simp only [hq]
        have hKw : BtK { T1 with d := d1 } m ((t + 133) + 133) := by have := wtB_k (slot := 1 - (stQ T.C.now).cf) (ver := ver) (I := I) hK1 (by omega); rw [hw] at this; exact this
        refine at_call tSWrite (Sl.swriteS (q := 3) (i := 4) (a := 11) (b := 12) (c := 13) (d := T1.d) hK1.bs hK1.r (by rfl) ⟨by rfl, by rfl, by rfl, by rfl, by decide⟩ (by decide) hK1.P hK1.t (by decide) hq) ?_
        rw [Sl.devN_eq]
        simp -implicitDefEqProofs only [go_sem]
        by_cases g1 : e1 = 0
        · have b1 : decide (e1 = 0) = true := decide_eq_true g1
          simp -implicitDefEqProofs only [go_sem, b1, w2, splice_zero, splice_succ, List.drop_succ_cons, List.drop_zero, List.drop_nil, List.cons_append, List.nil_append, List.take_succ_cons, List.take_zero, List.length_cons, List.length_nil]
          rw [show inR ver I tries T = kpR ⟨(stQ T.C.now).cf, 1 - (stQ T.C.now).cf, tries, (stQ T.C.now).fl⟩ { T1 with d := d1 } by rw [hT]; unfold tlR; rw [hw, if_neg (by simp [g1])]]
          obtain ⟨⟨e2, T2⟩, hk2⟩ : ∃ p, kpR ⟨(stQ T.C.now).cf, 1 - (stQ T.C.now).cf, tries, (stQ T.C.now).fl⟩ { T1 with d := d1 } = p := ⟨_, rfl⟩
          rw [hk2]
          refine at_call tBkeep (keepS (T := { T1 with d := d1 }) (k := ⟨(stQ T.C.now).cf, 1 - (stQ T.C.now).cf, tries, (stQ T.C.now).fl⟩) (i := 1) (q := 2) (s := 3) (D := 4) (a := 16) (b := 17) (c := 18) (M := 14) (W := 15) ⟨by rfl, by rfl, by rfl, by rfl, by rfl, by rfl, by rfl, by rfl, by rfl, by decide, by rfl, by rfl⟩ hKw hx (by decide) hk2) ?_
          rw [btF_eq]
          unfold btB
          simp -implicitDefEqProofs only [go_sem]
          unfold btN btB
          refine sub_mk [(10, 19), (11, 20), (12, 21), (13, 22), (14, 23)] rfl rfl rfl ?_
          simp only [tmSub, hpSub, objSub, eqTm, eqHp, rn, lk, SV.ren, SV.renC, SV.renB, SV.renA, ren_ints, ren_strs, ren_pl, ren_svs, SV.v.injEq, Value.int.injEq, Body.ints.injEq, SV.ptr.injEq, SV.sl.injEq, Value.string.injEq, Value.bool.injEq, List.map_cons, List.map_nil, forall_const, Nat.reduceLT, Nat.lt_add_one, imp_self, true_and, and_true, and_self, ob_some, get_mk, lk_cons, ↓reduceIte, Nat.reduceEqDiff, ne_eq, not_true_eq_false, not_false_eq_true, Nat.one_ne_zero, Nat.zero_ne_one, Nat.succ_ne_self, Nat.reduceAdd, Bool.false_eq_true, false_implies, implies_true, reduceCtorEq, stopT]
          repeat' (first | rfl | apply And.intro)
        · have b1 : decide (e1 = 0) = false := decide_eq_false g1
          rw [show inR ver I tries T = (e1, { T1 with d := d1 }) by rw [hT]; unfold tlR; rw [hw, if_pos g1]]
          simp -implicitDefEqProofs only [go_sem, b1]
          unfold btN btB
          refine sub_mk [(10, 16), (11, 17), (12, 18), (13, 14), (14, 15)] rfl rfl rfl ?_
          simp only [tmSub, hpSub, objSub, eqTm, eqHp, rn, lk, SV.ren, SV.renC, SV.renB, SV.renA, ren_ints, ren_strs, ren_pl, ren_svs, SV.v.injEq, Value.int.injEq, Body.ints.injEq, SV.ptr.injEq, SV.sl.injEq, Value.string.injEq, Value.bool.injEq, List.map_cons, List.map_nil, forall_const, Nat.reduceLT, Nat.lt_add_one, imp_self, true_and, and_true, and_self, ob_some, get_mk, lk_cons, ↓reduceIte, Nat.reduceEqDiff, ne_eq, not_true_eq_false, not_false_eq_true, Nat.one_ne_zero, Nat.zero_ne_one, Nat.succ_ne_self, Nat.reduceAdd, Bool.false_eq_true, false_implies, implies_true, reduceCtorEq, stopT]
          repeat' (first | rfl | apply And.intro)
  · have o0 : T.on = false := by simpa using o1
    simp -implicitDefEqProofs only [go_sem, o0]
    have hH : haltT (1 - (stQ T.C.now).cf) T = T := if_neg fun h => o1 h.1
    refine at_call tBsettled (settledS (k := stQ T.C.now) hx) ?_
    unfold sqV sqL
    simp -implicitDefEqProofs only [go_sem, splice_zero, splice_succ, List.drop_succ_cons, List.drop_zero, List.drop_nil, List.cons_append, List.nil_append, List.take_succ_cons, List.take_zero, List.length_cons, List.length_nil]
    by_cases k1 : (stQ T.C.now).tr = -1 ∧ (stQ T.C.now).lf = 0
    · have u1 : decide ((stQ T.C.now).tr = -1) = true := decide_eq_true k1.1
      have u2 : decide ((stQ T.C.now).lf = 0) = true := decide_eq_true k1.2
      have u3 : decide ((stQ T.C.now).cf = (stQ T.C.now).cf) = true := decide_eq_true rfl
      have u4 : decide ((stQ T.C.now).fl = (stQ T.C.now).fl) = true := decide_eq_true rfl
      simp -implicitDefEqProofs only [go_sem, u1, u2, u3, u4, w2, splice_zero, splice_succ, List.drop_succ_cons, List.drop_zero, List.drop_nil, List.cons_append, List.nil_append, List.take_succ_cons, List.take_zero, List.length_cons, List.length_nil]
      have hT : inR ver I tries T = tlR (stQ T.C.now) ver I tries T := by unfold inR; rw [if_neg (by simp [hE])]; simp only [if_pos k1]; rw [hH]
      obtain ⟨⟨e1, d1⟩, hq⟩ : ∃ p, Sl.swR T.bs T.r (1 - (stQ T.C.now).cf) ver I T.d = p := ⟨_, rfl⟩
      have hw : wtB (1 - (stQ T.C.now).cf) ver I T = (e1, { T with d := d1 }) := by unfold wtB; simp only [hq]
      have hKw : BtK { T with d := d1 } m (t + 133) := by have := wtB_k (slot := 1 - (stQ T.C.now).cf) (ver := ver) (I := I) hK (by omega); rw [hw] at this; exact this
      refine at_call tSWrite (Sl.swriteS (q := 3) (i := 4) (a := 5) (b := 6) (c := 7) (d := T.d) hK.bs hK.r (by rfl) ⟨by rfl, by rfl, by rfl, by rfl, by decide⟩ (by decide) hK.P hK.t (by decide) hq) ?_
      rw [Sl.devN_eq]
      simp -implicitDefEqProofs only [go_sem]
      by_cases g1 : e1 = 0
      · have b1 : decide (e1 = 0) = true := decide_eq_true g1
        simp -implicitDefEqProofs only [go_sem, b1, w2, splice_zero, splice_succ, List.drop_succ_cons, List.drop_zero, List.drop_nil, List.cons_append, List.nil_append, List.take_succ_cons, List.take_zero, List.length_cons, List.length_nil]
        rw [show inR ver I tries T = kpR ⟨(stQ T.C.now).cf, 1 - (stQ T.C.now).cf, tries, (stQ T.C.now).fl⟩ { T with d := d1 } by rw [hT]; unfold tlR; rw [hw, if_neg (by simp [g1])]]
        obtain ⟨⟨e2, T2⟩, hk2⟩ : ∃ p, kpR ⟨(stQ T.C.now).cf, 1 - (stQ T.C.now).cf, tries, (stQ T.C.now).fl⟩ { T with d := d1 } = p := ⟨_, rfl⟩
        rw [hk2]
        refine at_call tBkeep (keepS (T := { T with d := d1 }) (k := ⟨(stQ T.C.now).cf, 1 - (stQ T.C.now).cf, tries, (stQ T.C.now).fl⟩) (i := 1) (q := 2) (s := 3) (D := 4) (a := 11) (b := 12) (c := 13) (M := 8) (W := 9) ⟨by unfold btB; rw [o0]; rfl, by rfl, by rfl, by rfl, by rfl, by rfl, by rfl, by rfl, by rfl, by decide, by rfl, by rfl⟩ hKw hx (by decide) hk2) ?_
        rw [btF_eq]
        unfold btB
        simp -implicitDefEqProofs only [go_sem]
        unfold btN btB
        refine sub_mk [(10, 14), (11, 15), (12, 16), (13, 17), (14, 18)] rfl rfl rfl ?_
        simp only [tmSub, hpSub, objSub, eqTm, eqHp, rn, lk, SV.ren, SV.renC, SV.renB, SV.renA, ren_ints, ren_strs, ren_pl, ren_svs, SV.v.injEq, Value.int.injEq, Body.ints.injEq, SV.ptr.injEq, SV.sl.injEq, Value.string.injEq, Value.bool.injEq, List.map_cons, List.map_nil, forall_const, Nat.reduceLT, Nat.lt_add_one, imp_self, true_and, and_true, and_self, ob_some, get_mk, lk_cons, ↓reduceIte, Nat.reduceEqDiff, ne_eq, not_true_eq_false, not_false_eq_true, Nat.one_ne_zero, Nat.zero_ne_one, Nat.succ_ne_self, Nat.reduceAdd, Bool.false_eq_true, false_implies, implies_true, reduceCtorEq, stopT]
        repeat' (first | rfl | apply And.intro)
      · have b1 : decide (e1 = 0) = false := decide_eq_false g1
        rw [show inR ver I tries T = (e1, { T with d := d1 }) by rw [hT]; unfold tlR; rw [hw, if_pos g1]]
        simp -implicitDefEqProofs only [go_sem, b1]
        unfold btN btB
        rw [o0]
        refine sub_mk [(10, 11), (11, 12), (12, 13), (13, 8), (14, 9)] rfl rfl rfl ?_
        simp only [tmSub, hpSub, objSub, eqTm, eqHp, rn, lk, SV.ren, SV.renC, SV.renB, SV.renA, ren_ints, ren_strs, ren_pl, ren_svs, SV.v.injEq, Value.int.injEq, Body.ints.injEq, SV.ptr.injEq, SV.sl.injEq, Value.string.injEq, Value.bool.injEq, List.map_cons, List.map_nil, forall_const, Nat.reduceLT, Nat.lt_add_one, imp_self, true_and, and_true, and_self, ob_some, get_mk, lk_cons, ↓reduceIte, Nat.reduceEqDiff, ne_eq, not_true_eq_false, not_false_eq_true, Nat.one_ne_zero, Nat.zero_ne_one, Nat.succ_ne_self, Nat.reduceAdd, Bool.false_eq_true, false_implies, implies_true, reduceCtorEq, stopT]
        repeat' (first | rfl | apply And.intro)
    · have u1 : (decide ((stQ T.C.now).tr = -1) && decide ((stQ T.C.now).lf = 0)) = false := by
        rw [Bool.eq_false_iff]; intro h; simp only [Bool.and_eq_true, decide_eq_true_eq] at h; exact k1 h
      simp -implicitDefEqProofs only [go_sem, u1, splice_zero, splice_succ, List.drop_succ_cons, List.drop_zero, List.drop_nil, List.cons_append, List.nil_append, List.take_succ_cons, List.take_zero, List.length_cons, List.length_nil]
      refine at_call tBsettled (settledS (k := stQ T.C.now) hx) ?_
      unfold sqV sqL
      simp -implicitDefEqProofs only [go_sem, splice_zero, splice_succ, List.drop_succ_cons, List.drop_zero, List.drop_nil, List.cons_append, List.nil_append, List.take_succ_cons, List.take_zero, List.length_cons, List.length_nil]
      obtain ⟨⟨e, T1⟩, hk⟩ : ∃ p, kpR (sdQ (stQ T.C.now)) T = p := ⟨_, rfl⟩
      have hkk := kpR_k (k := sdQ (stQ T.C.now)) hK (by omega) hnum
      rw [hk] at hkk
      obtain ⟨hK1, _, hb1, hb2⟩ := hkk
      have hT : inR ver I tries T = if e ≠ 0 then (e, T1) else tlR (stQ T.C.now) ver I tries T1 := by unfold inR; rw [if_neg (by simp [hE])]; simp only [if_neg k1]; rw [hH]; rw [hk]
      refine at_call tBkeep (keepS (T := T) (k := sdQ (stQ T.C.now)) (i := 1) (q := 2) (s := 3) (D := 4) (a := 5) (b := 6) (c := 7) (M := 8) (W := 9) ⟨by unfold btB; rw [o0]; rfl, by rfl, by rfl, by rfl, by rfl, by rfl, by rfl, by rfl, by rfl, by decide, by rfl, by rfl⟩ hK hx (by decide) hk) ?_
      rw [btF_eq]
      unfold btB
      simp -implicitDefEqProofs only [go_sem]
      by_cases d1 : e = 0
      case neg =>
        have k1 : decide (e = 0) = false := decide_eq_false d1
        simp -implicitDefEqProofs only [go_sem, k1]
        rw [hT, if_pos d1]
        unfold btN btB
        refine sub_mk [(10, 11), (11, 12), (12, 13), (13, 14), (14, 15)] rfl rfl rfl ?_
        simp only [tmSub, hpSub, objSub, eqTm, eqHp, rn, lk, SV.ren, SV.renC, SV.renB, SV.renA, ren_ints, ren_strs, ren_pl, ren_svs, SV.v.injEq, Value.int.injEq, Body.ints.injEq, SV.ptr.injEq, SV.sl.injEq, Value.string.injEq, Value.bool.injEq, List.map_cons, List.map_nil, forall_const, Nat.reduceLT, Nat.lt_add_one, imp_self, true_and, and_true, and_self, ob_some, get_mk, lk_cons, ↓reduceIte, Nat.reduceEqDiff, ne_eq, not_true_eq_false, not_false_eq_true, Nat.one_ne_zero, Nat.zero_ne_one, Nat.succ_ne_self, Nat.reduceAdd, Bool.false_eq_true, false_implies, implies_true, reduceCtorEq, stopT]
        repeat' (first | rfl | apply And.intro)
      have d2 : decide (e = 0) = true := decide_eq_true d1
      rw [if_neg (by simp [d1])] at hT
      simp -implicitDefEqProofs only [go_sem, d2, w2]
      obtain ⟨⟨e1, d1⟩, hq⟩ : ∃ p, Sl.swR T1.bs T1.r (1 - (stQ T.C.now).cf) ver I T1.d = p := ⟨_, rfl⟩
      have hw : wtB (1 - (stQ T.C.now).cf) ver I T1 = (e1, { T1 with d := d1 }) := by unfold wtB; simp only [hq]
      have hKw : BtK { T1 with d := d1 } m ((t + 133) + 133) := by have := wtB_k (slot := 1 - (stQ T.C.now).cf) (ver := ver) (I := I) hK1 (by omega); rw [hw] at this; exact this
      refine at_call tSWrite (Sl.swriteS (q := 3) (i := 4) (a := 11) (b := 12) (c := 13) (d := T1.d) hK1.bs hK1.r (by rfl) ⟨by rfl, by rfl, by rfl, by rfl, by decide⟩ (by decide) hK1.P hK1.t (by decide) hq) ?_
      rw [Sl.devN_eq]
      simp -implicitDefEqProofs only [go_sem]
      by_cases g1 : e1 = 0
      · have b1 : decide (e1 = 0) = true := decide_eq_true g1
        simp -implicitDefEqProofs only [go_sem, b1, w2, splice_zero, splice_succ, List.drop_succ_cons, List.drop_zero, List.drop_nil, List.cons_append, List.nil_append, List.take_succ_cons, List.take_zero, List.length_cons, List.length_nil]
        rw [show inR ver I tries T = kpR ⟨(stQ T.C.now).cf, 1 - (stQ T.C.now).cf, tries, (stQ T.C.now).fl⟩ { T1 with d := d1 } by rw [hT]; unfold tlR; rw [hw, if_neg (by simp [g1])]]
        obtain ⟨⟨e2, T2⟩, hk2⟩ : ∃ p, kpR ⟨(stQ T.C.now).cf, 1 - (stQ T.C.now).cf, tries, (stQ T.C.now).fl⟩ { T1 with d := d1 } = p := ⟨_, rfl⟩
        rw [hk2]
        refine at_call tBkeep (keepS (T := { T1 with d := d1 }) (k := ⟨(stQ T.C.now).cf, 1 - (stQ T.C.now).cf, tries, (stQ T.C.now).fl⟩) (i := 1) (q := 2) (s := 3) (D := 4) (a := 16) (b := 17) (c := 18) (M := 14) (W := 15) ⟨by rfl, by rfl, by rfl, by rfl, by rfl, by rfl, by rfl, by rfl, by rfl, by decide, by rfl, by rfl⟩ hKw hx (by decide) hk2) ?_
        rw [btF_eq]
        unfold btB
        simp -implicitDefEqProofs only [go_sem]
        unfold btN btB
        refine sub_mk [(10, 19), (11, 20), (12, 21), (13, 22), (14, 23)] rfl rfl rfl ?_
        simp only [tmSub, hpSub, objSub, eqTm, eqHp, rn, lk, SV.ren, SV.renC, SV.renB, SV.renA, ren_ints, ren_strs, ren_pl, ren_svs, SV.v.injEq, Value.int.injEq, Body.ints.injEq, SV.ptr.injEq, SV.sl.injEq, Value.string.injEq, Value.bool.injEq, List.map_cons, List.map_nil, forall_const, Nat.reduceLT, Nat.lt_add_one, imp_self, true_and, and_true, and_self, ob_some, get_mk, lk_cons, ↓reduceIte, Nat.reduceEqDiff, ne_eq, not_true_eq_false, not_false_eq_true, Nat.one_ne_zero, Nat.zero_ne_one, Nat.succ_ne_self, Nat.reduceAdd, Bool.false_eq_true, false_implies, implies_true, reduceCtorEq, stopT]
        repeat' (first | rfl | apply And.intro)
      · have b1 : decide (e1 = 0) = false := decide_eq_false g1
        rw [show inR ver I tries T = (e1, { T1 with d := d1 }) by rw [hT]; unfold tlR; rw [hw, if_pos g1]]
        simp -implicitDefEqProofs only [go_sem, b1]
        unfold btN btB
        refine sub_mk [(10, 16), (11, 17), (12, 18), (13, 14), (14, 15)] rfl rfl rfl ?_
        simp only [tmSub, hpSub, objSub, eqTm, eqHp, rn, lk, SV.ren, SV.renC, SV.renB, SV.renA, ren_ints, ren_strs, ren_pl, ren_svs, SV.v.injEq, Value.int.injEq, Body.ints.injEq, SV.ptr.injEq, SV.sl.injEq, Value.string.injEq, Value.bool.injEq, List.map_cons, List.map_nil, forall_const, Nat.reduceLT, Nat.lt_add_one, imp_self, true_and, and_true, and_self, ob_some, get_mk, lk_cons, ↓reduceIte, Nat.reduceEqDiff, ne_eq, not_true_eq_false, not_false_eq_true, Nat.one_ne_zero, Nat.zero_ne_one, Nat.succ_ne_self, Nat.reduceAdd, Bool.false_eq_true, false_implies, implies_true, reduceCtorEq, stopT]
        repeat' (first | rfl | apply And.intro)
end
end Go.Sx
/- Boot: plain laws, where the power doesn't go. -/
set_option linter.unusedVariables false
set_option linter.unusedSimpArgs false
set_option maxRecDepth 100000
namespace Go.Sx
open Go.Proofs
variable {H : Hp} {n : Nat} {x : Nat → Option SO} {i q s D M W a b c : Nat} {d d' : Fd} {C C' : Ce} {T : Bt}
theorem GoodP.sl {f0 : Bool} {m : Nat} {st : Int} {X : List (List Int)} {Y : List (Nat × List Int)} (g : GoodP f0 m st X Y d) : Sl.GoodP f0 m st X Y d := ⟨g.off, g.safe, g.pend, g.sn, g.len, g.st, g.fa⟩
theorem Sl.GoodP.ce {f0 : Bool} {m : Nat} {st : Int} {X : List (List Int)} {Y : List (Nat × List Int)} (g : Sl.GoodP f0 m st X Y d) : Go.Sx.GoodP f0 m st X Y d := ⟨g.off, g.safe, g.pend, g.sn, g.len, g.st, g.fa⟩
def atN (bs r : Nat) (slot : Int) : Nat := if slot = 1 then bs + (1 + r) else bs
theorem atV_n {bs r : Nat} {slot : Int} (h : Sl.slOK slot = true) : Sl.atV bs r slot = atN bs r slot := by
  unfold Sl.slOK at h
  rcases of_decide_eq_true h with rfl | rfl <;> simp [Sl.atV, atN]
theorem atN_le {bs r : Nat} {slot : Int} : bs ≤ atN bs r slot ∧ atN bs r slot ≤ bs + (1 + r) := by unfold atN; split <;> omega
theorem slOK_cases {slot : Int} (h : Sl.slOK slot = true) : slot = 0 ∨ slot = 1 := of_decide_eq_true h
structure BI (T : Bt) (m t N : Nat) : Prop where
  g : ∃ st, GoodP true m st T.d.seen [] T.d
  reg : Reg T.d.seen T.C.base T.C.half T.C.num T.C.last T.C.now
  dead : T.C.dead = false
  K : BtK T m t
  bs : T.bs = T.C.base + 2 * T.C.half
  num : T.C.num ≤ N
theorem BI.off {m t N : Nat} (h : BI T m t N) : T.d.off = false := by obtain ⟨st, g⟩ := h.g; exact g.off
def sv (T : Bt) (slot : Int) : RdV := Sl.srT T.bs T.r slot T.d
theorem st4_enc {k : Sq} : (encB (kv boot4 (st4 k))).size = 14 := by rw [kv_size, st4_size]; rfl
theorem kp_good {m t N : Nat} {k : Sq} (h : BI T m t N) (ht : t + 1133 < 1000000) (hN : N < 254) :
    ∃ T', kpR k T = (0, T') ∧ BI T' m (t + 133) (N + 1) ∧ T'.C.now = kv boot4 (st4 k) ∧ (∀ slot, Sl.slOK slot = true → sv T' slot = sv T slot) ∧ T'.on = T.on ∧ T'.slot = T.slot ∧ T'.ver = T.ver ∧ T'.r = T.r ∧ T'.bs = T.bs ∧ T'.C.base = T.C.base ∧ T'.C.half = T.C.half := by
  obtain ⟨st, g⟩ := h.g
  have hC := h.K.C
  have hI : (encB (kpC k T.C).now).size ≤ 64 * ((kpC k T.C).half - 1) := by
    show (encB (kv boot4 (st4 k))).size ≤ 64 * (T.C.half - 1)
    rw [st4_enc]; have := hC.half; omega
  obtain ⟨d1, h1, h2⟩ := coR_good (C := kpC k T.C) h.dead hC.half.1 hI g h.K.clen hC.last
  have hk : kpR k T = (0, { T with C := { (kpC k T.C) with last := 1 - T.C.last, num := T.C.num + 1, was := (kpC k T.C).now }, d := d1 }) := by
    unfold kpR kpF; rw [h1]; rfl
  have hK := (kpR_k (k := k) h.K ht (by have := h.num; omega)).1
  rw [hk] at hK
  have hs := h2.seen'
  have hl := h.K.clen
  have hsl : T.d.seen.length = m := g.len
  have hreg := h.reg.done (es := kv boot4 (st4 k)) (by rw [hsl]; exact hl) hC.half.1 hI (by have := h.num; omega) (kv4_es (by rw [st4_size]; decide))
  have hreg' : Reg d1.seen T.C.base T.C.half (T.C.num + 1) (1 - T.C.last) (kv boot4 (st4 k)) := by rw [hs]; exact hreg
  refine ⟨_, hk, ⟨⟨_, by rw [hs]; exact h2⟩, hreg', h.dead, hK, h.bs, by have := h.num; show T.C.num + 1 ≤ N + 1; omega⟩, rfl, fun slot hsk => ?_, rfl, rfl, rfl, rfl, rfl, rfl, rfl⟩
  refine Sl.srT_congr (a0 := atN T.bs T.r slot) hsk g.off h2.off (atV_n hsk) fun j j1 j2 => ?_
  show d1.seen.getD j [] = T.d.seen.getD j []
  rw [hs]
  refine done_ne (.inr ?_)
  have e1 : nCh (encB (kpC k T.C).now) = 1 := by show nCh (encB (kv boot4 (st4 k))) = 1; unfold nCh; rw [st4_enc]
  rw [e1]
  have e2 : ceTo (kpC k T.C) = T.C.base + (1 - T.C.last) * T.C.half := rfl
  rw [e2]
  have e3 := @atN_le T.bs T.r slot
  have hb := h.bs
  have hh := hC.half.1
  have : T.C.last = 0 ∨ T.C.last = 1 := by have := hC.last; omega
  rcases this with e | e <;> rw [e] <;> omega
def ImOK (v : Nat) (I : ByteArray) (r : Nat) : Prop := (1 ≤ v ∧ v < 256) ∧ 1 ≤ I.size ∧ I.size ≤ 8192 ∧ I.size ≤ r * 64
theorem wt_good {m t N v : Nat} {I : ByteArray} {slot : Int} (h : BI T m t N) (ht : t + 1133 < 1000000) (hs : Sl.slOK slot = true) (hI : ImOK v I T.r) :
    ∃ T', wtB slot v I T = (0, T') ∧ BI T' m (t + 133) N ∧ T'.C = T.C ∧ sv T' slot = (v, I, 0) ∧ (∀ s', Sl.slOK s' = true → s' ≠ slot → sv T' s' = sv T s') ∧ T'.on = T.on ∧ T'.slot = T.slot ∧ T'.ver = T.ver ∧ T'.r = T.r ∧ T'.bs = T.bs := by
  obtain ⟨st, g⟩ := h.g
  obtain ⟨hv, h1, h2, h3⟩ := hI
  have hlen := h.K.len
  have hN : nCh I ≤ T.r := by unfold nCh; omega
  have ha := @atN_le T.bs T.r slot
  have hsl : T.d.seen.length = m := g.len
  have hw := Sl.inv_good (Sl.swR_inv (bs := T.bs) (r := T.r) (a0 := atN T.bs T.r slot) (v := v) (I := I) g.sl (by omega) hs (atV_n hs) hv ⟨h1, h2, h3⟩)
  obtain ⟨⟨e, d1⟩, hq⟩ : ∃ p, Sl.swR T.bs T.r slot v I T.d = p := ⟨_, rfl⟩
  rw [hq] at hw
  obtain ⟨he, h4⟩ := hw
  simp only at he h4
  subst he
  have hk : wtB slot v I T = (0, { T with d := d1 }) := by unfold wtB; rw [hq]
  have hK := wtB_k (slot := slot) (ver := v) (I := I) h.K ht
  rw [hk] at hK
  have hsn := h4.seen
  refine ⟨_, hk, ⟨⟨_, by rw [hsn]; exact h4.ce⟩, ?_, h.dead, hK, h.bs, h.num⟩, rfl, ?_, fun s' hs' hne => ?_, rfl, rfl, rfl, rfl, rfl⟩
  · refine h.reg.congr (by have := h.K.C.half; omega) fun j j1 j2 => ?_
    show d1.seen.getD j [] = _
    rw [hsn]
    exact Sl.done_ne (.inl (by have := h.bs; omega))
  · show Sl.srT T.bs T.r slot d1 = _
    exact Sl.srT_wrote h4 hsl (by omega) hs (atV_n hs) hv ⟨h1, h2, h3⟩
  · refine Sl.srT_congr (a0 := atN T.bs T.r s') hs' g.off h4.off (atV_n hs') fun j j1 j2 => ?_
    show d1.seen.getD j [] = T.d.seen.getD j []
    rw [hsn]
    refine Sl.done_ne ?_
    have hN' : Sl.nCh I ≤ T.r := by unfold Sl.nCh; omega
    rcases slOK_cases hs with rfl | rfl <;> rcases slOK_cases hs' with rfl | rfl
    · exact absurd rfl hne
    · exact .inr (by simp [atN] at j1 j2 ⊢; omega)
    · exact .inl (by simp [atN] at j1 j2 ⊢; omega)
    · exact absurd rfl hne
theorem u8_id {y : Int} (h : 0 ≤ y ∧ y ≤ 255) : IntKind.u8.wrap y = y := wrap_u8r h.1 h.2
def SqOK (k : Sq) : Prop := -1 ≤ k.cf ∧ k.cf ≤ 1 ∧ -1 ≤ k.tr ∧ k.tr ≤ 1 ∧ (k.cf = -1 ∨ k.cf ≠ k.tr) ∧ 0 ≤ k.lf ∧ k.lf ≤ 8 ∧ (k.tr ≠ -1 ∨ k.lf = 0) ∧ 0 ≤ k.fl ∧ k.fl ≤ 255
theorem st4_bts {k : Sq} (h : SqOK k) : bts (st4 k) = [k.cf + 1, k.tr + 1, k.lf, k.fl] := by
  obtain ⟨h1, h2, h3, h4, h5, h6, h7, h8, h9, h10⟩ := h
  unfold st4 st4L
  rw [wrap_i64 (by omega) (by omega), wrap_i64 (by omega) (by omega), u8_id (by omega), u8_id (by omega), u8_id (by omega), u8_id (by omega)]
  refine btx fun y hy => ?_
  simp only [List.mem_cons, List.not_mem_nil, or_false] at hy
  rcases hy with rfl | rfl | rfl | rfl <;> omega
theorem stQ_kv {k : Sq} (h : SqOK k) : stQ (kv boot4 (st4 k)) = k := by
  have hb := st4_bts h
  obtain ⟨h1, h2, h3, h4, h5, h6, h7, h8, h9, h10⟩ := h
  have b0 : bt (st4 k) 0 = k.cf + 1 := by unfold bt; rw [hb]; rfl
  have b1 : bt (st4 k) 1 = k.tr + 1 := by unfold bt; rw [hb]; rfl
  have b2 : bt (st4 k) 2 = k.lf := by unfold bt; rw [hb]; rfl
  have b3 : bt (st4 k) 3 = k.fl := by unfold bt; rw [hb]; rfl
  unfold stQ
  rw [kv_t, if_pos ⟨rfl, st4_size, by rw [b0]; omega, by rw [b1]; omega, by rw [b0, b1]; omega, by rw [b2]; omega, by rw [b1, b2]; omega⟩, b0, b1, b2, b3]
  cases k
  simp
theorem stQ_nil : stQ [] = nthQ := if_neg fun h => by cases h.1
end Go.Sx

/- Boot: calls, where the power doesn't go. -/
set_option linter.unusedVariables false
set_option linter.unusedSimpArgs false
set_option maxRecDepth 100000
namespace Go.Sx
open Go.Proofs
variable {H : Hp} {n : Nat} {x : Nat → Option SO} {i q s D M W a b c : Nat} {d d' : Fd} {C C' : Ce} {T : Bt}
structure Lay (T T' : Bt) : Prop where
  r : T'.r = T.r
  bs : T'.bs = T.bs
def Run (T T' : Bt) : Prop := T'.on = T.on ∧ T'.slot = T.slot ∧ T'.ver = T.ver
theorem BI.stop {m t N : Nat} (h : BI T m t N) : BI (stopT T) m t N := ⟨h.g, h.reg, h.dead, ⟨h.K.C, h.K.P, h.K.t, h.K.bs, h.K.r, h.K.len, h.K.clen⟩, h.bs, h.num⟩
theorem BI.run {m t N v : Nat} {sl : Int} (h : BI T m t N) : BI (runT sl v T) m t N := ⟨h.g, h.reg, h.dead, ⟨h.K.C, h.K.P, h.K.t, h.K.bs, h.K.r, h.K.len, h.K.clen⟩, h.bs, h.num⟩
theorem prov_good {m t N v : Nat} {I : ByteArray} (h : BI T m t N) (ht : t + 1266 < 1000000) (hN : N < 254) (hk : (stQ T.C.now).cf < 0) (hI : ImOK v I T.r) :
    ∃ T', prR v I T = (0, T') ∧ BI T' m (t + 266) (N + 1) ∧ stQ T'.C.now = ⟨0, -1, 0, v⟩ ∧ sv T' 0 = (v, I, 0) ∧ Run T T' ∧ Lay T T' := by
  obtain ⟨T1, p1, p2, p3, p4, p5, p6, p7, p8, p9, p10⟩ := wt_good (slot := 0) h (by omega) rfl hI
  obtain ⟨T2, q1, q2, q3, q4, q5, q6, q7, q8, q9, q10⟩ := kp_good (k := ⟨0, -1, 0, v⟩) p2 (by omega) hN
  have hv := hI.1
  refine ⟨T2, ?_, q2, ?_, ?_, ⟨by rw [q5, p6], by rw [q6, p7], by rw [q7, p8]⟩, ⟨by rw [q8, p9], by rw [q9, p10]⟩⟩
  · unfold prR; rw [if_neg (by omega), p1, if_neg (by simp), q1]
  · rw [q3]; exact stQ_kv ⟨by simp only; omega, by simp only; omega, by simp only; omega, by simp only; omega, .inr (by simp only; omega), by simp only; omega, by simp only; omega, .inr rfl, by simp only; omega, by simp only; omega⟩
  · rw [q4 0 rfl, p4]
theorem inst_good {m t N v : Nat} {I : ByteArray} {tries : Int} {k : Sq} (h : BI T m t N) (ht : t + 1266 < 1000000) (hN : N < 254) (hk : stQ T.C.now = k) (hok : SqOK k) (hc : 0 ≤ k.cf) (htr : k.tr = -1 ∧ k.lf = 0) (he : itE k v I tries T.r = 0)
    (hh : haltT (1 - k.cf) T = T) (hI : ImOK v I T.r) (hr : 1 ≤ tries ∧ tries ≤ 8) :
    ∃ T', inR v I tries T = (0, T') ∧ BI T' m (t + 266) (N + 1) ∧ stQ T'.C.now = ⟨k.cf, 1 - k.cf, tries, k.fl⟩ ∧ sv T' (1 - k.cf) = (v, I, 0) ∧ sv T' k.cf = sv T k.cf ∧ Run T T' ∧ Lay T T' := by
  obtain ⟨o1, o2, o3, o4, o5, o6, o7, o8, o9, o10⟩ := hok
  have hcs : k.cf = 0 ∨ k.cf = 1 := by omega
  have s1 : Sl.slOK (1 - k.cf) = true := by rcases hcs with e | e <;> rw [e] <;> rfl
  have s2 : Sl.slOK k.cf = true := by rcases hcs with e | e <;> rw [e] <;> rfl
  obtain ⟨T1, p1, p2, p3, p4, p5, p6, p7, p8, p9, p10⟩ := wt_good (slot := 1 - k.cf) h (by omega) s1 hI
  obtain ⟨T2, q1, q2, q3, q4, q5, q6, q7, q8, q9, q10⟩ := kp_good (k := ⟨k.cf, 1 - k.cf, tries, k.fl⟩) p2 (by omega) hN
  refine ⟨T2, ?_, q2, ?_, ?_, ?_, ⟨by rw [q5, p6], by rw [q6, p7], by rw [q7, p8]⟩, ⟨by rw [q8, p9], by rw [q9, p10]⟩⟩
  · unfold inR; rw [hk, if_neg (by simp [he])]; simp only [if_pos htr]; rw [hh]; unfold tlR; rw [p1, if_neg (by simp), q1]
  · rw [q3]; exact stQ_kv ⟨by simp only; omega, by simp only; omega, by simp only; omega, by simp only; omega, by simp only; omega, by simp only; omega, by simp only; omega, by simp only; omega, by simp only; omega, by simp only; omega⟩
  · rw [q4 _ s1, p4]
  · rw [q4 _ s2, p5 _ s2 (by omega)]
theorem boot_fine {m t N v : Nat} {I : ByteArray} {k : Sq} (h : BI T m t N) (ht : t + 1133 < 1000000) (hN : N < 254) (hk : stQ T.C.now = k) (hok : SqOK k) (hc : 0 ≤ k.cf) (htr : 0 ≤ k.tr) (hl : 0 < k.lf) (hs : sv T k.tr = (v, I, 0)) (hv : k.fl ≤ v) :
    ∃ T', boR T = ((v, I, 0), T') ∧ BI T' m (t + 133) (N + 1) ∧ stQ T'.C.now = { k with lf := k.lf - 1 } ∧ (∀ s', Sl.slOK s' = true → sv T' s' = sv T s') ∧ (T'.on = true ∧ T'.slot = k.tr ∧ T'.ver = v) ∧ Lay T T' := by
  obtain ⟨o1, o2, o3, o4, o5, o6, o7, o8, o9, o10⟩ := hok
  obtain ⟨T2, q1, q2, q3, q4, q5, q6, q7, q8, q9, q10⟩ := kp_good (k := { k with lf := k.lf - 1 }) h.stop ht hN
  have hf : fineB k (v, I, 0) = true := by
    unfold fineB
    simp only [Bool.and_eq_true, decide_eq_true_eq]
    exact ⟨⟨hl, trivial⟩, hv⟩
  have hs' : Sl.srT (stopT T).bs (stopT T).r k.tr (stopT T).d = (v, I, 0) := hs
  refine ⟨runT k.tr v T2, ?_, q2.run, ?_, fun s' h1 => q4 s' h1, ⟨rfl, rfl, rfl⟩, ⟨q8, q9⟩⟩
  · unfold boR; rw [hk, if_neg (by omega), if_pos htr]; unfold tryR
    simp only [hs', nxQ, hf, if_true, q1]
    rfl
  · show stQ T2.C.now = _
    rw [q3]; exact stQ_kv ⟨by simp only; omega, by simp only; omega, by simp only; omega, by simp only; omega, by simp only; omega, by simp only; omega, by simp only; omega, by simp only; omega, by simp only; omega, by simp only; omega⟩
theorem boot_spent {m t N v : Nat} {I : ByteArray} {k : Sq} (h : BI T m t N) (ht : t + 1133 < 1000000) (hN : N < 254) (hk : stQ T.C.now = k) (hok : SqOK k) (hc : 0 ≤ k.cf) (htr : 0 ≤ k.tr) (hl : k.lf = 0) (hs : sv T k.cf = (v, I, 0)) (hv : k.fl ≤ v) :
    ∃ T', boR T = ((v, I, 0), T') ∧ BI T' m (t + 133) (N + 1) ∧ stQ T'.C.now = sdQ k ∧ (∀ s', Sl.slOK s' = true → sv T' s' = sv T s') ∧ (T'.on = true ∧ T'.slot = k.cf ∧ T'.ver = v) ∧ Lay T T' := by
  obtain ⟨o1, o2, o3, o4, o5, o6, o7, o8, o9, o10⟩ := hok
  have hcs : k.cf = 0 ∨ k.cf = 1 := by omega
  have s2 : Sl.slOK k.cf = true := by rcases hcs with e | e <;> rw [e] <;> rfl
  obtain ⟨T2, q1, q2, q3, q4, q5, q6, q7, q8, q9, q10⟩ := kp_good (k := sdQ k) h.stop ht hN
  have hf : ∀ p, fineB k p = false := fun p => by
    unfold fineB
    rw [hl]; rfl
  have hs' : Sl.srT T2.bs T2.r k.cf T2.d = (v, I, 0) := (q4 _ s2).trans hs
  refine ⟨runT k.cf v T2, ?_, q2.run, ?_, fun s' h1 => q4 s' h1, ⟨rfl, rfl, rfl⟩, ⟨q8, q9⟩⟩
  · unfold boR; rw [hk, if_neg (by omega), if_pos htr]; unfold tryR
    simp only [nxQ, hf, q1, Bool.false_eq_true, if_false, ne_eq, not_true_eq_false]
    unfold finR
    simp only [hs']
    rw [if_neg (by simp), if_neg (by omega)]
  · show stQ T2.C.now = _
    rw [q3]; exact stQ_kv (k := sdQ k) ⟨o1, o2, by simp only [sdQ]; omega, by simp only [sdQ]; omega, by simp only [sdQ]; omega, by simp only [sdQ]; omega, by simp only [sdQ]; omega, .inr rfl, o9, o10⟩
theorem boot_plain {m t N v : Nat} {I : ByteArray} {k : Sq} (h : BI T m t N) (hk : stQ T.C.now = k) (hc : 0 ≤ k.cf) (htr : k.tr < 0) (hs : sv T k.cf = (v, I, 0)) (hv : k.fl ≤ v) :
    boR T = ((v, I, 0), runT k.cf v (stopT T)) := by
  have hs' : Sl.srT (stopT T).bs (stopT T).r k.cf (stopT T).d = (v, I, 0) := hs
  unfold boR; rw [hk, if_neg (by omega), if_neg (by omega)]
  unfold finR
  simp only [hs']
  rw [if_neg (by simp), if_neg (by omega)]
end Go.Sx

/- Boot: Open; the document's example. -/
set_option linter.unusedVariables false
set_option linter.unusedSimpArgs false
set_option maxRecDepth 100000
namespace Go.Sx
attribute [local go_sem ↓] bind_mk intsB_mk strsB_mk svB_mk fnVC ob_some vc_skip vc_exit vc_ret vc_seq vc_block kSeq_normal kSeq_exit kSeq_ret kBlock_normal kBlock_exit kBlock_ret vc_reg vc_regD vc_cond condK_true condK_false vc_loop kLoop_exit kLoop_ret kRoll_normal kRoll_exit kRoll_ret vcOps_nil vcOps_cons gd_bool gd_undef put_some put_none vcT_fin vcT_pure vcT_act vcT_acts vcT_stop stab_none stab_some stabM_nil stabM_cons stabO_ld stabO_ldn stabO_slP stabO_b2s fldOf_ai fldOf_agg fldOf_ait fldOf_aggt intsOf_nil intsOf_cons strsOf_nil strsOf_cons c_omap ob_if lk_nil lk_cons ev_t ev_k z_mov z_pick z_bin z_binA z_binB z_binP z_un z_r2s z_conv z_s2b z_b2s z_mkM z_luM z_upM z_lenM lenMk_mp lenMk_nil plsOf_v z_delM asM_so plV_v plV_agg mpOf_mp mpOf_nil mpUp_mp asM_mp luV_ok luV_v z_allocT aggOf_mk z_boxT z_alloc z_bld z_bldI z_rowI z_rowS z_ld z_ldn z_st z_stn asN_ptr asN_fn z_nilck z_fld z_fadr z_idxA z_idxP z_idxS z_idxV z_slS z_slL z_slP z_mk z_lenS z_lenL z_app appC_ints appC_pl appC_sv appC_strs isS_strs loose_ints loose_pl loose_sv z_slM z_callv callvK_fn callvK_f callvK_yl vc_rangeF rfEnd_eq rfGo_none rfGo_ret rfGo_exit yGo_mk yEnd_n yEnd_r yEnd_e yRdy_mk yMid_n putPs_nil putPs_cons leaf_v leaf_ptr leaf_sl leaf_yl leaf_mp z_appS z_appST z_appZ z_cpyS z_mkfn reps_int reps_str z_rowV z_slnil nilK_zero z_cpy z_call asT_tup z_extT z_box boxOf_ai boxOf_agg boxOf_int boxOf_str boxOf_bool boxOf_ptr boxOf_sl sbin_int sbin_str sbinA_mk ae_nil ae_int ae_str sbinB_mk sbinP_nn sbinP_pn sbinP_np i_add i_sub i_mul i_quo i_rem i_and i_or i_xor i_andNot i_shl i_shr i_eql i_neq i_lss i_leq i_gtr i_geq st_add st_eql st_neq st_lss st_leq st_gtr st_geq bo_eql bo_neq pt_eql pt_neq un_neg un_xor un_not asI_mk asB_mk asS_mk asP_mk asSl_mk asBy_mk bnd_none bnd_some get_mk hput_mk hdel_mk kill_eq wrOf_eq rowOf_eq rsvs_0 rsvs_1 rsvs_2 rsvs_3 rsv_t rsv_c1 rsv_cn nt_v nt_ptr nt_sl nt_agg nt_ai get_ints get_strs get_pl get_sv getN_ints getN_sv set_ints set_strs set_sv setN_ints setN_sv part_ints part_strs part_sv cat_ints cat_strs cat_sv over_ints over_strs over_sv ones_ints ones_strs evs_nil evs_cons condK_eqt condK_eqf det_callP V_ns V_nn V_gs V_gn obC_mk fresh_ev freshT_ev freshR_ev setN_plagg setN_intsv setN_svai setN_svagg over_intsv set_pl setN_pl setN_plai getN_pl getN_strs part_pl cat_pl over_pl over_plints z_mm
attribute [local go_sem] initTm ne_eq not_true_eq_false not_false_eq_true true_and and_true List.length_cons List.length_nil Int.toNat_natCast Nat.add_zero Nat.zero_add Nat.mul_one List.getElem?_cons_zero List.drop_zero List.take_length List.take_succ_cons List.take_zero List.take_nil List.drop_succ_cons Option.map_some Nat.le_refl implies_true List.getElem?_cons_succ decide_true decide_false Bool.not_true Bool.not_false beq_self_eq_true Nat.succ_ne_self Nat.one_ne_zero Nat.zero_ne_one vk_mk hk_mk nk_mk tok_eq plsOf_map intsOf_map bodyOf_pl bodyOf_ints bodyOf_strs bodyOf_sv part_aggv part_agg part_ai part_int part_str part_bool part_sl part_ptr part_nil numsOf_map u_int u_str u_bool u_pnil u_sl u_ptr u_oci u_ocs evq_nil evq_cons fillS_nil fillS_cons u_ocb ones_pl cells_sv cells_ints cells_strs cells_pl smms_nil smms_cons smm_min smm_max plsOf_nil List.nil_append List.all_cons List.all_nil Bool.and_self Bool.true_and Bool.and_true zws_len zw_len zi_len List.set_cons_zero List.set_cons_succ List.flatMap_cons List.flatMap_nil List.append_nil
attribute [local go_sem_proc] Nat.reduceEqDiff Nat.reduceAdd Nat.reduceMul Nat.reduceLT Nat.reduceLeDiff Nat.reduceSub Int.reduceToNat Int.reduceLE Int.reduceLT reduceCtorEq Int.reduceEq Int.reduceGT Int.reduceGE Int.reduceNeg
attribute [local go_sem_proc ↓] reduceIte
section
open Go.Proofs
variable {H : Hp} {n : Nat} {x : Nat → Option SO} {i q s D M W a b c : Nat} {d d' : Fd} {C C' : Ce} {T : Bt}
theorem instS {ver tries : Int} {I : ByteArray} {m t : Nat} (h : BtAt H T i q s D a b c M W) (hK : BtK T m t) (ht : t + 1266 < 1000000) (hnum : T.C.num + 1 < 1000000000000) (hx : NoX H.x) (hn : n + 5 ≤ 1000) {e : Int} {T' : Bt} (hq : inR ver I tries T = (e, T')) : SpecAt Tryz.prog nBInstall [.ptr i 0, .v (.int .i64 ver), .v (.string I), .v (.int .i64 tries)] H n (.v (.int .i64 e)) ⟨btF T' i q s D a b c M W n H.l, H.x⟩ (n + 5) := by
  have e1 : (inR ver I tries T).1 = e := by rw [hq]
  have e2 : (inR ver I tries T).2 = T' := by rw [hq]
  subst e1; subst e2
  have := lift (n := n) (okT.spec tBInstall (instW (x := H.x) (T := T) (ver := ver) (I := I) (tries := tries) hK ht hnum hx)) (btP i q s D a b c M W) rfl rfl rfl (by omega) rfl rfl h.sub h.ap h.nz (by omega)
  exact this
def opnT (B h r N L : Nat) (es : List (Value × Value)) (d : Fd) : Bt := ⟨⟨B, h, N, L, false, es, es⟩, d, B + 2 * h, r, false, 0, 0⟩
def opnL (T : Bt) : List (Nat × Option SO) := devL T.d 1 2 3 4 [(5, some ⟨true, btB T 6 7⟩), (6, some ⟨true, cellB T.C 1 8 9⟩), (7, some ⟨true, Sl.slB 1 T.bs T.r⟩), (8, some ⟨true, .mp (.map T.C.now)⟩), (9, some ⟨true, .mp (.map T.C.was)⟩)]
theorem bopenW {B h r N L : Nat} {es es' : List (Value × Value)} (hB : B ≤ 4096) (hh : 2 ≤ h ∧ h ≤ 129) (hd : d.ok) (ho : d.off = false) (hP : Sl.opP d.seen.length ((B + 2 * h : Nat) : Int) r) (g : Reg d.seen B h N L es) (he : srtE es = es') :
    fnVC CT mBOpen [.ptr 1 0, .v (.int .i64 B), .v (.int .i64 h), .v (.int .i64 r)] ⟨devL d 1 2 3 4 [], x⟩ 5 fun v H' n' => Sub 5 ⟨[(0, .tup [.ptr 5 0, .v (.int .i64 0)])], ⟨opnL (opnT B h r N L es' d), x⟩, 10⟩ ⟨[(0, v)], H', n'⟩ := by
  have hP' := hP
  unfold Sl.opP at hP'
  have w1 : IntKind.i64.wrap (2 * (h : Int)) = ((2 * h : Nat) : Int) := by rw [wrap_i64 (by omega) (by omega)]; omega
  have w2 : IntKind.i64.wrap ((B : Int) + ((2 * h : Nat) : Int)) = ((B + 2 * h : Nat) : Int) := by rw [wrap_i64 (by omega) (by omega)]; omega
  unfold mBOpen devL
  simp -implicitDefEqProofs only [↓fnVC, initTm]
  simp -implicitDefEqProofs only [go_sem]
  refine at_call tCOpen (openR (i := 1) (a := 2) (b := 3) (c := 4) (d := d) ⟨by rfl, by rfl, by rfl, by rfl, by decide⟩ hB hh hd ho (by omega) g he (by decide)) ?_
  simp -implicitDefEqProofs only [go_sem, w1, w2]
  refine at_call tSOpen (Sl.openS (i := 1) (a := 2) (b := 3) (c := 4) (d := d) ⟨by rfl, by rfl, by rfl, by rfl, by decide⟩ hd.most hP ho (by decide)) ?_
  rw [devL_eq]
  simp -implicitDefEqProofs only [go_sem, splice_zero, splice_succ, List.drop_succ_cons, List.drop_zero, List.drop_nil, List.cons_append, List.nil_append, List.take_succ_cons, List.take_zero, List.length_cons, List.length_nil]
  unfold opnL opnT btB devL
  refine sub_mk [(5, 9), (6, 5), (7, 8), (8, 6), (9, 7)] rfl rfl rfl ?_
  simp only [tmSub, hpSub, objSub, eqTm, eqHp, rn, lk, SV.ren, SV.renC, SV.renB, SV.renA, ren_ints, ren_strs, ren_pl, ren_svs, SV.v.injEq, Value.int.injEq, Body.ints.injEq, SV.ptr.injEq, SV.sl.injEq, Value.string.injEq, Value.bool.injEq, List.map_cons, List.map_nil, forall_const, Nat.reduceLT, Nat.lt_add_one, imp_self, true_and, and_true, and_self, ob_some, get_mk, lk_cons, ↓reduceIte, Nat.reduceEqDiff, ne_eq, not_true_eq_false, not_false_eq_true, Nat.one_ne_zero, Nat.zero_ne_one, Nat.succ_ne_self, Nat.reduceAdd, Bool.false_eq_true, false_implies, implies_true, reduceCtorEq]
  repeat' (first | rfl | apply And.intro)
theorem bopenS {B h r N L : Nat} {es es' : List (Value × Value)} (hD : DevAt H d i a b c) (hB : B ≤ 4096) (hh : 2 ≤ h ∧ h ≤ 129) (hd : d.ok) (ho : d.off = false) (hP : Sl.opP d.seen.length ((B + 2 * h : Nat) : Int) r) (g : Reg d.seen B h N L es) (he : srtE es = es') (hn : n + 5 ≤ 1000) :
    SpecAt Tryz.prog nBOpen [.ptr i 0, .v (.int .i64 B), .v (.int .i64 h), .v (.int .i64 r)] H n (.tup [.ptr n 0, .v (.int .i64 0)]) ⟨devL d i a b c ((n, some ⟨true, btB (opnT B h r N L es' d) (n + 1) (n + 2)⟩) :: (n + 1, some ⟨true, cellB (opnT B h r N L es' d).C i (n + 3) (n + 4)⟩) :: (n + 2, some ⟨true, Sl.slB i (opnT B h r N L es' d).bs r⟩) :: (n + 3, some ⟨true, .mp (.map es')⟩) :: (n + 4, some ⟨true, .mp (.map es')⟩) :: H.l), H.x⟩ (n + 5) := by
  obtain ⟨hi, ha, hb, hc, ⟨p1, p2, p3, p4⟩, ⟨q1, q2, q3, q4⟩, n1, n2, n3, n4, n5, n6⟩ := hD
  have := lift (n := n) (okT.spec tBOpen (bopenW (x := H.x) hB hh hd ho hP g he)) [(1, i), (2, a), (3, b), (4, c)] rfl rfl rfl (by omega) rfl rfl
    ⟨sub_wr rfl p1 q1 hi rfl, sub_wr rfl p2 q2 ha rfl, sub_wr rfl p3 q3 hb rfl, sub_wr rfl p4 q4 hc rfl, trivial⟩
    (by simp [devL, apartB, apart1, rn, lk, n1, n2, n3, n4, n5, n6, Ne.symm n1, Ne.symm n2, Ne.symm n3, Ne.symm n4, Ne.symm n5, Ne.symm n6]) (by simp [devL, wrNZ, rn, lk]; omega) (by omega)
  exact this
end
end Go.Sx