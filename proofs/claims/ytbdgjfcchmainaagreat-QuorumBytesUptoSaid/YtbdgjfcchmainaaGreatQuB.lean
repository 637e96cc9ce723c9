/- The document's one-time signatures. -/
import Derived.Test.YtbdgjfcchmainaaGreatQuA

set_option linter.unusedVariables false
set_option linter.unusedSimpArgs false
set_option maxRecDepth 100000
namespace Go.Sx
attribute [local go_sem ↓] bind_mk intsB_mk strsB_mk svB_mk fnVC ob_some vc_skip vc_exit vc_ret vc_seq vc_block kSeq_normal kSeq_exit kSeq_ret kBlock_normal kBlock_exit kBlock_ret vc_reg vc_regD vc_cond condK_true condK_false vc_loop kLoop_exit kLoop_ret kRoll_normal kRoll_exit kRoll_ret vcOps_nil vcOps_cons gd_bool gd_undef put_some put_none vcT_fin vcT_pure vcT_act vcT_acts vcT_stop stab_none stab_some stabM_nil stabM_cons stabO_ld stabO_ldn stabO_slP stabO_b2s fldOf_ai fldOf_agg fldOf_ait fldOf_aggt intsOf_nil intsOf_cons strsOf_nil strsOf_cons c_omap ob_if lk_nil lk_cons ev_t ev_k z_mov z_pick z_bin z_binA z_binB z_binP z_un z_r2s z_conv z_s2b z_b2s z_mkM z_luM z_upM z_lenM lenMk_mp lenMk_nil plsOf_v z_delM asM_so plV_v plV_agg mpOf_mp mpOf_nil mpUp_mp asM_mp luV_ok luV_v z_allocT aggOf_mk z_boxT z_alloc z_bld z_bldI z_rowI z_rowS z_ld z_ldn z_st z_stn asN_ptr asN_fn z_nilck z_fld z_fadr z_idxA z_idxP z_idxS z_idxV z_slS z_slL z_slP z_mk z_lenS z_lenL z_app appC_ints appC_pl appC_sv appC_strs isS_strs loose_ints loose_pl loose_sv z_slM z_callv callvK_fn callvK_f callvK_yl vc_rangeF rfEnd_eq rfGo_none rfGo_ret rfGo_exit yGo_mk yEnd_n yEnd_r yEnd_e yRdy_mk yMid_n putPs_nil putPs_cons leaf_v leaf_ptr leaf_sl leaf_yl leaf_mp z_appS z_appST z_appZ z_cpyS z_mkfn reps_int reps_str z_rowV z_slnil nilK_zero z_cpy z_call asT_tup z_extT z_box boxOf_ai boxOf_agg boxOf_int boxOf_str boxOf_bool boxOf_ptr boxOf_sl sbin_int sbin_str sbinA_mk ae_nil ae_int ae_str sbinB_mk sbinP_nn sbinP_pn sbinP_np i_add i_sub i_mul i_quo i_rem i_and i_or i_xor i_andNot i_shl i_shr i_eql i_neq i_lss i_leq i_gtr i_geq st_add st_eql st_neq st_lss st_leq st_gtr st_geq bo_eql bo_neq pt_eql pt_neq un_neg un_xor un_not asI_mk asB_mk asS_mk asP_mk asSl_mk asBy_mk bnd_none bnd_some get_mk hput_mk hdel_mk kill_eq wrOf_eq rowOf_eq rsvs_0 rsvs_1 rsvs_2 rsvs_3 rsv_t rsv_c1 rsv_cn nt_v nt_ptr nt_sl nt_agg nt_ai get_ints get_strs get_pl get_sv getN_ints getN_sv set_ints set_strs set_sv setN_ints setN_sv part_ints part_strs part_sv cat_ints cat_strs cat_sv over_ints over_strs over_sv ones_ints ones_strs evs_nil evs_cons condK_eqt condK_eqf det_callP V_ns V_nn V_gs V_gn obC_mk fresh_ev freshT_ev freshR_ev setN_plagg setN_intsv setN_svai setN_svagg over_intsv set_pl setN_pl setN_plai getN_pl getN_strs part_pl cat_pl over_pl over_plints z_mm
attribute [local go_sem] initTm ne_eq not_true_eq_false not_false_eq_true true_and and_true List.length_cons List.length_nil Int.toNat_natCast Nat.add_zero Nat.zero_add Nat.mul_one List.getElem?_cons_zero List.drop_zero List.take_length List.take_succ_cons List.take_zero List.take_nil List.drop_succ_cons Option.map_some Nat.le_refl implies_true List.getElem?_cons_succ decide_true decide_false Bool.not_true Bool.not_false beq_self_eq_true Nat.succ_ne_self Nat.one_ne_zero Nat.zero_ne_one vk_mk hk_mk nk_mk tok_eq plsOf_map intsOf_map bodyOf_pl bodyOf_ints bodyOf_strs bodyOf_sv part_aggv part_agg part_ai part_int part_str part_bool part_sl part_ptr part_nil numsOf_map u_int u_str u_bool u_pnil u_sl u_ptr u_oci u_ocs evq_nil evq_cons fillS_nil fillS_cons u_ocb ones_pl cells_sv cells_ints cells_strs cells_pl smms_nil smms_cons smm_min smm_max plsOf_nil List.nil_append List.all_cons List.all_nil Bool.and_self Bool.true_and Bool.and_true zws_len zw_len zi_len List.set_cons_zero List.set_cons_succ List.flatMap_cons List.flatMap_nil List.append_nil
attribute [local go_sem_proc] Nat.reduceEqDiff Nat.reduceAdd Nat.reduceMul Nat.reduceLT Nat.reduceLeDiff Nat.reduceSub Int.reduceToNat Int.reduceLE Int.reduceLT reduceCtorEq Int.reduceEq Int.reduceGT Int.reduceGE Int.reduceNeg
attribute [local go_sem_proc ↓] reduceIte
section
open Go.Proofs
variable {H : Hp} {n : Nat} {x : Nat → Option SO}
theorem numb_two {k : Nat} (hk : k < 2) : tx (numb (k : Int) 2 2) = two k := by
  have : k = 0 ∨ k = 1 := by omega
  rcases this with rfl | rfl <;> rfl
theorem c25S {X : Int} {k : Nat} (hk : 0 < k) (hk2 : k ≤ 8) (hn : n < 1000) : SpecAt Tryz.prog 61 [.sl 0 0 0 1, .v (.int .u64 X), .v (.int .i64 k)] H n (.sl n 0 k 1) (H.put n ⟨true, .ints .u8 (numb X k k)⟩) (n + 1) := by
  refine spec_of_ctr (ok1.tab.f 61) ?_
  show f25 0 0 0 X k H n = _
  unfold f25
  rw [if_pos rfl, if_pos ⟨rfl, rfl, by omega, by omega, hn⟩]
  rfl
theorem rtwoS {k : Nat} (hk : k < 2) : SpecAt Tryz.prog nrNumber [.v (.int .u64 k), .v (.int .i64 2)] H n (.v (.string (two k))) H n := lift_pure (okT.spec trNumber (by
  unfold mrNumber
  simp -implicitDefEqProofs only [↓fnVC, initTm]
  simp -implicitDefEqProofs only [go_sem]
  refine at_call t25 (c25S (X := (k : Int)) (k := 2) (by decide) (by decide) (by decide)) ?_
  have e2 := numb_two hk
  have e3 : (numb (k : Int) 2 2).take 2 = numb (k : Int) 2 2 := List.take_of_length_le (by rw [numb_len]; exact Nat.le_refl _)
  simp -implicitDefEqProofs only [go_sem, e2, e3]
  exact ⟨by rw [numb_len]; decide, sub_val rfl (by decide) (by decide) rfl⟩)) rfl
theorem rlinksS {k i f t : Nat} {s : ByteArray} (hk : k < 2) (hi : i < 18) (hf : f ≤ t) (ht : t ≤ 15) (hs : s.size ≤ 1000) : SpecAt Tryz.prog nrlinks [.v (.int .i64 k), .v (.int .i64 i), .v (.int .i64 f), .v (.int .i64 t), .v (.string s)] H n (.v (.string (chn k i f (t - f) s))) H n := lift_pure (okT.spec trlinks (by
  unfold mrlinks
  simp -implicitDefEqProofs only [↓fnVC, initTm]
  simp -implicitDefEqProofs only [go_sem]
  refine loop_fam (fun c : Nat => f + c ≤ t) (fun c => ⟨[(0, .v (.int .i64 k)), (1, .v (.int .i64 i)), (3, .v (.int .i64 t)), (4, .v (.string (chn k i f c s))), (11, .v (.int .i64 (f + c : Nat)))], ⟨[], H.x⟩, 1⟩) (fun c => t - c) 0 (by omega) ?_ ?_
  · refine sub_mk [] rfl rfl rfl ?_
    simp only [tmSub, hpSub, objSub, eqTm, eqHp, rn, lk, SV.ren, SV.renC, SV.renB, SV.renA, ren_ints, ren_strs, ren_pl, ren_svs, SV.v.injEq, Value.int.injEq, Body.ints.injEq, SV.ptr.injEq, SV.sl.injEq, Value.string.injEq, Value.bool.injEq, List.map_cons, List.map_nil, forall_const, Nat.reduceLT, Nat.lt_add_one, imp_self, true_and, and_true, and_self, ob_some, get_mk, lk_cons, ↓reduceIte, Nat.reduceEqDiff, ne_eq, not_true_eq_false, not_false_eq_true, Nat.one_ne_zero, Nat.zero_ne_one, Nat.succ_ne_self, Nat.reduceAdd, Bool.false_eq_true, false_implies, implies_true, reduceCtorEq]
    exact ⟨rfl, rfl⟩
  · intro c hc
    simp -implicitDefEqProofs only [go_sem]
    refine condK_bb (fun e => ?_) (fun e => ?_)
    · have e1 := of_decide_eq_true e
      have hsz := chn_size k i f c s hs
      have v1 : IntKind.u64.wrap (k : Int) = k := wrap_u64r (by omega) (by omega)
      have v2 : IntKind.u8.wrap (i : Int) = i := wrap_u8r (by omega) (by omega)
      have v3 : IntKind.u8.wrap ((f + c : Nat) : Int) = ((f + c : Nat) : Int) := wrap_u8r (by omega) (by omega)
      simp -implicitDefEqProofs only [go_sem, e, v1, v2, v3]
      and_intros
      all_goals refine at_call trNumber (rtwoS hk) ?_
      all_goals simp -implicitDefEqProofs only [go_sem, v1, v2, v3]
      and_intros
      all_goals refine at_call t13 (rtag_any (ss := [two k, one i, one (f + c), chn k i f c s]) (m := 4) (by rfl) rfl (by decide) (by simp only [List.map_cons, List.map_nil, List.sum_cons, List.sum_nil, two_size, one_size]; omega)) ?_
      all_goals simp -implicitDefEqProofs only [go_sem]
      all_goals
        have h32 := tagH_size 33 [two k, one i, one (f + c), chn k i f c s]
        refine ⟨by rw [h32]; decide, ?_⟩
        have w3 : IntKind.i64.wrap (((f + c : Nat) : Int) + 1) = ((f + (c + 1) : Nat) : Int) := by rw [wrap_i64 (by omega) (by omega)]; omega
        simp -implicitDefEqProofs only [go_sem, w3]
        refine kLoop_mk (c + 1) (by omega) (by omega) ?_
        refine sub_mk [] rfl rfl rfl ?_
        simp only [tmSub, hpSub, objSub, eqTm, eqHp, rn, lk, SV.ren, SV.renC, SV.renB, SV.renA, ren_ints, ren_strs, ren_pl, ren_svs, SV.v.injEq, Value.int.injEq, Body.ints.injEq, SV.ptr.injEq, SV.sl.injEq, Value.string.injEq, Value.bool.injEq, List.map_cons, List.map_nil, forall_const, Nat.reduceLT, Nat.lt_add_one, imp_self, true_and, and_true, and_self, ob_some, get_mk, lk_cons, ↓reduceIte, Nat.reduceEqDiff, ne_eq, not_true_eq_false, not_false_eq_true, Nat.one_ne_zero, Nat.zero_ne_one, Nat.succ_ne_self, Nat.reduceAdd, Bool.false_eq_true, false_implies, implies_true, reduceCtorEq, w3]
        rfl
    · have e1 := of_decide_eq_false e
      have ec : t - f = c := by omega
      simp -implicitDefEqProofs only [go_sem, e]
      refine sub_val rfl (by decide) (by decide) ?_
      rw [ec])) rfl
end
section
/- The document's digits, secrets, Sign, Public. -/
set_option linter.unusedVariables false
set_option linter.unusedSimpArgs false
set_option maxRecDepth 100000
open Go.Proofs
variable {H : Hp} {n : Nat} {x : Nat → Option SO}
theorem bts_ext (s : ByteArray) (a b : Nat) : bts (s.extract a b) = ((bts s).drop a).take (b - a) := by
  simp [bts, ByteArray.data_extract, List.extract_eq_take_drop, List.map_take, List.map_drop]
def sec (seed : ByteArray) (k i : Nat) : ByteArray := (tagH 32 [seed, two k, one i]).extract 0 16
theorem sec_size (seed : ByteArray) (k i : Nat) : (sec seed k i).size = 16 := by
  unfold sec; rw [ext_size _ (by rw [tagH_size]; decide) (by decide)]
theorem rsecS {k i : Nat} {s : ByteArray} (hk : k < 2) (hi : i < 18) (hs : s.size ≤ 1000) : SpecAt Tryz.prog nrsecret [.v (.string s), .v (.int .i64 k), .v (.int .i64 i)] H n (.v (.string (sec s k i))) H n := lift_pure (okT.spec trsecret (by
  unfold mrsecret
  simp -implicitDefEqProofs only [↓fnVC, initTm]
  have v1 : IntKind.u64.wrap (k : Int) = k := wrap_u64r (by omega) (by omega)
  have v2 : IntKind.u8.wrap (i : Int) = i := wrap_u8r (by omega) (by omega)
  simp -implicitDefEqProofs only [go_sem, v1, v2]
  and_intros
  all_goals refine at_call trNumber (rtwoS hk) ?_
  all_goals simp -implicitDefEqProofs only [go_sem, v1, v2]
  all_goals refine at_call t13 (rtag_any (ss := [s, two k, one i]) (m := 3) (by rfl) rfl (by decide) (by simp only [List.map_cons, List.map_nil, List.sum_cons, List.sum_nil, two_size, one_size]; omega)) ?_
  all_goals simp -implicitDefEqProofs only [go_sem]
  all_goals
    have h32 := tagH_size 32 [s, two k, one i]
    refine ⟨by rw [h32]; decide, ?_⟩
    exact sub_val rfl (by decide) (by decide) rfl)) rfl
theorem rdigitsW {s : ByteArray} (hs : s.size ≤ 1000000000) : fnVC CT mrDigits [.v (.string s)] ⟨[], x⟩ 1 fun v H' n' => Sub 1 ⟨[(0, .ai .i64 (dig s))], ⟨[], x⟩, 1⟩ ⟨[(0, v)], H', n'⟩ := by
  unfold mrDigits
  simp -implicitDefEqProofs only [↓fnVC, initTm]
  simp -implicitDefEqProofs only [go_sem]
  refine at_call t13 (rtag_any (ss := [s]) (m := 1) (by rfl) rfl (by decide) (by simp only [List.map_cons, List.map_nil, List.sum_cons, List.sum_nil]; omega)) ?_
  have h32 := tagH_size 34 [s]
  have hd : dig s = dgs (bts ((tagH 34 [s]).extract 0 8)) := rfl
  generalize tagH 34 [s] = T at h32 hd ⊢
  have hb := btsb (T.extract 0 8)
  have hq : ∀ t, t < 8 → (bts T).getD t 0 = (bts (T.extract 0 8)).getD t 0 := fun t ht => by
    rw [bts_ext, List.drop_zero, take_getD (by omega)]
  generalize hY : bts (T.extract 0 8) = ys at hb hd hq ⊢
  simp -implicitDefEqProofs only [go_sem]
  refine loop_fam (fun t : Nat => t ≤ 8) (fun t => ⟨[(2, .ptr 1 0), (3, .v (.string T)), (4, .ptr 2 0), (5, .v (.int .i64 (sP ys t))), (6, .v (.int .i64 t))], ⟨[(1, some ⟨true, .ints .i64 (List.replicate 18 0)⟩), (2, some ⟨true, .ints .i64 (dP ys t)⟩)], x⟩, 3⟩) (fun t => 8 - t) 0 (by omega) ?_ ?_
  · refine sub_mk [(2, 3)] rfl rfl rfl ?_
    simp only [tmSub, hpSub, objSub, eqTm, eqHp, rn, lk, SV.ren, SV.renC, SV.renB, SV.renA, ren_ints, ren_strs, ren_pl, ren_svs, SV.v.injEq, Value.int.injEq, Body.ints.injEq, SV.ptr.injEq, SV.sl.injEq, Value.string.injEq, Value.bool.injEq, List.map_cons, List.map_nil, forall_const, Nat.reduceLT, Nat.lt_add_one, imp_self, true_and, and_true, and_self, ob_some, get_mk, lk_cons, ↓reduceIte, Nat.reduceEqDiff, ne_eq, not_true_eq_false, not_false_eq_true, Nat.one_ne_zero, Nat.zero_ne_one, Nat.succ_ne_self, Nat.reduceAdd, Bool.false_eq_true, false_implies, implies_true, reduceCtorEq]
    exact ⟨⟨rfl, rfl⟩, rfl, rfl⟩
  · intro t ht
    simp -implicitDefEqProofs only [go_sem]
    refine condK_bb (fun e => ?_) (fun e => ?_)
    · have e1 : t < 8 := by have := of_decide_eq_true e; omega
      have hy := hb t
      have hqt := hq t e1
      have a1 : IntKind.i64.wrap (2 * (t : Int)) = ((2 * t : Nat) : Int) := by rw [wrap_i64 (by omega) (by omega)]; omega
      have a2 : IntKind.i64.wrap (((2 * t : Nat) : Int) + 1) = ((2 * t + 1 : Nat) : Int) := by rw [wrap_i64 (by omega) (by omega)]; omega
      have a3 : IntKind.i64.wrap (IntKind.u8.wrap ((ys.getD t 0).tdiv 16)) = ys.getD t 0 / 16 := by
        rw [Int.tdiv_eq_ediv_of_nonneg hy.1, wrap_u8r (by omega) (by omega), wrap_i64 (by omega) (by omega)]
      have a4 : IntKind.i64.wrap ((ys.getD t 0).tmod 16) = ys.getD t 0 % 16 := by
        rw [Int.tmod_eq_emod_of_nonneg hy.1, wrap_i64 (by omega) (by omega)]
      have a5 := dP_succ ys e1
      have a6 : (dP ys (t + 1)).getD (2 * t) 0 = ys.getD t 0 / 16 := by rw [dP_get ys (by omega), if_pos (by omega), if_pos (by omega), show 2 * t / 2 = t by omega]
      have a7 : (dP ys (t + 1)).getD (2 * t + 1) 0 = ys.getD t 0 % 16 := by rw [dP_get ys (by omega), if_pos (by omega), if_neg (by omega), show (2 * t + 1) / 2 = t by omega]
      have hs := sP_bd hb t
      have a8 : IntKind.i64.wrap (IntKind.i64.wrap (IntKind.i64.wrap (sP ys t + 30) - ys.getD t 0 / 16) - ys.getD t 0 % 16) = sP ys (t + 1) := by
        rw [wrap_i64 (n := sP ys t + 30) (by omega) (by omega), wrap_i64 (n := sP ys t + 30 - ys.getD t 0 / 16) (by omega) (by omega), wrap_i64 (by omega) (by omega)]; simp only [sP]; omega
      have a9 : IntKind.i64.wrap ((t : Int) + 1) = ((t + 1 : Nat) : Int) := by rw [wrap_i64 (by omega) (by omega)]; omega
      have l2 := dP_len ys t
      have l3 := dP_len ys (t + 1)
      simp -implicitDefEqProofs only [go_sem, e, hqt, a1, a2, a3, a4, a5, a6, a7, a8, a9]
      refine ⟨by omega, by omega, by omega, by omega, by omega, by rw [List.length_set]; omega, by omega, by omega, by omega, by omega, ?_⟩
      refine kLoop_mk (t + 1) (by omega) (by omega) ?_
      refine sub_mk [] rfl rfl rfl ?_
      simp only [tmSub, hpSub, objSub, eqTm, eqHp, rn, lk, SV.ren, SV.renC, SV.renB, SV.renA, ren_ints, ren_strs, ren_pl, ren_svs, SV.v.injEq, Value.int.injEq, Body.ints.injEq, SV.ptr.injEq, SV.sl.injEq, Value.string.injEq, Value.bool.injEq, List.map_cons, List.map_nil, forall_const, Nat.reduceLT, Nat.lt_add_one, imp_self, true_and, and_true, and_self, ob_some, get_mk, lk_cons, ↓reduceIte, Nat.reduceEqDiff, ne_eq, not_true_eq_false, not_false_eq_true, Nat.one_ne_zero, Nat.zero_ne_one, Nat.succ_ne_self, Nat.reduceAdd, Bool.false_eq_true, false_implies, implies_true, reduceCtorEq]
    · have e1 : t = 8 := by have := of_decide_eq_false e; omega
      subst e1
      have hs := sP_bd hb 8
      have a1 : IntKind.i64.wrap ((sP ys 8).tdiv 16) = sP ys 8 / 16 := by rw [Int.tdiv_eq_ediv_of_nonneg hs.1, wrap_i64 (by omega) (by omega)]
      have a2 : (sP ys 8).tmod 16 = sP ys 8 % 16 := Int.tmod_eq_emod_of_nonneg hs.1
      simp -implicitDefEqProofs only [go_sem, e, a1, a2]
      have hlen := dgs_len ys
      have l2 := dP_len ys 8
      have hD : List.take 18 (splice (List.replicate 18 (0 : Int)) 0 (List.take 18 (dgs ys))) = dgs ys := by
        have e2 : List.take 18 (dgs ys) = dgs ys := List.take_of_length_le (by omega)
        unfold splice
        rw [e2, hlen]
        simp [hlen]
        exact e2
      unfold dgs at hlen hD hd
      refine ⟨by decide, by omega, by decide, by rw [List.length_set]; omega, by omega, by rw [List.length_take]; omega, by decide, ?_, ?_⟩
      · unfold splice; simp [hlen]
      · refine sub_val rfl (by decide) (by decide) ?_
        rw [hD, hd]
end
section
/- The document's Sign, Public. -/
set_option linter.unusedVariables false
set_option linter.unusedSimpArgs false
set_option maxRecDepth 100000
open Go.Proofs
variable {H : Hp} {n : Nat} {x : Nat → Option SO}
theorem rdigitsS {s : ByteArray} (hs : s.size ≤ 1000000000) : SpecAt Tryz.prog nrDigits [.v (.string s)] H n (.ai .i64 (dig s)) H n := lift_pure (okT.spec trDigits (rdigitsW hs)) rfl
def sgA (seed : ByteArray) (k : Nat) (D : List Int) : Nat → ByteArray
  | 0 => ⟨#[]⟩
  | j + 1 => sgA seed k D j ++ chn k j 0 (dgt D j) (sec seed k j)
theorem sgA_size (seed : ByteArray) (k : Nat) (D : List Int) : ∀ j, (sgA seed k D j).size = 16 * j
  | 0 => rfl
  | j + 1 => by
    show (sgA seed k D j ++ chn k j 0 (dgt D j) (sec seed k j)).size = _
    rw [ByteArray.size_append, sgA_size seed k D j, chn_16 _ _ _ _ _ (sec_size ..)]; omega
def sgn (seed : ByteArray) (k : Nat) (text : ByteArray) : ByteArray := sgA seed k (dig text) 18
def pbA (seed : ByteArray) (k : Nat) : Nat → ByteArray
  | 0 => ⟨#[]⟩
  | j + 1 => pbA seed k j ++ chn k j 0 15 (sec seed k j)
theorem pbA_size (seed : ByteArray) (k : Nat) : ∀ j, (pbA seed k j).size = 16 * j
  | 0 => rfl
  | j + 1 => by
    show (pbA seed k j ++ chn k j 0 15 (sec seed k j)).size = _
    rw [ByteArray.size_append, pbA_size seed k j, chn_16 _ _ _ _ _ (sec_size ..)]; omega
def pubB (seed : ByteArray) (k : Nat) : ByteArray := tagH 35 [pbA seed k 18]
theorem rsignS {k : Nat} {seed text : ByteArray} (hk : k < 2) (hs : seed.size ≤ 1000) (ht : text.size ≤ 1000000000) : SpecAt Tryz.prog nrSign [.v (.string seed), .v (.int .i64 k), .v (.string text)] H n (.tup [.v (.string (sgn seed k text)), .v (.int .i64 0)]) H n := lift_pure (okT.spec trSign (by
  unfold mrSign
  have e1 : decide ((k : Int) < 0) = false := decide_eq_false (by omega)
  have e2 : decide ((k : Int) > 65535) = false := decide_eq_false (by omega)
  simp -implicitDefEqProofs only [↓fnVC, initTm]
  simp -implicitDefEqProofs only [go_sem, e1, e2]
  refine at_call trDigits (rdigitsS ht) ?_
  have hlen := dig_len text
  have hget := dig_get text
  have hsg : sgn seed k text = sgA seed k (dig text) 18 := rfl
  generalize dig text = D at hlen hget hsg ⊢
  have hdg : ∀ j, ((dgt D j : Nat) : Int) = D.getD j 0 ∧ dgt D j ≤ 15 := fun j => by have := hget j; unfold dgt; omega
  have hsp' : splice [(0 : Int), 0, 0, 0, 0, 0, 0, 0, 0, 0, 0, 0, 0, 0, 0, 0, 0, 0] 0 D = D := by
    show splice (List.replicate 18 (0 : Int)) 0 D = D
    unfold splice
    rw [hlen]
    simp [hlen]
  simp -implicitDefEqProofs only [go_sem, hsp']
  refine ⟨hlen, ?_⟩
  refine loop_fam (fun j : Nat => j ≤ 18) (fun j => ⟨[(0, .v (.string seed)), (1, .v (.int .i64 k)), (8, .ptr 1 0), (9, .v (.string (sgA seed k D j))), (10, .v (.int .i64 j))], ⟨[(1, some ⟨true, .ints .i64 D⟩)], H.x⟩, 2⟩) (fun j => 18 - j) 0 (by omega) ?_ ?_
  · refine sub_mk [] rfl rfl rfl ?_
    simp only [tmSub, hpSub, objSub, eqTm, eqHp, rn, lk, SV.ren, SV.renC, SV.renB, SV.renA, ren_ints, ren_strs, ren_pl, ren_svs, SV.v.injEq, Value.int.injEq, Body.ints.injEq, SV.ptr.injEq, SV.sl.injEq, Value.string.injEq, Value.bool.injEq, List.map_cons, List.map_nil, forall_const, Nat.reduceLT, Nat.lt_add_one, imp_self, true_and, and_true, and_self, ob_some, get_mk, lk_cons, ↓reduceIte, Nat.reduceEqDiff, ne_eq, not_true_eq_false, not_false_eq_true, Nat.one_ne_zero, Nat.zero_ne_one, Nat.succ_ne_self, Nat.reduceAdd, Bool.false_eq_true, false_implies, implies_true, reduceCtorEq]
    exact ⟨rfl, rfl⟩
  · intro j hj
    simp -implicitDefEqProofs only [go_sem]
    refine condK_bb (fun c => ?_) (fun c => ?_)
    · have c1 : j < 18 := by have := of_decide_eq_true c; omega
      have q1 : D.getD j 0 = ((dgt D j : Nat) : Int) := (hdg j).1.symm
      have w3 : IntKind.i64.wrap ((j : Int) + 1) = ((j + 1 : Nat) : Int) := by rw [wrap_i64 (by omega) (by omega)]; omega
      have z1 := sgA_size seed k D j
      have z2 : (chn k j 0 (dgt D j) (sec seed k j)).size = 16 := chn_16 _ _ _ _ _ (sec_size ..)
      simp -implicitDefEqProofs only [go_sem, c, q1]
      refine ⟨by omega, by omega, ?_⟩
      refine at_call trsecret (rsecS hk c1 hs) ?_
      simp -implicitDefEqProofs only [go_sem, q1]
      refine at_call trlinks (rlinksS (k := k) (i := j) (f := 0) (t := dgt D j) hk c1 (Nat.zero_le _) (hdg j).2 (by rw [sec_size]; decide)) ?_
      rw [Nat.sub_zero]
      simp -implicitDefEqProofs only [go_sem, w3]
      refine ⟨by omega, ?_⟩
      refine kLoop_mk (j + 1) (by omega) (by omega) ?_
      refine sub_mk [] rfl rfl rfl ?_
      simp only [tmSub, hpSub, objSub, eqTm, eqHp, rn, lk, SV.ren, SV.renC, SV.renB, SV.renA, ren_ints, ren_strs, ren_pl, ren_svs, SV.v.injEq, Value.int.injEq, Body.ints.injEq, SV.ptr.injEq, SV.sl.injEq, Value.string.injEq, Value.bool.injEq, List.map_cons, List.map_nil, forall_const, Nat.reduceLT, Nat.lt_add_one, imp_self, true_and, and_true, and_self, ob_some, get_mk, lk_cons, ↓reduceIte, Nat.reduceEqDiff, ne_eq, not_true_eq_false, not_false_eq_true, Nat.one_ne_zero, Nat.zero_ne_one, Nat.succ_ne_self, Nat.reduceAdd, Bool.false_eq_true, false_implies, implies_true, reduceCtorEq]
      rfl
    · have c1 : j = 18 := by have := of_decide_eq_false c; omega
      subst c1
      simp -implicitDefEqProofs only [go_sem, c]
      rw [← hsg]
      exact sub_val rfl (by decide) (by decide) rfl)) rfl
theorem rpubS {k : Nat} {seed : ByteArray} (hk : k < 2) (hs : seed.size ≤ 1000) : SpecAt Tryz.prog nrPublic [.v (.string seed), .v (.int .i64 k)] H n (.tup [.v (.string (pubB seed k)), .v (.int .i64 0)]) H n := lift_pure (okT.spec trPublic (by
  unfold mrPublic
  have e1 : decide ((k : Int) < 0) = false := decide_eq_false (by omega)
  have e2 : decide ((k : Int) > 65535) = false := decide_eq_false (by omega)
  simp -implicitDefEqProofs only [↓fnVC, initTm]
  simp -implicitDefEqProofs only [go_sem, e1, e2]
  refine loop_fam (fun j : Nat => j ≤ 18) (fun j => ⟨[(0, .v (.string seed)), (1, .v (.int .i64 k)), (6, .v (.string (pbA seed k j))), (7, .v (.int .i64 j))], ⟨[], H.x⟩, 1⟩) (fun j => 18 - j) 0 (by omega) ?_ ?_
  · refine sub_mk [] rfl rfl rfl ?_
    simp only [tmSub, hpSub, objSub, eqTm, eqHp, rn, lk, SV.ren, SV.renC, SV.renB, SV.renA, ren_ints, ren_strs, ren_pl, ren_svs, SV.v.injEq, Value.int.injEq, Body.ints.injEq, SV.ptr.injEq, SV.sl.injEq, Value.string.injEq, Value.bool.injEq, List.map_cons, List.map_nil, forall_const, Nat.reduceLT, Nat.lt_add_one, imp_self, true_and, and_true, and_self, ob_some, get_mk, lk_cons, ↓reduceIte, Nat.reduceEqDiff, ne_eq, not_true_eq_false, not_false_eq_true, Nat.one_ne_zero, Nat.zero_ne_one, Nat.succ_ne_self, Nat.reduceAdd, Bool.false_eq_true, false_implies, implies_true, reduceCtorEq]
    exact ⟨rfl, rfl⟩
  · intro j hj
    simp -implicitDefEqProofs only [go_sem]
    refine condK_bb (fun c => ?_) (fun c => ?_)
    · have c1 : j < 18 := by have := of_decide_eq_true c; omega
      have w3 : IntKind.i64.wrap ((j : Int) + 1) = ((j + 1 : Nat) : Int) := by rw [wrap_i64 (by omega) (by omega)]; omega
      have z1 := pbA_size seed k j
      have z2 : (chn k j 0 15 (sec seed k j)).size = 16 := chn_16 _ _ _ _ _ (sec_size ..)
      simp -implicitDefEqProofs only [go_sem, c]
      refine at_call trsecret (rsecS hk c1 hs) ?_
      simp -implicitDefEqProofs only [go_sem]
      refine at_call trlinks (rlinksS (k := k) (i := j) (f := 0) (t := 15) hk c1 (Nat.zero_le _) (Nat.le_refl _) (by rw [sec_size]; decide)) ?_
      rw [Nat.sub_zero]
      simp -implicitDefEqProofs only [go_sem, w3]
      refine ⟨by omega, ?_⟩
      refine kLoop_mk (j + 1) (by omega) (by omega) ?_
      refine sub_mk [] rfl rfl rfl ?_
      simp only [tmSub, hpSub, objSub, eqTm, eqHp, rn, lk, SV.ren, SV.renC, SV.renB, SV.renA, ren_ints, ren_strs, ren_pl, ren_svs, SV.v.injEq, Value.int.injEq, Body.ints.injEq, SV.ptr.injEq, SV.sl.injEq, Value.string.injEq, Value.bool.injEq, List.map_cons, List.map_nil, forall_const, Nat.reduceLT, Nat.lt_add_one, imp_self, true_and, and_true, and_self, ob_some, get_mk, lk_cons, ↓reduceIte, Nat.reduceEqDiff, ne_eq, not_true_eq_false, not_false_eq_true, Nat.one_ne_zero, Nat.zero_ne_one, Nat.succ_ne_self, Nat.reduceAdd, Bool.false_eq_true, false_implies, implies_true, reduceCtorEq]
      rfl
    · have c1 : j = 18 := by have := of_decide_eq_false c; omega
      subst c1
      have z1 := pbA_size seed k 18
      simp -implicitDefEqProofs only [go_sem, c]
      refine at_call t13 (rtag_any (ss := [pbA seed k 18]) (m := 1) (by rfl) rfl (by decide) (by simp only [List.map_cons, List.map_nil, List.sum_cons, List.sum_nil]; omega)) ?_
      simp -implicitDefEqProofs only [go_sem]
      exact sub_val rfl (by decide) (by decide) rfl)) rfl
end
section
/- The document's keys of two numbers. -/
set_option linter.unusedVariables false
set_option linter.unusedSimpArgs false
set_option maxRecDepth 100000
open Go.Proofs
variable {H : Hp} {n : Nat} {x : Nat → Option SO}
theorem ridS {h : Nat} {top : ByteArray} (hh : h ≤ 255) (hs : top.size ≤ 1000) : SpecAt Tryz.prog nrid [.v (.int .i64 h), .v (.string top)] H n (.v (.string (idH h top))) H n := lift_pure (okT.spec trid (by
  unfold mrid
  simp -implicitDefEqProofs only [↓fnVC, initTm]
  have e : IntKind.u8.wrap (h : Int) = h := wrap_u8r (by omega) (by omega)
  simp -implicitDefEqProofs only [go_sem, e]
  refine at_call t13 (rtag_any (ss := [one h, top]) (m := 2) (by rfl) rfl (by decide) (by simp only [List.map_cons, List.map_nil, List.sum_cons, List.sum_nil, one_size]; omega)) ?_
  simp -implicitDefEqProofs only [go_sem]
  exact sub_val rfl (by decide) (by decide) rfl)) rfl
theorem pubB_size (s : ByteArray) (k : Nat) : (pubB s k).size = 32 := tagH_size _ _
def topB (s : ByteArray) : ByteArray := tagH 37 [pubB s 0, pubB s 1]
theorem sp40 {α : Type} (a b c d e : α) : splice [a, b, c, d] 0 [e] = [e, b, c, d] := rfl
theorem sp41 {α : Type} (a b c d e : α) : splice [a, b, c, d] 1 [e] = [a, e, c, d] := rfl
theorem sp42 {α : Type} (a b c d e : α) : splice [a, b, c, d] 2 [e] = [a, b, e, d] := rfl
theorem w01 : IntKind.i64.wrap (0 + 1) = 1 := rfl
theorem w11 : IntKind.i64.wrap (1 + 1) = 2 := rfl
theorem d02 : decide ((0 : Int) < ((2 : Nat) : Int)) = true := rfl
theorem d22 : decide ((2 : Int) < ((2 : Nat) : Int)) = false := rfl
theorem w02 : IntKind.i64.wrap (0 + 2) = 2 := rfl
def keyO (s : ByteArray) (lv : Nat) : SO := ⟨true, .sv [.v (.string s), .v (.int .i64 1), .sl lv 0 2 1, .v (.int .i64 0)]⟩
theorem newW {s : ByteArray} (hs : s.size ≤ 1000) : fnVC CT mrKNew [.v (.string s), .v (.int .i64 1)] ⟨[], x⟩ 1 fun v H' n' => Sub 1 ⟨[(0, .tup [.ptr 1 0, .v (.int .i64 0)])], ⟨[(1, some (keyO s 2)), (2, some ⟨true, .sv [.sl 3 0 2 1, .sl 4 0 1 1]⟩), (3, some ⟨true, .strs [pubB s 0, pubB s 1]⟩), (4, some ⟨true, .strs [topB s]⟩)], x⟩, 5⟩ ⟨[(0, v)], H', n'⟩ := by
  unfold mrKNew
  have h1 : ishl .i64 1 1 = 2 := by decide
  simp -implicitDefEqProofs only [↓fnVC, initTm]
  simp -implicitDefEqProofs only [go_sem, h1]
  refine loop_roll 3 ?_
  rw [LoopU_succ]
  simp -implicitDefEqProofs only [go_sem, h1]
  refine at_call trPublic (rpubS (k := 0) (by decide) hs) ?_
  simp -implicitDefEqProofs only [go_sem, h1, w01, sp40, sp41]
  rw [LoopU_succ]
  simp -implicitDefEqProofs only [go_sem, h1, w01, sp40, sp41]
  refine at_call trPublic (rpubS (k := 1) (by decide) hs) ?_
  simp -implicitDefEqProofs only [go_sem, h1, w01, sp40, sp41]
  refine app_kill ?_
  simp -implicitDefEqProofs only [go_sem, h1, w01, w11, sp40, sp41, List.drop_zero, List.take_succ_cons, List.take_zero, List.cons_append, List.nil_append]
  rw [LoopU_succ]
  simp -implicitDefEqProofs only [go_sem, h1, w01, w11, sp40, sp41, sp42, List.drop_zero, List.take_succ_cons, List.take_zero, List.cons_append, List.nil_append]
  refine ⟨rfl, ?_⟩
  refine loop_roll 2 ?_
  rw [LoopU_succ]
  simp -implicitDefEqProofs only [go_sem, h1, w01, w11, w02, d02, d22, sp40, sp41, sp42, List.drop_zero, List.take_succ_cons, List.take_zero, List.cons_append, List.nil_append]
  refine loop_roll 2 ?_
  rw [LoopU_succ]
  simp -implicitDefEqProofs only [go_sem, h1, w01, w11, w02, d02, d22, sp40, sp41, sp42, List.drop_zero, List.take_succ_cons, List.take_zero, List.cons_append, List.nil_append]
  refine ⟨by decide, by decide, ?_⟩
  refine at_call t13 (rtag_any (ss := [pubB s 0, pubB s 1]) (m := 2) (by rfl) rfl (by decide) (by simp only [List.map_cons, List.map_nil, List.sum_cons, List.sum_nil, pubB_size]; decide)) ?_
  have ht : tagH 37 [pubB s 0, pubB s 1] = topB s := rfl
  rw [ht]
  simp -implicitDefEqProofs only [go_sem, h1, w01, w11, w02, d02, d22, sp40, sp41, sp42, List.drop_zero, List.take_succ_cons, List.take_zero, List.cons_append, List.nil_append]
  rw [LoopU_succ]
  simp -implicitDefEqProofs only [go_sem, h1, w01, w11, w02, d02, d22, sp40, sp41, sp42, List.drop_zero, List.take_succ_cons, List.take_zero, List.cons_append, List.nil_append]
  refine ⟨rfl, ?_⟩
  rw [LoopU_succ]
  simp -implicitDefEqProofs only [go_sem, h1, w01, w11, w02, d02, d22, sp40, sp41, sp42, List.drop_zero, List.take_succ_cons, List.take_zero, List.cons_append, List.nil_append]
  refine sub_mk [(2, 12), (3, 5), (4, 10)] rfl rfl rfl ?_
  simp only [tmSub, hpSub, objSub, eqTm, eqHp, rn, lk, SV.ren, SV.renC, SV.renB, SV.renA, ren_ints, ren_strs, ren_pl, ren_svs, SV.v.injEq, Value.int.injEq, Body.ints.injEq, SV.ptr.injEq, SV.sl.injEq, Value.string.injEq, Value.bool.injEq, List.map_cons, List.map_nil, forall_const, Nat.reduceLT, Nat.lt_add_one, imp_self, true_and, and_true, and_self, ob_some, get_mk, lk_cons, ↓reduceIte, Nat.reduceEqDiff, ne_eq, not_true_eq_false, not_false_eq_true, Nat.one_ne_zero, Nat.zero_ne_one, Nat.succ_ne_self, Nat.reduceAdd, Bool.false_eq_true, false_implies, implies_true, reduceCtorEq, keyO]
def keyL (s : ByteArray) (n : Nat) : List (Nat × Option SO) := [(n, some (keyO s (n + 1))), (n + 1, some ⟨true, .sv [.sl (n + 2) 0 2 1, .sl (n + 3) 0 1 1]⟩), (n + 2, some ⟨true, .strs [pubB s 0, pubB s 1]⟩), (n + 3, some ⟨true, .strs [topB s]⟩)]
theorem newS {s : ByteArray} (hs : s.size ≤ 1000) (hn : n + 4 ≤ 1000) : SpecAt Tryz.prog nrKNew [.v (.string s), .v (.int .i64 1)] H n (.tup [.ptr n 0, .v (.int .i64 0)]) ⟨keyL s n ++ H.l, H.x⟩ (n + 4) := by
  have := lift (n := n) (okT.spec trKNew (newW (x := H.x) hs)) [] rfl rfl rfl (by omega) rfl rfl trivial rfl rfl (by omega)
  exact this
def idB (s : ByteArray) : ByteArray := idH 1 (topB s)
theorem topB_size (s : ByteArray) : (topB s).size = 32 := tagH_size _ _
theorem idB_size (s : ByteArray) : (idB s).size = 32 := tagH_size _ _
def KeyAt (H : Hp) (s : ByteArray) (i a b c : Nat) : Prop := (∃ u, H.get i = some ⟨u, (keyO s a).b⟩) ∧ (∃ u, H.get a = some ⟨u, .sv [.sl b 0 2 1, .sl c 0 1 1]⟩) ∧ (∃ u, H.get b = some ⟨u, .strs [pubB s 0, pubB s 1]⟩) ∧ (∃ u, H.get c = some ⟨u, .strs [topB s]⟩) ∧ 0 < i ∧ 0 < a ∧ 0 < b ∧ 0 < c
def keyC (s : ByteArray) (x : Nat → Option SO) : Hp := ⟨[(1, some ⟨false, (keyO s 2).b⟩), (2, some ⟨false, .sv [.sl 3 0 2 1, .sl 4 0 1 1]⟩), (3, some ⟨false, .strs [pubB s 0, pubB s 1]⟩), (4, some ⟨false, .strs [topB s]⟩)], x⟩
theorem kidW {s : ByteArray} : fnVC CT mKID [.ptr 1 0] (keyC s x) 5 fun v H' n' => Sub 5 ⟨[(0, .v (.string (idB s)))], ⟨[], x⟩, 5⟩ ⟨[(0, v)], H', n'⟩ := by
  unfold mKID keyC keyO
  simp -implicitDefEqProofs only [↓fnVC, initTm]
  simp -implicitDefEqProofs only [go_sem]
  refine ⟨by decide, by decide, ?_⟩
  refine at_call trid (ridS (h := 1) (top := topB s) (by decide) (by rw [topB_size]; decide)) ?_
  simp -implicitDefEqProofs only [go_sem]
  exact sub_val rfl (by decide) (by decide) rfl
theorem kidS {s : ByteArray} {i a b c : Nat} (h : KeyAt H s i a b c) : SpecAt Tryz.prog nKID [.ptr i 0] H n (.v (.string (idB s))) H n := by
  obtain ⟨⟨u1, h1⟩, ⟨u2, h2⟩, ⟨u3, h3⟩, ⟨u4, h4⟩, p1, p2, p3, p4⟩ := h
  have := lift_ro (n := n) (H := H) (okT.spec tKID (kidW (x := H.x) (s := s))) [(1, i), (2, a), (3, b), (4, c)] rfl rfl rfl (by omega) rfl rfl
    ⟨sub_ro rfl p1 h1 rfl, sub_ro rfl p2 h2 rfl, sub_ro rfl p3 h3 rfl, sub_ro rfl p4 h4 rfl, trivial⟩ (by simp [apartB, apart1, rn, lk]) (by simp [wrNZ, rn, lk]) rfl
  exact this
def sigB (s : ByteArray) (k : Nat) (text : ByteArray) : ByteArray := one 1 ++ two k ++ sgn s k text ++ pubB s (1 - k)
theorem sgn_size (s : ByteArray) (k : Nat) (text : ByteArray) : (sgn s k text).size = 288 := sgA_size ..
theorem sigB_size (s : ByteArray) (k : Nat) (text : ByteArray) : (sigB s k text).size = 323 := by
  unfold sigB; simp only [ByteArray.size_append, one_size, two_size, sgn_size, pubB_size]
theorem katW {s text : ByteArray} {k : Nat} (hk : k < 2) (hs : s.size ≤ 1000) (ht : text.size ≤ 1000000000) : fnVC CT mKAt [.ptr 1 0, .v (.int .i64 k), .v (.string text)] (keyC s x) 5 fun v H' n' => Sub 5 ⟨[(0, .v (.string (sigB s k text)))], ⟨[], x⟩, 5⟩ ⟨[(0, v)], H', n'⟩ := by
  unfold mKAt keyC keyO
  have v1 : IntKind.u64.wrap (k : Int) = k := wrap_u64r (by omega) (by omega)
  have v2 : IntKind.u8.wrap 1 = 1 := rfl
  simp -implicitDefEqProofs only [↓fnVC, initTm]
  simp -implicitDefEqProofs only [go_sem]
  refine at_call trSign (rsignS hk hs ht) ?_
  have z1 := sgn_size s k text
  have z2 := pubB_size s (1 - k)
  have hsb : sigB s k text = one 1 ++ two k ++ sgn s k text ++ pubB s (1 - k) := rfl
  have hp : ([pubB s 0, pubB s 1] : List ByteArray).getD (1 - k) .empty = pubB s (1 - k) := by
    have : k = 0 ∨ k = 1 := by omega
    rcases this with rfl | rfl <;> rfl
  generalize sgn s k text = G at z1 hsb ⊢
  have o1 : tx [1] = one 1 := rfl
  have z3 : (one 1 ++ two k).size = 3 := by rw [ByteArray.size_append]; rfl
  have z4 : (one 1 ++ two k ++ G).size = 291 := by rw [ByteArray.size_append, z3, z1]
  have x1 : ixor .i64 (ishr .i64 (k : Int) 0) 1 = ((1 - k : Nat) : Int) := by
    have : k = 0 ∨ k = 1 := by omega
    rcases this with rfl | rfl <;> decide
  have w0 : IntKind.i64.wrap (0 + 1) = 1 := rfl
  simp -implicitDefEqProofs only [go_sem, v1, v2, o1]
  and_intros
  all_goals refine at_call trNumber (rtwoS hk) ?_
  all_goals simp -implicitDefEqProofs only [go_sem, v1, v2, o1]
  all_goals refine ⟨by rw [one_size, two_size]; decide, by rw [one_size, two_size, z1]; decide, ?_⟩
  all_goals refine loop_roll 2 ?_
  all_goals rw [LoopU_succ]
  all_goals simp -implicitDefEqProofs only [go_sem, x1, hp, w0]
  all_goals refine ⟨by decide, by omega, by omega, by rw [one_size, two_size, z1, z2]; decide, ?_⟩
  all_goals rw [LoopU_succ]
  all_goals simp -implicitDefEqProofs only [go_sem, w0]
  all_goals rw [hsb]
  all_goals exact sub_val rfl (by decide) (by decide) rfl
theorem katS {s text : ByteArray} {i a b c k : Nat} (h : KeyAt H s i a b c) (hk : k < 2) (hs : s.size ≤ 1000) (ht : text.size ≤ 1000000000) : SpecAt Tryz.prog nKAt [.ptr i 0, .v (.int .i64 k), .v (.string text)] H n (.v (.string (sigB s k text))) H n := by
  obtain ⟨⟨u1, h1⟩, ⟨u2, h2⟩, ⟨u3, h3⟩, ⟨u4, h4⟩, p1, p2, p3, p4⟩ := h
  have := lift_ro (n := n) (H := H) (okT.spec tKAt (katW (x := H.x) hk hs ht)) [(1, i), (2, a), (3, b), (4, c)] rfl rfl rfl (by omega) rfl rfl
    ⟨sub_ro rfl p1 h1 rfl, sub_ro rfl p2 h2 rfl, sub_ro rfl p3 h3 rfl, sub_ro rfl p4 h4 rfl, trivial⟩ (by simp [apartB, apart1, rn, lk]) (by simp [wrNZ, rn, lk]) rfl
  exact this
end
section
/- The ring of five keys. -/
set_option linter.unusedVariables false
set_option linter.unusedSimpArgs false
set_option maxRecDepth 100000
open Go.Proofs
variable {H : Hp} {n : Nat} {x : Nat → Option SO}
def sd (i : Nat) : ByteArray := ⟨#[UInt8.ofNat (97 + i)]⟩
theorem sd_size (i : Nat) : (sd i).size = 1 := rfl
theorem enc_sd {i : Nat} (h : i < 5) : Utf8.encode ((97 + i : Nat) : Int) = sd i := by
  have hv : Utf8.valid ((97 + i : Nat) : Int) = true := by
    unfold Utf8.valid
    simp only [Bool.or_eq_true, Bool.and_eq_true, decide_eq_true_eq]
    exact .inl ⟨by omega, by omega⟩
  unfold Utf8.encode
  simp only [hv, if_true, Int.toNat_natCast]
  rw [if_pos (by omega)]
  rfl
def rgO : SO := ⟨true, .sv [.ptr 2 0, .ptr 6 0, .ptr 10 0, .ptr 14 0, .ptr 18 0]⟩
def ringC : List (Nat × Option SO) := (1, some rgO) :: (keyL (sd 0) 2 ++ keyL (sd 1) 6 ++ keyL (sd 2) 10 ++ keyL (sd 3) 14 ++ keyL (sd 4) 18)
theorem keyL_app (s : ByteArray) (n : Nat) (l : List (Nat × Option SO)) : keyL s n ++ l = (n, some (keyO s (n + 1))) :: (n + 1, some ⟨true, .sv [.sl (n + 2) 0 2 1, .sl (n + 3) 0 1 1]⟩) :: (n + 2, some ⟨true, .strs [pubB s 0, pubB s 1]⟩) :: (n + 3, some ⟨true, .strs [topB s]⟩) :: l := rfl
theorem ringW : fnVC CT mring7 [] ⟨[], x⟩ 1 fun v H' n' => Sub 1 ⟨[(0, .sl 1 0 5 1)], ⟨ringC, x⟩, 22⟩ ⟨[(0, v)], H', n'⟩ := by
  unfold mring7
  have a0 : Utf8.encode (IntKind.i32.wrap (IntKind.i64.wrap (97 + 0))) = sd 0 := enc_sd (i := 0) (by decide)
  have a1 : Utf8.encode (IntKind.i32.wrap (IntKind.i64.wrap (97 + 1))) = sd 1 := enc_sd (i := 1) (by decide)
  have a2 : Utf8.encode (IntKind.i32.wrap (IntKind.i64.wrap (97 + 2))) = sd 2 := enc_sd (i := 2) (by decide)
  have a3 : Utf8.encode (IntKind.i32.wrap (IntKind.i64.wrap (97 + 3))) = sd 3 := enc_sd (i := 3) (by decide)
  have a4 : Utf8.encode (IntKind.i32.wrap (IntKind.i64.wrap (97 + 4))) = sd 4 := enc_sd (i := 4) (by decide)
  have w0 : IntKind.i64.wrap (0 + 1) = 1 := rfl
  have w1 : IntKind.i64.wrap (1 + 1) = 2 := rfl
  have w2 : IntKind.i64.wrap (2 + 1) = 3 := rfl
  have w3 : IntKind.i64.wrap (3 + 1) = 4 := rfl
  have w4 : IntKind.i64.wrap (4 + 1) = 5 := rfl
  have hz : ∀ i, (sd i).size ≤ 1000 := fun i => by rw [sd_size]; decide
  simp -implicitDefEqProofs only [↓fnVC, initTm]
  simp -implicitDefEqProofs only [go_sem]
  refine loop_roll 6 ?_
  rw [LoopU_succ]
  simp -implicitDefEqProofs only [go_sem, a0]
  refine at_call trKNew (newS (n := 1) (hz 0) (by decide)) ?_
  rw [keyL_app]
  simp -implicitDefEqProofs only [go_sem, w0, List.drop_zero, List.take_succ_cons, List.take_zero, List.cons_append, List.nil_append]
  refine ⟨rfl, ?_⟩
  rw [LoopU_succ]
  simp -implicitDefEqProofs only [go_sem, a1, w0]
  refine at_call trKNew (newS (n := 7) (hz 1) (by decide)) ?_
  rw [keyL_app]
  simp -implicitDefEqProofs only [go_sem, w1, List.drop_zero, List.take_succ_cons, List.take_zero, List.cons_append, List.nil_append]
  refine ⟨rfl, ?_⟩
  rw [LoopU_succ]
  simp -implicitDefEqProofs only [go_sem, a2, w1]
  refine at_call trKNew (newS (n := 13) (hz 2) (by decide)) ?_
  rw [keyL_app]
  simp -implicitDefEqProofs only [go_sem, w2, List.drop_zero, List.take_succ_cons, List.take_zero, List.cons_append, List.nil_append]
  refine ⟨rfl, ?_⟩
  rw [LoopU_succ]
  simp -implicitDefEqProofs only [go_sem, a3, w2]
  refine at_call trKNew (newS (n := 19) (hz 3) (by decide)) ?_
  rw [keyL_app]
  simp -implicitDefEqProofs only [go_sem, w3, List.drop_zero, List.take_succ_cons, List.take_zero, List.cons_append, List.nil_append]
  refine ⟨rfl, ?_⟩
  rw [LoopU_succ]
  simp -implicitDefEqProofs only [go_sem, a4, w3]
  refine at_call trKNew (newS (n := 25) (hz 4) (by decide)) ?_
  rw [keyL_app]
  simp -implicitDefEqProofs only [go_sem, w4, List.drop_zero, List.take_succ_cons, List.take_zero, List.cons_append, List.nil_append]
  refine ⟨rfl, ?_⟩
  rw [LoopU_succ]
  simp -implicitDefEqProofs only [go_sem, w4]
  refine sub_mk [(1, 30), (2, 1), (3, 2), (4, 3), (5, 4), (6, 7), (7, 8), (8, 9), (9, 10), (10, 13), (11, 14), (12, 15), (13, 16), (14, 19), (15, 20), (16, 21), (17, 22), (18, 25), (19, 26), (20, 27), (21, 28)] rfl rfl rfl ?_
  simp only [ringC, rgO, keyL, keyO, List.cons_append, List.nil_append, Nat.reduceAdd]
  simp only [tmSub, hpSub, objSub, eqTm, eqHp, rn, lk, SV.ren, SV.renC, SV.renB, SV.renA, ren_ints, ren_strs, ren_pl, ren_svs, SV.v.injEq, Value.int.injEq, Body.ints.injEq, SV.ptr.injEq, SV.sl.injEq, Value.string.injEq, Value.bool.injEq, List.map_cons, List.map_nil, forall_const, Nat.reduceLT, Nat.lt_add_one, imp_self, true_and, and_true, and_self, ob_some, get_mk, lk_cons, ↓reduceIte, Nat.reduceEqDiff, ne_eq, not_true_eq_false, not_false_eq_true, Nat.one_ne_zero, Nat.zero_ne_one, Nat.succ_ne_self, Nat.reduceAdd, Bool.false_eq_true, false_implies, implies_true, reduceCtorEq, keyO]
end
section
/- A set of some of the keys. -/
set_option linter.unusedVariables false
set_option linter.unusedSimpArgs false
set_option maxRecDepth 100000
open Go.Proofs
variable {H : Hp} {n : Nat} {x : Nat → Option SO}
theorem makeS {l : List ByteArray} {i o m : Nat} {ss : List ByteArray} {u : Bool} {need : Int} (hi : H.get i = some ⟨u, .strs ss⟩) (h0 : 0 < i) (hn : n + 1 ≤ 1000) (hl : l = (ss.drop o).take m) (hm : o + m ≤ ss.length) (hb : m ≤ 10000000) :
    SpecAt Tryz.prog nQMake [.sl i o m 1, .v (.int .i64 need)] H n (mkV l need n) ⟨(n, some ⟨true, .strs (risR l)⟩) :: H.l, H.x⟩ (n + 1) := by
  have h := okT.spec tQMake (makeW (x := H.x) (need := need) hl hm hb)
  have := lift (n := n) h [(1, i)] rfl rfl rfl (by omega) rfl rfl
    ⟨sub_ro rfl h0 hi rfl, trivial⟩ (by simp [apartB, apart1, rn, lk]) (by simp [wrNZ, rn, lk]; try omega) (by omega)
  unfold mkV at this ⊢
  split at this <;> rename_i c <;> first | rw [if_pos c] | rw [if_neg c]
  · exact this
  · exact this
def bitB (bits : Nat) (j : Nat) : Bool := !decide (iand .u8 (ishr .u8 (bits : Int) (j : Int)) 1 = 0)
def setL (bits : Nat) : Nat → List ByteArray
  | 0 => []
  | j + 1 => setL bits j ++ if bitB bits j = true then [idB (sd j), idB (sd j)] else []
theorem setL_len (bits : Nat) : ∀ j, (setL bits j).length ≤ 2 * j
  | 0 => Nat.le_refl _
  | j + 1 => by
    have := setL_len bits j
    simp only [setL, List.length_append]
    split <;> simp <;> omega
def ringL : List (Nat × Option SO) := [(1, some ⟨false, .sv [.ptr 2 0, .ptr 6 0, .ptr 10 0, .ptr 14 0, .ptr 18 0]⟩), (2, some ⟨false, .sv [.v (.string (sd 0)), .v (.int .i64 1), .sl 3 0 2 1, .v (.int .i64 0)]⟩), (3, some ⟨false, .sv [.sl 4 0 2 1, .sl 5 0 1 1]⟩), (4, some ⟨false, .strs [pubB (sd 0) 0, pubB (sd 0) 1]⟩), (5, some ⟨false, .strs [topB (sd 0)]⟩), (6, some ⟨false, .sv [.v (.string (sd 1)), .v (.int .i64 1), .sl 7 0 2 1, .v (.int .i64 0)]⟩), (7, some ⟨false, .sv [.sl 8 0 2 1, .sl 9 0 1 1]⟩), (8, some ⟨false, .strs [pubB (sd 1) 0, pubB (sd 1) 1]⟩), (9, some ⟨false, .strs [topB (sd 1)]⟩), (10, some ⟨false, .sv [.v (.string (sd 2)), .v (.int .i64 1), .sl 11 0 2 1, .v (.int .i64 0)]⟩), (11, some ⟨false, .sv [.sl 12 0 2 1, .sl 13 0 1 1]⟩), (12, some ⟨false, .strs [pubB (sd 2) 0, pubB (sd 2) 1]⟩), (13, some ⟨false, .strs [topB (sd 2)]⟩), (14, some ⟨false, .sv [.v (.string (sd 3)), .v (.int .i64 1), .sl 15 0 2 1, .v (.int .i64 0)]⟩), (15, some ⟨false, .sv [.sl 16 0 2 1, .sl 17 0 1 1]⟩), (16, some ⟨false, .strs [pubB (sd 3) 0, pubB (sd 3) 1]⟩), (17, some ⟨false, .strs [topB (sd 3)]⟩), (18, some ⟨false, .sv [.v (.string (sd 4)), .v (.int .i64 1), .sl 19 0 2 1, .v (.int .i64 0)]⟩), (19, some ⟨false, .sv [.sl 20 0 2 1, .sl 21 0 1 1]⟩), (20, some ⟨false, .strs [pubB (sd 4) 0, pubB (sd 4) 1]⟩), (21, some ⟨false, .strs [topB (sd 4)]⟩)]
set_option maxHeartbeats 2000000 in
theorem setW {bits : Nat} {need : Int} : fnVC CT mset7 [.sl 1 0 5 1, .v (.int .u8 bits), .v (.int .i64 need)] ⟨ringL, x⟩ 22 fun v H' n' => Sub 22 ⟨[(0, mkV (setL bits 5) need 22)], ⟨[(22, some ⟨true, .strs (risR (setL bits 5))⟩)], x⟩, 23⟩ ⟨[(0, v)], H', n'⟩ := by
  unfold mset7 ringL
  simp -implicitDefEqProofs only [↓fnVC, initTm]
  simp -implicitDefEqProofs only [go_sem]
  refine loop_fam (fun (j : Nat) => j ≤ 5)
    (fun j => ⟨[(1, .v (.int .u8 bits)), (2, .v (.int .i64 need)), (6, .ptr 22 0), (8, .sl 23 0 (setL bits j).length 1), (11, .sl 1 0 5 1), (12, .v (.int .i64 5)), (13, .v (.int .i64 j))], ⟨[(1, some ⟨false, .sv [.ptr 2 0, .ptr 6 0, .ptr 10 0, .ptr 14 0, .ptr 18 0]⟩), (2, some ⟨false, .sv [.v (.string (sd 0)), .v (.int .i64 1), .sl 3 0 2 1, .v (.int .i64 0)]⟩), (3, some ⟨false, .sv [.sl 4 0 2 1, .sl 5 0 1 1]⟩), (4, some ⟨false, .strs [pubB (sd 0) 0, pubB (sd 0) 1]⟩), (5, some ⟨false, .strs [topB (sd 0)]⟩), (6, some ⟨false, .sv [.v (.string (sd 1)), .v (.int .i64 1), .sl 7 0 2 1, .v (.int .i64 0)]⟩), (7, some ⟨false, .sv [.sl 8 0 2 1, .sl 9 0 1 1]⟩), (8, some ⟨false, .strs [pubB (sd 1) 0, pubB (sd 1) 1]⟩), (9, some ⟨false, .strs [topB (sd 1)]⟩), (10, some ⟨false, .sv [.v (.string (sd 2)), .v (.int .i64 1), .sl 11 0 2 1, .v (.int .i64 0)]⟩), (11, some ⟨false, .sv [.sl 12 0 2 1, .sl 13 0 1 1]⟩), (12, some ⟨false, .strs [pubB (sd 2) 0, pubB (sd 2) 1]⟩), (13, some ⟨false, .strs [topB (sd 2)]⟩), (14, some ⟨false, .sv [.v (.string (sd 3)), .v (.int .i64 1), .sl 15 0 2 1, .v (.int .i64 0)]⟩), (15, some ⟨false, .sv [.sl 16 0 2 1, .sl 17 0 1 1]⟩), (16, some ⟨false, .strs [pubB (sd 3) 0, pubB (sd 3) 1]⟩), (17, some ⟨false, .strs [topB (sd 3)]⟩), (18, some ⟨false, .sv [.v (.string (sd 4)), .v (.int .i64 1), .sl 19 0 2 1, .v (.int .i64 0)]⟩), (19, some ⟨false, .sv [.sl 20 0 2 1, .sl 21 0 1 1]⟩), (20, some ⟨false, .strs [pubB (sd 4) 0, pubB (sd 4) 1]⟩), (21, some ⟨false, .strs [topB (sd 4)]⟩), (22, some ⟨true, .sv [.sl 0 0 0 1, .v (.int .i64 0)]⟩), (23, some ⟨true, .strs (setL bits j)⟩)], x⟩, 24⟩)
    (fun j => 5 - j) 0 (Nat.zero_le _) ?_ ?_
  · refine sub_mk [(23, 0)] rfl rfl rfl ?_
    simp only [tmSub, hpSub, objSub, eqTm, eqHp, rn, lk, SV.ren, SV.renC, SV.renB, SV.renA, ren_ints, ren_strs, ren_pl, ren_svs, SV.v.injEq, Value.int.injEq, Body.ints.injEq, SV.ptr.injEq, SV.sl.injEq, Value.string.injEq, Value.bool.injEq, List.map_cons, List.map_nil, forall_const, Nat.reduceLT, Nat.lt_add_one, imp_self, true_and, and_true, and_self, ob_some, get_mk, lk_cons, ↓reduceIte, Nat.reduceEqDiff, ne_eq, not_true_eq_false, not_false_eq_true, Nat.one_ne_zero, Nat.zero_ne_one, Nat.succ_ne_self, Nat.reduceAdd, Bool.false_eq_true, false_implies, implies_true, reduceCtorEq]
    exact ⟨⟨rfl, rfl, rfl⟩, rfl⟩
  · intro j hj
    have hlen := setL_len bits j
    simp -implicitDefEqProofs only [go_sem]
    refine condK_bb (fun d => ?_) (fun d => ?_)
    · have d1 : j < 5 := by have := of_decide_eq_true d; omega
      have hsu : setL bits (j + 1) = setL bits j ++ if bitB bits j = true then [idB (sd j), idB (sd j)] else [] := rfl
      have e3 : (setL bits j).take (setL bits j).length = setL bits j := List.take_of_length_le (Nat.le_refl _)
      have hbit : decide (iand .u8 (ishr .u8 (bits : Int) (j : Int)) 1 = 0) = !bitB bits j := by unfold bitB; rw [Bool.not_not]
      have w3 : IntKind.i64.wrap ((j : Int) + 1) = ((j + 1 : Nat) : Int) := by rw [wrap_i64 (by omega) (by omega)]; omega
      generalize hF : setL bits j = F at hlen hsu e3 ⊢
      generalize hB : bitB bits j = B at hbit hsu ⊢
      obtain ⟨q, hq⟩ : ∃ q, q = j + 1 := ⟨_, rfl⟩
      rw [← hq] at hsu w3
      have cs : j = 0 ∨ j = 1 ∨ j = 2 ∨ j = 3 ∨ j = 4 := by omega
      rcases cs with rfl | rfl | rfl | rfl | rfl
      all_goals
        simp -implicitDefEqProofs only [go_sem, d, hbit, w3]
        cases B with
        | true =>
          rw [if_pos rfl] at hsu
          simp -implicitDefEqProofs only [go_sem, d]
          refine ⟨by decide, by decide, ?_⟩
          refine at_call tKID (kidS ⟨⟨_, by rfl⟩, ⟨_, by rfl⟩, ⟨_, by rfl⟩, ⟨_, by rfl⟩, by decide, by decide, by decide, by decide⟩) ?_
          simp -implicitDefEqProofs only [go_sem]
          refine at_call tKID (kidS ⟨⟨_, by rfl⟩, ⟨_, by rfl⟩, ⟨_, by rfl⟩, ⟨_, by rfl⟩, by decide, by decide, by decide, by decide⟩) ?_
          simp -implicitDefEqProofs only [go_sem, e3]
          refine ⟨by omega, by omega, app_kill ?_⟩
          simp -implicitDefEqProofs only [go_sem, e3, w3]
          refine kLoop_mk q (by omega) (by omega) ?_
          refine sub_mk [(23, 25)] rfl rfl rfl ?_
          simp only [tmSub, hpSub, objSub, eqTm, eqHp, rn, lk, SV.ren, SV.renC, SV.renB, SV.renA, ren_ints, ren_strs, ren_pl, ren_svs, SV.v.injEq, Value.int.injEq, Body.ints.injEq, SV.ptr.injEq, SV.sl.injEq, Value.string.injEq, Value.bool.injEq, List.map_cons, List.map_nil, forall_const, Nat.reduceLT, Nat.lt_add_one, imp_self, true_and, and_true, and_self, ob_some, get_mk, lk_cons, ↓reduceIte, Nat.reduceEqDiff, ne_eq, not_true_eq_false, not_false_eq_true, Nat.one_ne_zero, Nat.zero_ne_one, Nat.succ_ne_self, Nat.reduceAdd, Bool.false_eq_true, false_implies, implies_true, reduceCtorEq, hsu, e3]
          rw [List.length_append]; rfl
        | false =>
          rw [if_neg Bool.false_ne_true, List.append_nil] at hsu
          simp -implicitDefEqProofs only [go_sem, d, w3]
          refine ⟨by decide, by decide, ?_⟩
          refine kLoop_mk q (by omega) (by omega) ?_
          refine sub_mk [] rfl rfl rfl ?_
          simp only [tmSub, hpSub, objSub, eqTm, eqHp, rn, lk, SV.ren, SV.renC, SV.renB, SV.renA, ren_ints, ren_strs, ren_pl, ren_svs, SV.v.injEq, Value.int.injEq, Body.ints.injEq, SV.ptr.injEq, SV.sl.injEq, Value.string.injEq, Value.bool.injEq, List.map_cons, List.map_nil, forall_const, Nat.reduceLT, Nat.lt_add_one, imp_self, true_and, and_true, and_self, ob_some, get_mk, lk_cons, ↓reduceIte, Nat.reduceEqDiff, ne_eq, not_true_eq_false, not_false_eq_true, Nat.one_ne_zero, Nat.zero_ne_one, Nat.succ_ne_self, Nat.reduceAdd, Bool.false_eq_true, false_implies, implies_true, reduceCtorEq, hsu]
    · have d1 : j = 5 := by have := of_decide_eq_false d; omega
      subst d1
      simp -implicitDefEqProofs only [go_sem, d]
      refine at_call tQMake (makeS (i := 23) (o := 0) (m := (setL bits 5).length) (l := setL bits 5) (ss := setL bits 5) (need := need) (by rfl) (by decide) (by decide) (by rw [List.drop_zero, List.take_length]) (by omega) (by omega)) ?_
      unfold mkV
      split
      · simp -implicitDefEqProofs only [go_sem, spA, spB, spC, tk2]
        refine sub_mk [(22, 24)] rfl rfl rfl ?_
        simp only [tmSub, hpSub, objSub, eqTm, eqHp, rn, lk, SV.ren, SV.renC, SV.renB, SV.renA, ren_ints, ren_strs, ren_pl, ren_svs, SV.v.injEq, Value.int.injEq, Body.ints.injEq, SV.ptr.injEq, SV.sl.injEq, Value.string.injEq, Value.bool.injEq, List.map_cons, List.map_nil, forall_const, Nat.reduceLT, Nat.lt_add_one, imp_self, true_and, and_true, and_self, ob_some, get_mk, lk_cons, ↓reduceIte, Nat.reduceEqDiff, ne_eq, not_true_eq_false, not_false_eq_true, Nat.one_ne_zero, Nat.zero_ne_one, Nat.succ_ne_self, Nat.reduceAdd, Bool.false_eq_true, false_implies, implies_true, reduceCtorEq]
      · simp -implicitDefEqProofs only [go_sem, spA, spB, spC, tk2]
        refine sub_mk [(22, 24)] rfl rfl rfl ?_
        simp only [tmSub, hpSub, objSub, eqTm, eqHp, rn, lk, SV.ren, SV.renC, SV.renB, SV.renA, ren_ints, ren_strs, ren_pl, ren_svs, SV.v.injEq, Value.int.injEq, Body.ints.injEq, SV.ptr.injEq, SV.sl.injEq, Value.string.injEq, Value.bool.injEq, List.map_cons, List.map_nil, forall_const, Nat.reduceLT, Nat.lt_add_one, imp_self, true_and, and_true, and_self, ob_some, get_mk, lk_cons, ↓reduceIte, Nat.reduceEqDiff, ne_eq, not_true_eq_false, not_false_eq_true, Nat.one_ne_zero, Nat.zero_ne_one, Nat.succ_ne_self, Nat.reduceAdd, Bool.false_eq_true, false_implies, implies_true, reduceCtorEq]
def rgP (i : Nat) : List (Nat × Nat) := [(1, i), (2, i + 1), (3, i + 2), (4, i + 3), (5, i + 4), (6, i + 5), (7, i + 6), (8, i + 7), (9, i + 8), (10, i + 9), (11, i + 10), (12, i + 11), (13, i + 12), (14, i + 13), (15, i + 14), (16, i + 15), (17, i + 16), (18, i + 17), (19, i + 18), (20, i + 19), (21, i + 20)]
def RAt (H : Hp) (i : Nat) : Prop := hpSub (rgP i) H ringL
theorem setS {i bits : Nat} {need : Int} (h : RAt H i) (h0 : 0 < i) (hn : n + 1 ≤ 1000) : SpecAt Tryz.prog nset7 [.sl i 0 5 1, .v (.int .u8 bits), .v (.int .i64 need)] H n (mkV (setL bits 5) need n) ⟨(n, some ⟨true, .strs (risR (setL bits 5))⟩) :: H.l, H.x⟩ (n + 1) := by
  have hs := okT.spec tset7 (setW (x := H.x) (bits := bits) (need := need))
  have := lift (n := n) hs (rgP i) rfl rfl rfl (by omega) rfl rfl h (by rfl) (by simp [wrNZ, rn, lk, rgP, ringL]; try omega) (by omega)
  unfold mkV at this ⊢
  split at this <;> rename_i c <;> first | rw [if_pos c] | rw [if_neg c]
  · exact this
  · exact this
end
end Go.Sx