/- Trees, at this program. -/
import Derived.Test.YtbdgjfcchmainaaGreatQuB

set_option linter.unusedVariables false
set_option linter.unusedSimpArgs false
set_option maxRecDepth 100000
namespace Go.Sx
attribute [local go_sem ↓] bind_mk intsB_mk strsB_mk svB_mk fnVC ob_some vc_skip vc_exit vc_ret vc_seq vc_block kSeq_normal kSeq_exit kSeq_ret kBlock_normal kBlock_exit kBlock_ret vc_reg vc_regD vc_cond condK_true condK_false vc_loop kLoop_exit kLoop_ret kRoll_normal kRoll_exit kRoll_ret vcOps_nil vcOps_cons gd_bool gd_undef put_some put_none vcT_fin vcT_pure vcT_act vcT_acts vcT_stop stab_none stab_some stabM_nil stabM_cons stabO_ld stabO_ldn stabO_slP stabO_b2s fldOf_ai fldOf_agg fldOf_ait fldOf_aggt intsOf_nil intsOf_cons strsOf_nil strsOf_cons c_omap ob_if lk_nil lk_cons ev_t ev_k z_mov z_pick z_bin z_binA z_binB z_binP z_un z_r2s z_conv z_s2b z_b2s z_mkM z_luM z_upM z_lenM lenMk_mp lenMk_nil plsOf_v z_delM asM_so plV_v plV_agg mpOf_mp mpOf_nil mpUp_mp asM_mp luV_ok luV_v z_allocT aggOf_mk z_boxT z_alloc z_bld z_bldI z_rowI z_rowS z_ld z_ldn z_st z_stn asN_ptr asN_fn z_nilck z_fld z_fadr z_idxA z_idxP z_idxS z_idxV z_slS z_slL z_slP z_mk z_lenS z_lenL z_app appC_ints appC_pl appC_sv appC_strs isS_strs loose_ints loose_pl loose_sv z_slM z_callv callvK_fn callvK_f callvK_yl vc_rangeF rfEnd_eq rfGo_none rfGo_ret rfGo_exit yGo_mk yEnd_n yEnd_r yEnd_e yRdy_mk yMid_n putPs_nil putPs_cons leaf_v leaf_ptr leaf_sl leaf_yl leaf_mp z_appS z_appST z_appZ z_cpyS z_mkfn reps_int reps_str z_rowV z_slnil nilK_zero z_cpy z_call asT_tup z_extT z_box boxOf_ai boxOf_agg boxOf_int boxOf_str boxOf_bool boxOf_ptr boxOf_sl sbin_int sbin_str sbinA_mk ae_nil ae_int ae_str sbinB_mk sbinP_nn sbinP_pn sbinP_np i_add i_sub i_mul i_quo i_rem i_and i_or i_xor i_andNot i_shl i_shr i_eql i_neq i_lss i_leq i_gtr i_geq st_add st_eql st_neq st_lss st_leq st_gtr st_geq bo_eql bo_neq pt_eql pt_neq un_neg un_xor un_not asI_mk asB_mk asS_mk asP_mk asSl_mk asBy_mk bnd_none bnd_some get_mk hput_mk hdel_mk kill_eq wrOf_eq rowOf_eq rsvs_0 rsvs_1 rsvs_2 rsvs_3 rsv_t rsv_c1 rsv_cn nt_v nt_ptr nt_sl nt_agg nt_ai get_ints get_strs get_pl get_sv getN_ints getN_sv set_ints set_strs set_sv setN_ints setN_sv part_ints part_strs part_sv cat_ints cat_strs cat_sv over_ints over_strs over_sv ones_ints ones_strs evs_nil evs_cons condK_eqt condK_eqf det_callP V_ns V_nn V_gs V_gn obC_mk fresh_ev freshT_ev freshR_ev setN_plagg setN_intsv setN_svai setN_svagg over_intsv set_pl setN_pl setN_plai getN_pl getN_strs part_pl cat_pl over_pl over_plints z_mm
attribute [local go_sem] initTm ne_eq not_true_eq_false not_false_eq_true true_and and_true List.length_cons List.length_nil Int.toNat_natCast Nat.add_zero Nat.zero_add Nat.mul_one List.getElem?_cons_zero List.drop_zero List.take_length List.take_succ_cons List.take_zero List.take_nil List.drop_succ_cons Option.map_some Nat.le_refl implies_true List.getElem?_cons_succ decide_true decide_false Bool.not_true Bool.not_false beq_self_eq_true Nat.succ_ne_self Nat.one_ne_zero Nat.zero_ne_one vk_mk hk_mk nk_mk tok_eq plsOf_map intsOf_map bodyOf_pl bodyOf_ints bodyOf_strs bodyOf_sv part_aggv part_agg part_ai part_int part_str part_bool part_sl part_ptr part_nil numsOf_map u_int u_str u_bool u_pnil u_sl u_ptr u_oci u_ocs evq_nil evq_cons fillS_nil fillS_cons u_ocb ones_pl cells_sv cells_ints cells_strs cells_pl smms_nil smms_cons smm_min smm_max plsOf_nil List.nil_append List.all_cons List.all_nil Bool.and_self Bool.true_and Bool.and_true zws_len zw_len zi_len List.set_cons_zero List.set_cons_succ List.flatMap_cons List.flatMap_nil List.append_nil
attribute [local go_sem_proc] Nat.reduceEqDiff Nat.reduceAdd Nat.reduceMul Nat.reduceLT Nat.reduceLeDiff Nat.reduceSub Int.reduceToNat Int.reduceLE Int.reduceLT reduceCtorEq Int.reduceEq Int.reduceGT Int.reduceGE Int.reduceNeg
attribute [local go_sem_proc ↓] reduceIte
section
open Go.Proofs
variable {H : Hp} {n : Nat} {x : Nat → Option SO}
def be (y k : Nat) : List Int := (List.range k).map fun j => ((y / 256 ^ (k - 1 - j) % 256 : Nat) : Int)
theorem be_len {y k : Nat} : (be y k).length = k := by simp [be]
theorem be_get {y k j : Nat} (h : j < k) : (be y k)[j]? = some ((y / 256 ^ (k - 1 - j) % 256 : Nat) : Int) := by
  unfold be; rw [List.getElem?_map, List.getElem?_range h]; rfl
def wrO (r : Nat) (l : Nat) (bad : Bool) : SO := ⟨true, .sv [.sl r 0 l 1, .v (.bool bad)]⟩
theorem ishr_i {y s : Nat} (hs : s ≤ 64) : ishr .i64 (y : Int) (s : Nat) = ((y / 2 ^ s : Nat) : Int) := by
  unfold ishr
  have hm : min ((s : Nat) : Int).toNat IntKind.i64.bits = s := by show min ((s : Nat) : Int).toNat 64 = s; omega
  rw [hm, Int.fdiv_eq_ediv_of_nonneg _ (Int.le_of_lt (Int.pow_pos (by decide)))]
  push_cast
  rfl
theorem pow256 (c : Nat) : 2 ^ (8 * c) = 256 ^ c := by rw [Nat.pow_mul]
theorem wNumW {y k : Nat} {bs : List Int} {bad : Bool} (hk : k ≤ 8) (hy : y < 9223372036854775808) (hf : k < 8 → y < 256 ^ k) (hb : bs.length ≤ 1099511627776) :
    fnVC CT mWNumber [.ptr 1 0, .v (.int .i64 y), .v (.int .i64 k)] ⟨[(1, some (wrO 2 bs.length bad)), (2, some ⟨true, .ints .u8 bs⟩)], x⟩ 3 fun v H' n' => Sub 3 ⟨[(0, .tup [])], ⟨[(1, some (wrO 3 (bs ++ be y k).length bad)), (2, none), (3, some ⟨true, .ints .u8 (bs ++ be y k)⟩)], x⟩, 4⟩ ⟨[(0, v)], H', n'⟩ := by
  unfold mWNumber wrO
  have g1 : decide ((y : Int) < 0) = false := decide_eq_false (by omega)
  have w1 : IntKind.i64.wrap (8 * (k : Int)) = ((8 * k : Nat) : Int) := by rw [wrap_i64 (by omega) (by omega)]; omega
  have s1 : ishr .i64 (y : Int) ((8 * k : Nat) : Int) = ((y / 256 ^ k : Nat) : Int) := by rw [ishr_i (by omega), pow256]
  have w2 : IntKind.i64.wrap ((k : Int) - 1) = (k : Int) - 1 := wrap_i64 (by omega) (by omega)
  have hz : k < 8 → decide (((y / 256 ^ k : Nat) : Int) = 0) = true := fun h => decide_eq_true (by rw [Nat.div_eq_of_lt (hf h)]; rfl)
  simp -implicitDefEqProofs only [↓fnVC, initTm]
  simp -implicitDefEqProofs only [go_sem, g1]
  refine condK_bb (fun c => ?_) (fun c => ?_)
  · have h1 := hz (by have := of_decide_eq_true c; omega)
    simp -implicitDefEqProofs only [go_sem, c, w1, s1, h1]
    refine ⟨by omega, ?_⟩
    refine loop_fam (fun (c : Nat) => c ≤ k) (fun c => ⟨[(0, .ptr 1 0), (1, .v (.int .i64 y)), (2, .v (.int .i64 ((c : Int) - 1)))], ⟨[(1, some ⟨true, .sv [.sl 3 0 (bs ++ (be y k).take (k - c)).length 1, .v (.bool bad)]⟩), (3, some ⟨true, .ints .u8 (bs ++ (be y k).take (k - c))⟩)], x⟩, 4⟩) (fun c => c) k (Nat.le_refl _) ?_ ?_
    · refine sub_mk [(3, 2)] rfl rfl rfl ?_
      simp only [tmSub, hpSub, objSub, eqTm, eqHp, rn, lk, SV.ren, SV.renC, SV.renB, SV.renA, ren_ints, ren_strs, ren_pl, ren_svs, SV.v.injEq, Value.int.injEq, Body.ints.injEq, SV.ptr.injEq, SV.sl.injEq, Value.string.injEq, Value.bool.injEq, List.map_cons, List.map_nil, forall_const, Nat.reduceLT, Nat.lt_add_one, imp_self, true_and, and_true, and_self, ob_some, get_mk, lk_cons, ↓reduceIte, Nat.reduceEqDiff, ne_eq, not_true_eq_false, not_false_eq_true, Nat.one_ne_zero, Nat.zero_ne_one, Nat.succ_ne_self, Nat.reduceAdd, Bool.false_eq_true, false_implies, implies_true, reduceCtorEq, w2, Nat.sub_self, List.take_zero, List.append_nil]
    · intro c hc
      simp -implicitDefEqProofs only [go_sem]
      refine condK_bb (fun d => ?_) (fun d => ?_)
      · have d1 : 1 ≤ c := by have := of_decide_eq_true d; omega
        have w3 : IntKind.i64.wrap (8 * ((c : Int) - 1)) = ((8 * (c - 1) : Nat) : Int) := by rw [wrap_i64 (by omega) (by omega)]; omega
        have s2 : ishr .i64 (y : Int) ((8 * (c - 1) : Nat) : Int) = ((y / 256 ^ (c - 1) : Nat) : Int) := by rw [ishr_i (by omega), pow256]
        have w4 : IntKind.u8.wrap ((y / 256 ^ (c - 1) : Nat) : Int) = ((y / 256 ^ (c - 1) % 256 : Nat) : Int) := by rw [wrap_u8]; omega
        have w5 : IntKind.i64.wrap ((c : Int) - 1 - 1) = ((c - 1 : Nat) : Int) - 1 := by rw [wrap_i64 (by omega) (by omega)]; omega
        have ht : bs ++ (be y k).take (k - (c - 1)) = (bs ++ (be y k).take (k - c)) ++ [((y / 256 ^ (c - 1) % 256 : Nat) : Int)] := by
          rw [show k - (c - 1) = (k - c) + 1 by omega, List.take_add_one, be_get (by omega), show k - 1 - (k - c) = c - 1 by omega, List.append_assoc]; rfl
        have hlen : (bs ++ (be y k).take (k - c)).length ≤ 1099511627784 := by rw [List.length_append, List.length_take]; omega
        generalize bs ++ (be y k).take (k - c) = cur at hlen ht
        simp -implicitDefEqProofs only [go_sem, d, w3, s2, w4, w5]
        refine ⟨by omega, by omega, by omega, ?_⟩
        refine kLoop_mk (c - 1) (by omega) (by omega) ?_
        refine sub_mk [(3, 5)] rfl rfl rfl ?_
        simp only [tmSub, hpSub, objSub, eqTm, eqHp, rn, lk, SV.ren, SV.renC, SV.renB, SV.renA, ren_ints, ren_strs, ren_pl, ren_svs, SV.v.injEq, Value.int.injEq, Body.ints.injEq, SV.ptr.injEq, SV.sl.injEq, Value.string.injEq, Value.bool.injEq, List.map_cons, List.map_nil, forall_const, Nat.reduceLT, Nat.lt_add_one, imp_self, true_and, and_true, and_self, ob_some, get_mk, lk_cons, ↓reduceIte, Nat.reduceEqDiff, ne_eq, not_true_eq_false, not_false_eq_true, Nat.one_ne_zero, Nat.zero_ne_one, Nat.succ_ne_self, Nat.reduceAdd, Bool.false_eq_true, false_implies, implies_true, reduceCtorEq, w5, ht, List.length_append, List.length_singleton]
      · have d1 : c = 0 := by have := of_decide_eq_false d; omega
        subst d1
        have ht : (be y k).take (k - 0) = be y k := List.take_of_length_le (by rw [be_len]; exact Nat.le_refl _)
        simp -implicitDefEqProofs only [go_sem, d, ht]
        refine sub_mk [] rfl rfl rfl ?_
        simp only [tmSub, hpSub, objSub, eqTm, eqHp, rn, lk, SV.ren, SV.renC, SV.renB, SV.renA, ren_ints, ren_strs, ren_pl, ren_svs, SV.v.injEq, Value.int.injEq, Body.ints.injEq, SV.ptr.injEq, SV.sl.injEq, Value.string.injEq, Value.bool.injEq, List.map_cons, List.map_nil, forall_const, Nat.reduceLT, Nat.lt_add_one, imp_self, true_and, and_true, and_self, ob_some, get_mk, lk_cons, ↓reduceIte, Nat.reduceEqDiff, ne_eq, not_true_eq_false, not_false_eq_true, Nat.one_ne_zero, Nat.zero_ne_one, Nat.succ_ne_self, Nat.reduceAdd, Bool.false_eq_true, false_implies, implies_true, reduceCtorEq]
  · simp -implicitDefEqProofs only [go_sem, c, w1, s1]
    refine loop_fam (fun (c : Nat) => c ≤ k) (fun c => ⟨[(0, .ptr 1 0), (1, .v (.int .i64 y)), (2, .v (.int .i64 ((c : Int) - 1)))], ⟨[(1, some ⟨true, .sv [.sl 3 0 (bs ++ (be y k).take (k - c)).length 1, .v (.bool bad)]⟩), (3, some ⟨true, .ints .u8 (bs ++ (be y k).take (k - c))⟩)], x⟩, 4⟩) (fun c => c) k (Nat.le_refl _) ?_ ?_
    · refine sub_mk [(3, 2)] rfl rfl rfl ?_
      simp only [tmSub, hpSub, objSub, eqTm, eqHp, rn, lk, SV.ren, SV.renC, SV.renB, SV.renA, ren_ints, ren_strs, ren_pl, ren_svs, SV.v.injEq, Value.int.injEq, Body.ints.injEq, SV.ptr.injEq, SV.sl.injEq, Value.string.injEq, Value.bool.injEq, List.map_cons, List.map_nil, forall_const, Nat.reduceLT, Nat.lt_add_one, imp_self, true_and, and_true, and_self, ob_some, get_mk, lk_cons, ↓reduceIte, Nat.reduceEqDiff, ne_eq, not_true_eq_false, not_false_eq_true, Nat.one_ne_zero, Nat.zero_ne_one, Nat.succ_ne_self, Nat.reduceAdd, Bool.false_eq_true, false_implies, implies_true, reduceCtorEq, w2, Nat.sub_self, List.take_zero, List.append_nil]
    · intro c hc
      simp -implicitDefEqProofs only [go_sem]
      refine condK_bb (fun d => ?_) (fun d => ?_)
      · have d1 : 1 ≤ c := by have := of_decide_eq_true d; omega
        have w3 : IntKind.i64.wrap (8 * ((c : Int) - 1)) = ((8 * (c - 1) : Nat) : Int) := by rw [wrap_i64 (by omega) (by omega)]; omega
        have s2 : ishr .i64 (y : Int) ((8 * (c - 1) : Nat) : Int) = ((y / 256 ^ (c - 1) : Nat) : Int) := by rw [ishr_i (by omega), pow256]
        have w4 : IntKind.u8.wrap ((y / 256 ^ (c - 1) : Nat) : Int) = ((y / 256 ^ (c - 1) % 256 : Nat) : Int) := by rw [wrap_u8]; omega
        have w5 : IntKind.i64.wrap ((c : Int) - 1 - 1) = ((c - 1 : Nat) : Int) - 1 := by rw [wrap_i64 (by omega) (by omega)]; omega
        have ht : bs ++ (be y k).take (k - (c - 1)) = (bs ++ (be y k).take (k - c)) ++ [((y / 256 ^ (c - 1) % 256 : Nat) : Int)] := by
          rw [show k - (c - 1) = (k - c) + 1 by omega, List.take_add_one, be_get (by omega), show k - 1 - (k - c) = c - 1 by omega, List.append_assoc]; rfl
        have hlen : (bs ++ (be y k).take (k - c)).length ≤ 1099511627784 := by rw [List.length_append, List.length_take]; omega
        generalize bs ++ (be y k).take (k - c) = cur at hlen ht
        simp -implicitDefEqProofs only [go_sem, d, w3, s2, w4, w5]
        refine ⟨by omega, by omega, by omega, ?_⟩
        refine kLoop_mk (c - 1) (by omega) (by omega) ?_
        refine sub_mk [(3, 5)] rfl rfl rfl ?_
        simp only [tmSub, hpSub, objSub, eqTm, eqHp, rn, lk, SV.ren, SV.renC, SV.renB, SV.renA, ren_ints, ren_strs, ren_pl, ren_svs, SV.v.injEq, Value.int.injEq, Body.ints.injEq, SV.ptr.injEq, SV.sl.injEq, Value.string.injEq, Value.bool.injEq, List.map_cons, List.map_nil, forall_const, Nat.reduceLT, Nat.lt_add_one, imp_self, true_and, and_true, and_self, ob_some, get_mk, lk_cons, ↓reduceIte, Nat.reduceEqDiff, ne_eq, not_true_eq_false, not_false_eq_true, Nat.one_ne_zero, Nat.zero_ne_one, Nat.succ_ne_self, Nat.reduceAdd, Bool.false_eq_true, false_implies, implies_true, reduceCtorEq, w5, ht, List.length_append, List.length_singleton]
      · have d1 : c = 0 := by have := of_decide_eq_false d; omega
        subst d1
        have ht : (be y k).take (k - 0) = be y k := List.take_of_length_le (by rw [be_len]; exact Nat.le_refl _)
        simp -implicitDefEqProofs only [go_sem, d, ht]
        refine sub_mk [] rfl rfl rfl ?_
        simp only [tmSub, hpSub, objSub, eqTm, eqHp, rn, lk, SV.ren, SV.renC, SV.renB, SV.renA, ren_ints, ren_strs, ren_pl, ren_svs, SV.v.injEq, Value.int.injEq, Body.ints.injEq, SV.ptr.injEq, SV.sl.injEq, Value.string.injEq, Value.bool.injEq, List.map_cons, List.map_nil, forall_const, Nat.reduceLT, Nat.lt_add_one, imp_self, true_and, and_true, and_self, ob_some, get_mk, lk_cons, ↓reduceIte, Nat.reduceEqDiff, ne_eq, not_true_eq_false, not_false_eq_true, Nat.one_ne_zero, Nat.zero_ne_one, Nat.succ_ne_self, Nat.reduceAdd, Bool.false_eq_true, false_implies, implies_true, reduceCtorEq]
theorem wNum0W {y k : Nat} {bs : List Int} {bad : Bool} (hk : k ≤ 8) (hy : y < 9223372036854775808) (hf : k < 8 → y < 256 ^ k) (hb : bs.length ≤ 1099511627776) (h0 : bs = []) :
    fnVC CT mWNumber [.ptr 1 0, .v (.int .i64 y), .v (.int .i64 k)] ⟨[(1, some ⟨true, .sv [.sl 0 0 0 1, .v (.bool bad)]⟩)], x⟩ 2 fun v H' n' => Sub 2 ⟨[(0, .tup [])], ⟨[(1, some (wrO 2 (be y k).length bad)), (2, some ⟨true, .ints .u8 (be y k)⟩)], x⟩, 3⟩ ⟨[(0, v)], H', n'⟩ := by
  unfold mWNumber wrO
  have g1 : decide ((y : Int) < 0) = false := decide_eq_false (by omega)
  have w1 : IntKind.i64.wrap (8 * (k : Int)) = ((8 * k : Nat) : Int) := by rw [wrap_i64 (by omega) (by omega)]; omega
  have s1 : ishr .i64 (y : Int) ((8 * k : Nat) : Int) = ((y / 256 ^ k : Nat) : Int) := by rw [ishr_i (by omega), pow256]
  have w2 : IntKind.i64.wrap ((k : Int) - 1) = (k : Int) - 1 := wrap_i64 (by omega) (by omega)
  have hz : k < 8 → decide (((y / 256 ^ k : Nat) : Int) = 0) = true := fun h => decide_eq_true (by rw [Nat.div_eq_of_lt (hf h)]; rfl)
  simp -implicitDefEqProofs only [↓fnVC, initTm]
  simp -implicitDefEqProofs only [go_sem, g1]
  refine condK_bb (fun c => ?_) (fun c => ?_)
  · have h1 := hz (by have := of_decide_eq_true c; omega)
    simp -implicitDefEqProofs only [go_sem, c, w1, s1, h1]
    refine ⟨by omega, ?_⟩
    refine loop_fam (fun (c : Nat) => c ≤ k) (fun c => ⟨[(0, .ptr 1 0), (1, .v (.int .i64 y)), (2, .v (.int .i64 ((c : Int) - 1)))], ⟨[(1, some ⟨true, .sv [.sl 2 0 (bs ++ (be y k).take (k - c)).length 1, .v (.bool bad)]⟩), (2, some ⟨true, .ints .u8 (bs ++ (be y k).take (k - c))⟩)], x⟩, 3⟩) (fun c => c) k (Nat.le_refl _) ?_ ?_
    · subst h0
      refine sub_mk [(2, 0)] rfl rfl rfl ?_
      simp only [tmSub, hpSub, objSub, eqTm, eqHp, rn, lk, SV.ren, SV.renC, SV.renB, SV.renA, ren_ints, ren_strs, ren_pl, ren_svs, SV.v.injEq, Value.int.injEq, Body.ints.injEq, SV.ptr.injEq, SV.sl.injEq, Value.string.injEq, Value.bool.injEq, List.map_cons, List.map_nil, forall_const, Nat.reduceLT, Nat.lt_add_one, imp_self, true_and, and_true, and_self, ob_some, get_mk, lk_cons, ↓reduceIte, Nat.reduceEqDiff, ne_eq, not_true_eq_false, not_false_eq_true, Nat.one_ne_zero, Nat.zero_ne_one, Nat.succ_ne_self, Nat.reduceAdd, Bool.false_eq_true, false_implies, implies_true, reduceCtorEq, w2, Nat.sub_self, List.take_zero, List.append_nil, List.length_nil]
      rfl
    · intro c hc
      simp -implicitDefEqProofs only [go_sem]
      refine condK_bb (fun d => ?_) (fun d => ?_)
      · have d1 : 1 ≤ c := by have := of_decide_eq_true d; omega
        have w3 : IntKind.i64.wrap (8 * ((c : Int) - 1)) = ((8 * (c - 1) : Nat) : Int) := by rw [wrap_i64 (by omega) (by omega)]; omega
        have s2 : ishr .i64 (y : Int) ((8 * (c - 1) : Nat) : Int) = ((y / 256 ^ (c - 1) : Nat) : Int) := by rw [ishr_i (by omega), pow256]
        have w4 : IntKind.u8.wrap ((y / 256 ^ (c - 1) : Nat) : Int) = ((y / 256 ^ (c - 1) % 256 : Nat) : Int) := by rw [wrap_u8]; omega
        have w5 : IntKind.i64.wrap ((c : Int) - 1 - 1) = ((c - 1 : Nat) : Int) - 1 := by rw [wrap_i64 (by omega) (by omega)]; omega
        have ht : bs ++ (be y k).take (k - (c - 1)) = (bs ++ (be y k).take (k - c)) ++ [((y / 256 ^ (c - 1) % 256 : Nat) : Int)] := by
          rw [show k - (c - 1) = (k - c) + 1 by omega, List.take_add_one, be_get (by omega), show k - 1 - (k - c) = c - 1 by omega, List.append_assoc]; rfl
        have hlen : (bs ++ (be y k).take (k - c)).length ≤ 1099511627784 := by rw [List.length_append, List.length_take]; omega
        generalize bs ++ (be y k).take (k - c) = cur at hlen ht
        simp -implicitDefEqProofs only [go_sem, d, w3, s2, w4, w5]
        refine ⟨by omega, by omega, by omega, ?_⟩
        refine kLoop_mk (c - 1) (by omega) (by omega) ?_
        refine sub_mk [(2, 4)] rfl rfl rfl ?_
        simp only [tmSub, hpSub, objSub, eqTm, eqHp, rn, lk, SV.ren, SV.renC, SV.renB, SV.renA, ren_ints, ren_strs, ren_pl, ren_svs, SV.v.injEq, Value.int.injEq, Body.ints.injEq, SV.ptr.injEq, SV.sl.injEq, Value.string.injEq, Value.bool.injEq, List.map_cons, List.map_nil, forall_const, Nat.reduceLT, Nat.lt_add_one, imp_self, true_and, and_true, and_self, ob_some, get_mk, lk_cons, ↓reduceIte, Nat.reduceEqDiff, ne_eq, not_true_eq_false, not_false_eq_true, Nat.one_ne_zero, Nat.zero_ne_one, Nat.succ_ne_self, Nat.reduceAdd, Bool.false_eq_true, false_implies, implies_true, reduceCtorEq, w5, ht, List.length_append, List.length_singleton]
      · have d1 : c = 0 := by have := of_decide_eq_false d; omega
        subst d1
        have ht : (be y k).take (k - 0) = be y k := List.take_of_length_le (by rw [be_len]; exact Nat.le_refl _)
        simp -implicitDefEqProofs only [go_sem, d, ht]
        refine sub_mk [] rfl rfl rfl ?_
        simp only [tmSub, hpSub, objSub, eqTm, eqHp, rn, lk, SV.ren, SV.renC, SV.renB, SV.renA, ren_ints, ren_strs, ren_pl, ren_svs, SV.v.injEq, Value.int.injEq, Body.ints.injEq, SV.ptr.injEq, SV.sl.injEq, Value.string.injEq, Value.bool.injEq, List.map_cons, List.map_nil, forall_const, Nat.reduceLT, Nat.lt_add_one, imp_self, true_and, and_true, and_self, ob_some, get_mk, lk_cons, ↓reduceIte, Nat.reduceEqDiff, ne_eq, not_true_eq_false, not_false_eq_true, Nat.one_ne_zero, Nat.zero_ne_one, Nat.succ_ne_self, Nat.reduceAdd, Bool.false_eq_true, false_implies, implies_true, reduceCtorEq, h0, List.nil_append]
  · simp -implicitDefEqProofs only [go_sem, c, w1, s1]
    refine loop_fam (fun (c : Nat) => c ≤ k) (fun c => ⟨[(0, .ptr 1 0), (1, .v (.int .i64 y)), (2, .v (.int .i64 ((c : Int) - 1)))], ⟨[(1, some ⟨true, .sv [.sl 2 0 (bs ++ (be y k).take (k - c)).length 1, .v (.bool bad)]⟩), (2, some ⟨true, .ints .u8 (bs ++ (be y k).take (k - c))⟩)], x⟩, 3⟩) (fun c => c) k (Nat.le_refl _) ?_ ?_
    · subst h0
      refine sub_mk [(2, 0)] rfl rfl rfl ?_
      simp only [tmSub, hpSub, objSub, eqTm, eqHp, rn, lk, SV.ren, SV.renC, SV.renB, SV.renA, ren_ints, ren_strs, ren_pl, ren_svs, SV.v.injEq, Value.int.injEq, Body.ints.injEq, SV.ptr.injEq, SV.sl.injEq, Value.string.injEq, Value.bool.injEq, List.map_cons, List.map_nil, forall_const, Nat.reduceLT, Nat.lt_add_one, imp_self, true_and, and_true, and_self, ob_some, get_mk, lk_cons, ↓reduceIte, Nat.reduceEqDiff, ne_eq, not_true_eq_false, not_false_eq_true, Nat.one_ne_zero, Nat.zero_ne_one, Nat.succ_ne_self, Nat.reduceAdd, Bool.false_eq_true, false_implies, implies_true, reduceCtorEq, w2, Nat.sub_self, List.take_zero, List.append_nil, List.length_nil]
      rfl
    · intro c hc
      simp -implicitDefEqProofs only [go_sem]
      refine condK_bb (fun d => ?_) (fun d => ?_)
      · have d1 : 1 ≤ c := by have := of_decide_eq_true d; omega
        have w3 : IntKind.i64.wrap (8 * ((c : Int) - 1)) = ((8 * (c - 1) : Nat) : Int) := by rw [wrap_i64 (by omega) (by omega)]; omega
        have s2 : ishr .i64 (y : Int) ((8 * (c - 1) : Nat) : Int) = ((y / 256 ^ (c - 1) : Nat) : Int) := by rw [ishr_i (by omega), pow256]
        have w4 : IntKind.u8.wrap ((y / 256 ^ (c - 1) : Nat) : Int) = ((y / 256 ^ (c - 1) % 256 : Nat) : Int) := by rw [wrap_u8]; omega
        have w5 : IntKind.i64.wrap ((c : Int) - 1 - 1) = ((c - 1 : Nat) : Int) - 1 := by rw [wrap_i64 (by omega) (by omega)]; omega
        have ht : bs ++ (be y k).take (k - (c - 1)) = (bs ++ (be y k).take (k - c)) ++ [((y / 256 ^ (c - 1) % 256 : Nat) : Int)] := by
          rw [show k - (c - 1) = (k - c) + 1 by omega, List.take_add_one, be_get (by omega), show k - 1 - (k - c) = c - 1 by omega, List.append_assoc]; rfl
        have hlen : (bs ++ (be y k).take (k - c)).length ≤ 1099511627784 := by rw [List.length_append, List.length_take]; omega
        generalize bs ++ (be y k).take (k - c) = cur at hlen ht
        simp -implicitDefEqProofs only [go_sem, d, w3, s2, w4, w5]
        refine ⟨by omega, by omega, by omega, ?_⟩
        refine kLoop_mk (c - 1) (by omega) (by omega) ?_
        refine sub_mk [(2, 4)] rfl rfl rfl ?_
        simp only [tmSub, hpSub, objSub, eqTm, eqHp, rn, lk, SV.ren, SV.renC, SV.renB, SV.renA, ren_ints, ren_strs, ren_pl, ren_svs, SV.v.injEq, Value.int.injEq, Body.ints.injEq, SV.ptr.injEq, SV.sl.injEq, Value.string.injEq, Value.bool.injEq, List.map_cons, List.map_nil, forall_const, Nat.reduceLT, Nat.lt_add_one, imp_self, true_and, and_true, and_self, ob_some, get_mk, lk_cons, ↓reduceIte, Nat.reduceEqDiff, ne_eq, not_true_eq_false, not_false_eq_true, Nat.one_ne_zero, Nat.zero_ne_one, Nat.succ_ne_self, Nat.reduceAdd, Bool.false_eq_true, false_implies, implies_true, reduceCtorEq, w5, ht, List.length_append, List.length_singleton]
      · have d1 : c = 0 := by have := of_decide_eq_false d; omega
        subst d1
        have ht : (be y k).take (k - 0) = be y k := List.take_of_length_le (by rw [be_len]; exact Nat.le_refl _)
        simp -implicitDefEqProofs only [go_sem, d, ht]
        refine sub_mk [] rfl rfl rfl ?_
        simp only [tmSub, hpSub, objSub, eqTm, eqHp, rn, lk, SV.ren, SV.renC, SV.renB, SV.renA, ren_ints, ren_strs, ren_pl, ren_svs, SV.v.injEq, Value.int.injEq, Body.ints.injEq, SV.ptr.injEq, SV.sl.injEq, Value.string.injEq, Value.bool.injEq, List.map_cons, List.map_nil, forall_const, Nat.reduceLT, Nat.lt_add_one, imp_self, true_and, and_true, and_self, ob_some, get_mk, lk_cons, ↓reduceIte, Nat.reduceEqDiff, ne_eq, not_true_eq_false, not_false_eq_true, Nat.one_ne_zero, Nat.zero_ne_one, Nat.succ_ne_self, Nat.reduceAdd, Bool.false_eq_true, false_implies, implies_true, reduceCtorEq, h0, List.nil_append]
theorem wHashW {bs : List Int} {bad : Bool} {h : ByteArray} (hb : bs.length ≤ 1099511627776) (hh : h.size ≤ 536870000) :
    fnVC CT mWHash [.ptr 1 0, .v (.string h)] ⟨[(1, some (wrO 2 bs.length bad)), (2, some ⟨true, .ints .u8 bs⟩)], x⟩ 3 fun v H' n' => Sub 3 ⟨[(0, .tup [])], ⟨[(1, some (wrO 3 (bs ++ bts h).length (bad || decide (h.size ≠ 32)))), (2, none), (3, some ⟨true, .ints .u8 (bs ++ bts h)⟩)], x⟩, 4⟩ ⟨[(0, v)], H', n'⟩ := by
  unfold mWHash wrO
  simp -implicitDefEqProofs only [↓fnVC, initTm]
  cases bad with
  | true =>
    simp -implicitDefEqProofs only [go_sem]
    refine ⟨by omega, sub_mk [] rfl rfl rfl ?_⟩
    simp only [tmSub, hpSub, objSub, eqTm, eqHp, rn, lk, SV.ren, SV.renC, SV.renB, SV.renA, ren_ints, ren_strs, ren_pl, ren_svs, SV.v.injEq, Value.int.injEq, Body.ints.injEq, SV.ptr.injEq, SV.sl.injEq, Value.string.injEq, Value.bool.injEq, List.map_cons, List.map_nil, forall_const, Nat.reduceLT, Nat.lt_add_one, imp_self, true_and, and_true, and_self, ob_some, get_mk, lk_cons, ↓reduceIte, Nat.reduceEqDiff, ne_eq, not_true_eq_false, not_false_eq_true, Nat.one_ne_zero, Nat.zero_ne_one, Nat.succ_ne_self, Nat.reduceAdd, Bool.false_eq_true, false_implies, implies_true, reduceCtorEq, List.length_append, bts_len, Bool.true_or]
  | false =>
    simp -implicitDefEqProofs only [go_sem]
    refine ⟨by omega, sub_mk [] rfl rfl rfl ?_⟩
    have e : (false || decide (h.size ≠ 32)) = !decide ((h.size : Int) = 32) := by
      by_cases hh : h.size = 32
      · rw [hh]; rfl
      · rw [decide_eq_true hh, decide_eq_false (by omega)]; rfl
    rw [e]
    simp only [tmSub, hpSub, objSub, eqTm, eqHp, rn, lk, SV.ren, SV.renC, SV.renB, SV.renA, ren_ints, ren_strs, ren_pl, ren_svs, SV.v.injEq, Value.int.injEq, Body.ints.injEq, SV.ptr.injEq, SV.sl.injEq, Value.string.injEq, Value.bool.injEq, List.map_cons, List.map_nil, forall_const, Nat.reduceLT, Nat.lt_add_one, imp_self, true_and, and_true, and_self, ob_some, get_mk, lk_cons, ↓reduceIte, Nat.reduceEqDiff, ne_eq, not_true_eq_false, not_false_eq_true, Nat.one_ne_zero, Nat.zero_ne_one, Nat.succ_ne_self, Nat.reduceAdd, Bool.false_eq_true, false_implies, implies_true, reduceCtorEq, List.length_append, bts_len]
theorem wBytesS {r l i : Nat} {bs : List Int} {bad : Bool} (hg : H.get i = some (wrO r l bad)) (hr : H.get r = some ⟨true, .ints .u8 bs⟩) (hr0 : r ≠ 0) (hl : l = bs.length) :
    SpecAt Tryz.prog nWBytes [.ptr i 0] H n (if bad then .tup [.v (.string ⟨#[]⟩), .v (.int .i64 1)] else .tup [.v (.string (tx bs)), .v (.int .i64 0)]) H n := okT.pure tWBytes (by
  unfold mWBytes
  unfold wrO at hg
  simp -implicitDefEqProofs only [↓fnVC, initTm]
  cases bad with
  | true =>
    simp -implicitDefEqProofs only [go_sem, hg]
  | false =>
    simp -implicitDefEqProofs only [go_sem, hg, hr, hl]
    rw [if_neg hr0]; trivial)
variable {H : Hp} {n : Nat} {x : Nat → Option SO}
theorem wNumS {i r y k : Nat} {bs : List Int} {bad : Bool} (hg : H.get i = some (wrO r bs.length bad)) (hr : H.get r = some ⟨true, .ints .u8 bs⟩) (hi : 0 < i ∧ i < 1000) (hr1 : 0 < r ∧ r < 1000) (hne : i ≠ r) (hn : n + 1 ≤ 1000)
    (hk : k ≤ 8) (hy : y < 9223372036854775808) (hf : k < 8 → y < 256 ^ k) (hb : bs.length ≤ 1099511627776) :
    SpecAt Tryz.prog nWNumber [.ptr i 0, .v (.int .i64 y), .v (.int .i64 k)] H n (.tup []) ⟨(i, some (wrO n (bs ++ be y k).length bad)) :: (r, none) :: (n, some ⟨true, .ints .u8 (bs ++ be y k)⟩) :: H.l, H.x⟩ (n + 1) := by
  have := lift (n := n) (okT.spec tWNumber (wNumW (x := H.x) hk hy hf hb)) [(1, i), (2, r)] rfl rfl rfl (by omega) rfl rfl
    ⟨sub_wr rfl hi.1 hi.2 hg rfl, sub_wr rfl hr1.1 hr1.2 hr rfl, trivial⟩ (by simp [apartB, apart1, rn, lk, hne, Ne.symm hne]) (by simp [wrNZ, rn, lk]; omega) (by omega)
  exact this
theorem wNum0S {i y k : Nat} {bad : Bool} (hg : H.get i = some ⟨true, .sv [.sl 0 0 0 1, .v (.bool bad)]⟩) (hi : 0 < i ∧ i < 1000) (hn : n + 1 ≤ 1000)
    (hk : k ≤ 8) (hy : y < 9223372036854775808) (hf : k < 8 → y < 256 ^ k) :
    SpecAt Tryz.prog nWNumber [.ptr i 0, .v (.int .i64 y), .v (.int .i64 k)] H n (.tup []) ⟨(i, some (wrO n (be y k).length bad)) :: (n, some ⟨true, .ints .u8 (be y k)⟩) :: H.l, H.x⟩ (n + 1) := by
  have := lift (n := n) (okT.spec tWNumber (wNum0W (x := H.x) (bs := []) hk hy hf (by decide) rfl)) [(1, i)] rfl rfl rfl (by omega) rfl rfl
    ⟨sub_wr rfl hi.1 hi.2 hg rfl, trivial⟩ (by simp [apartB, apart1, rn, lk]) (by simp [wrNZ, rn, lk]; omega) (by omega)
  exact this
theorem wHashS {i r : Nat} {bs : List Int} {bad : Bool} {h : ByteArray} (hg : H.get i = some (wrO r bs.length bad)) (hr : H.get r = some ⟨true, .ints .u8 bs⟩) (hi : 0 < i ∧ i < 1000) (hr1 : 0 < r ∧ r < 1000) (hne : i ≠ r) (hn : n + 1 ≤ 1000)
    (hb : bs.length ≤ 1099511627776) (hh : h.size ≤ 536870000) :
    SpecAt Tryz.prog nWHash [.ptr i 0, .v (.string h)] H n (.tup []) ⟨(i, some (wrO n (bs ++ bts h).length (bad || decide (h.size ≠ 32)))) :: (r, none) :: (n, some ⟨true, .ints .u8 (bs ++ bts h)⟩) :: H.l, H.x⟩ (n + 1) := by
  have := lift (n := n) (okT.spec tWHash (wHashW (x := H.x) hb hh)) [(1, i), (2, r)] rfl rfl rfl (by omega) rfl rfl
    ⟨sub_wr rfl hi.1 hi.2 hg rfl, sub_wr rfl hr1.1 hr1.2 hr rfl, trivial⟩ (by simp [apartB, apart1, rn, lk, hne, Ne.symm hne]) (by simp [wrNZ, rn, lk]; omega) (by omega)
  exact this
theorem ishr_u {y s : Nat} (hs : s < 64) (hy : y < 18446744073709551616) : ishr .u64 (y : Int) (s : Nat) = ((y / 2 ^ s : Nat) : Int) := by
  unfold ishr
  have hm : min ((s : Nat) : Int).toNat IntKind.u64.bits = s := by show min ((s : Nat) : Int).toNat 64 = s; omega
  rw [hm, Int.fdiv_eq_ediv_of_nonneg _ (Int.le_of_lt (Int.pow_pos (by decide)))]
  push_cast
  rfl
theorem numb_be {y k : Nat} (hk : k ≤ 8) (hy : y < 18446744073709551616) : ∀ c, c ≤ k → numb (y : Int) k c = (be y k).take c
  | 0, _ => rfl
  | c + 1, h => by
    rw [numb, numb_be hk hy c (by omega), List.take_add_one, be_get (by omega)]
    have e : (8 * ((k : Int) - 1 - (c : Int))) = ((8 * (k - 1 - c) : Nat) : Int) := by omega
    have hs : ishr .u64 (y : Int) ((8 * (k - 1 - c) : Nat) : Int) = ((y / 256 ^ (k - 1 - c) : Nat) : Int) := by rw [ishr_u (by omega) hy, pow256]
    rw [e, hs, wrap_u8]
    simp only [Option.toList_some]
    congr 2
theorem be_bytes {y k : Nat} : ∀ b ∈ be y k, 0 ≤ b ∧ b ≤ 255 := by
  intro b hb
  obtain ⟨j, _, rfl⟩ := List.mem_map.1 hb
  omega
theorem tabNum : CtrOK Tryz.prog 61 (det c25) := ok1.tab.f 61
theorem rnum1S {y k : Nat} (hk0 : 0 < k) (hk : k ≤ 8) (hy : y < 18446744073709551616) : SpecAt Tryz.prog nrNumber1 [.v (.int .u64 y), .v (.int .i64 k)] H n (.v (.string (tx (be y k)))) H n := lift_pure (okT.spec trNumber1 (by
  unfold mrNumber1 mrNumber
  simp -implicitDefEqProofs only [↓fnVC, initTm]
  simp -implicitDefEqProofs only [go_sem]
  refine at_call t25 (spec_of_ctr tabNum (show f25 0 0 0 (y : Int) (k : Int) _ _ = some (.sl 1 0 k 1, ⟨[(1, some ⟨true, .ints .u8 (be y k)⟩)], H.x⟩, 2) from by
    unfold f25
    rw [if_pos rfl, if_pos ⟨rfl, rfl, by omega, by omega, by decide⟩]
    simp only [Int.toNat_natCast]
    rw [numb_be hk hy k (Nat.le_refl _), List.take_of_length_le (by rw [be_len]; exact Nat.le_refl _)]
    rfl)) ?_
  have hl : (be y k).length = k := be_len
  have ht : List.take k (be y k) = be y k := List.take_of_length_le (by omega)
  simp -implicitDefEqProofs only [go_sem, ht]
  exact ⟨by omega, sub_val rfl (by decide) (by decide) rfl⟩)) rfl
theorem ishl_one {k : Nat} (hk : k < 8) : ishl .i64 1 ((8 * k : Nat) : Int) = ((256 ^ k : Nat) : Int) := by
  unfold ishl
  have hm : min ((8 * k : Nat) : Int).toNat IntKind.i64.bits = 8 * k := by show min ((8 * k : Nat) : Int).toNat 64 = _; omega
  have hp : 256 ^ k ≤ 256 ^ 7 := Nat.pow_le_pow_right (by decide) (by omega)
  have h7 : (256 : Nat) ^ 7 = 72057594037927936 := by decide
  have hc : (1 : Int) * 2 ^ (8 * k) = ((256 ^ k : Nat) : Int) := by rw [← pow256, Int.one_mul, Int.natCast_pow]; rfl
  rw [hm, hc]
  generalize 256 ^ k = q at hp
  rw [wrap_i64 (by omega) (by omega)]
theorem rwNumW {y k : Nat} {bs : List Int} {bad : Bool} (hk0 : 0 < k) (hk : k ≤ 8) (hy : y < 9223372036854775808) (hf : k < 8 → y < 256 ^ k) (hb : bs.length ≤ 1099511627776) :
    fnVC CT mrWNumber [.ptr 1 0, .v (.int .i64 y), .v (.int .i64 k)] ⟨[(1, some (wrO 2 bs.length bad)), (2, some ⟨true, .ints .u8 bs⟩)], x⟩ 3 fun v H' n' => Sub 3 ⟨[(0, .tup [])], ⟨[(1, some (wrO 3 (bs ++ be y k).length bad)), (2, none), (3, some ⟨true, .ints .u8 (bs ++ be y k)⟩)], x⟩, 4⟩ ⟨[(0, v)], H', n'⟩ := by
  unfold mrWNumber wrO
  have g1 : decide ((y : Int) < 0) = false := decide_eq_false (by omega)
  have w1 : IntKind.i64.wrap (8 * (k : Int)) = ((8 * k : Nat) : Int) := by rw [wrap_i64 (by omega) (by omega)]; omega
  have w2 : IntKind.u64.wrap (y : Int) = (y : Int) := wrap_u64r (by omega) (by omega)
  have hl : (be y k).length = k := be_len
  have hbt : bts (tx (be y k)) = be y k := btx be_bytes
  have hsz : (tx (be y k)).size = k := by rw [tx_sz, hl]
  simp -implicitDefEqProofs only [↓fnVC, initTm]
  simp -implicitDefEqProofs only [go_sem, g1]
  refine condK_bb (fun c => ?_) (fun c => ?_)
  · have hk8 : k < 8 := by have := of_decide_eq_true c; omega
    have s1 := ishl_one hk8
    have h1 : decide ((y : Int) ≥ ((256 ^ k : Nat) : Int)) = false := decide_eq_false (by have := hf hk8; omega)
    simp -implicitDefEqProofs only [go_sem, c, w1, s1, h1, w2]
    refine ⟨by omega, ?_⟩
    refine at_call trNumber1 (rnum1S hk0 hk (by omega)) ?_
    simp -implicitDefEqProofs only [go_sem, hbt, hsz]
    refine ⟨by omega, sub_mk [] rfl rfl rfl ?_⟩
    simp only [tmSub, hpSub, objSub, eqTm, eqHp, rn, lk, SV.ren, SV.renC, SV.renB, SV.renA, ren_ints, ren_strs, ren_pl, ren_svs, SV.v.injEq, Value.int.injEq, Body.ints.injEq, SV.ptr.injEq, SV.sl.injEq, Value.string.injEq, Value.bool.injEq, List.map_cons, List.map_nil, forall_const, Nat.reduceLT, Nat.lt_add_one, imp_self, true_and, and_true, and_self, ob_some, get_mk, lk_cons, ↓reduceIte, Nat.reduceEqDiff, ne_eq, not_true_eq_false, not_false_eq_true, Nat.one_ne_zero, Nat.zero_ne_one, Nat.succ_ne_self, Nat.reduceAdd, Bool.false_eq_true, false_implies, implies_true, reduceCtorEq, List.length_append, hl]
  · simp -implicitDefEqProofs only [go_sem, c, w1, w2]
    refine at_call trNumber1 (rnum1S hk0 hk (by omega)) ?_
    simp -implicitDefEqProofs only [go_sem, hbt, hsz]
    refine ⟨by omega, sub_mk [] rfl rfl rfl ?_⟩
    simp only [tmSub, hpSub, objSub, eqTm, eqHp, rn, lk, SV.ren, SV.renC, SV.renB, SV.renA, ren_ints, ren_strs, ren_pl, ren_svs, SV.v.injEq, Value.int.injEq, Body.ints.injEq, SV.ptr.injEq, SV.sl.injEq, Value.string.injEq, Value.bool.injEq, List.map_cons, List.map_nil, forall_const, Nat.reduceLT, Nat.lt_add_one, imp_self, true_and, and_true, and_self, ob_some, get_mk, lk_cons, ↓reduceIte, Nat.reduceEqDiff, ne_eq, not_true_eq_false, not_false_eq_true, Nat.one_ne_zero, Nat.zero_ne_one, Nat.succ_ne_self, Nat.reduceAdd, Bool.false_eq_true, false_implies, implies_true, reduceCtorEq, List.length_append, hl]
theorem rwNum0W {y k : Nat} {bad : Bool} (hk0 : 0 < k) (hk : k ≤ 8) (hy : y < 9223372036854775808) (hf : k < 8 → y < 256 ^ k) :
    fnVC CT mrWNumber [.ptr 1 0, .v (.int .i64 y), .v (.int .i64 k)] ⟨[(1, some ⟨true, .sv [.sl 0 0 0 1, .v (.bool bad)]⟩)], x⟩ 2 fun v H' n' => Sub 2 ⟨[(0, .tup [])], ⟨[(1, some (wrO 2 (be y k).length bad)), (2, some ⟨true, .ints .u8 (be y k)⟩)], x⟩, 3⟩ ⟨[(0, v)], H', n'⟩ := by
  unfold mrWNumber wrO
  have g1 : decide ((y : Int) < 0) = false := decide_eq_false (by omega)
  have w1 : IntKind.i64.wrap (8 * (k : Int)) = ((8 * k : Nat) : Int) := by rw [wrap_i64 (by omega) (by omega)]; omega
  have w2 : IntKind.u64.wrap (y : Int) = (y : Int) := wrap_u64r (by omega) (by omega)
  have hl : (be y k).length = k := be_len
  have hbt : bts (tx (be y k)) = be y k := btx be_bytes
  have hsz : (tx (be y k)).size = k := by rw [tx_sz, hl]
  simp -implicitDefEqProofs only [↓fnVC, initTm]
  simp -implicitDefEqProofs only [go_sem, g1]
  refine condK_bb (fun c => ?_) (fun c => ?_)
  · have hk8 : k < 8 := by have := of_decide_eq_true c; omega
    have s1 := ishl_one hk8
    have h1 : decide ((y : Int) ≥ ((256 ^ k : Nat) : Int)) = false := decide_eq_false (by have := hf hk8; omega)
    simp -implicitDefEqProofs only [go_sem, c, w1, s1, h1, w2]
    refine ⟨by omega, ?_⟩
    refine at_call trNumber1 (rnum1S hk0 hk (by omega)) ?_
    simp -implicitDefEqProofs only [go_sem, hbt, hsz]
    refine ⟨by omega, sub_mk [] rfl rfl rfl ?_⟩
    simp only [tmSub, hpSub, objSub, eqTm, eqHp, rn, lk, SV.ren, SV.renC, SV.renB, SV.renA, ren_ints, ren_strs, ren_pl, ren_svs, SV.v.injEq, Value.int.injEq, Body.ints.injEq, SV.ptr.injEq, SV.sl.injEq, Value.string.injEq, Value.bool.injEq, List.map_cons, List.map_nil, forall_const, Nat.reduceLT, Nat.lt_add_one, imp_self, true_and, and_true, and_self, ob_some, get_mk, lk_cons, ↓reduceIte, Nat.reduceEqDiff, ne_eq, not_true_eq_false, not_false_eq_true, Nat.one_ne_zero, Nat.zero_ne_one, Nat.succ_ne_self, Nat.reduceAdd, Bool.false_eq_true, false_implies, implies_true, reduceCtorEq, hl]
  · simp -implicitDefEqProofs only [go_sem, c, w1, w2]
    refine at_call trNumber1 (rnum1S hk0 hk (by omega)) ?_
    simp -implicitDefEqProofs only [go_sem, hbt, hsz]
    refine ⟨by omega, sub_mk [] rfl rfl rfl ?_⟩
    simp only [tmSub, hpSub, objSub, eqTm, eqHp, rn, lk, SV.ren, SV.renC, SV.renB, SV.renA, ren_ints, ren_strs, ren_pl, ren_svs, SV.v.injEq, Value.int.injEq, Body.ints.injEq, SV.ptr.injEq, SV.sl.injEq, Value.string.injEq, Value.bool.injEq, List.map_cons, List.map_nil, forall_const, Nat.reduceLT, Nat.lt_add_one, imp_self, true_and, and_true, and_self, ob_some, get_mk, lk_cons, ↓reduceIte, Nat.reduceEqDiff, ne_eq, not_true_eq_false, not_false_eq_true, Nat.one_ne_zero, Nat.zero_ne_one, Nat.succ_ne_self, Nat.reduceAdd, Bool.false_eq_true, false_implies, implies_true, reduceCtorEq, hl]
theorem rwHashW {bs : List Int} {bad : Bool} {h : ByteArray} (hb : bs.length ≤ 1099511627776) (hh : h.size = 32) :
    fnVC CT mrWHash [.ptr 1 0, .v (.string h)] ⟨[(1, some (wrO 2 bs.length bad)), (2, some ⟨true, .ints .u8 bs⟩)], x⟩ 3 fun v H' n' => Sub 3 ⟨[(0, .tup [])], ⟨[(1, some (wrO 3 (bs ++ bts h).length bad)), (2, none), (3, some ⟨true, .ints .u8 (bs ++ bts h)⟩)], x⟩, 4⟩ ⟨[(0, v)], H', n'⟩ := by
  unfold mrWHash wrO
  have g1 : decide ((h.size : Int) = 32) = true := decide_eq_true (by omega)
  simp -implicitDefEqProofs only [↓fnVC, initTm]
  simp -implicitDefEqProofs only [go_sem, g1]
  refine ⟨by omega, ?_⟩
  refine sub_mk [] rfl rfl rfl ?_
  simp only [tmSub, hpSub, objSub, eqTm, eqHp, rn, lk, SV.ren, SV.renC, SV.renB, SV.renA, ren_ints, ren_strs, ren_pl, ren_svs, SV.v.injEq, Value.int.injEq, Body.ints.injEq, SV.ptr.injEq, SV.sl.injEq, Value.string.injEq, Value.bool.injEq, List.map_cons, List.map_nil, forall_const, Nat.reduceLT, Nat.lt_add_one, imp_self, true_and, and_true, and_self, ob_some, get_mk, lk_cons, ↓reduceIte, Nat.reduceEqDiff, ne_eq, not_true_eq_false, not_false_eq_true, Nat.one_ne_zero, Nat.zero_ne_one, Nat.succ_ne_self, Nat.reduceAdd, Bool.false_eq_true, false_implies, implies_true, reduceCtorEq, List.length_append, bts_len]
theorem rwHashNW {l : Nat} {bad : Bool} {h : ByteArray} {o : SO} (hh : h.size ≠ 32) :
    fnVC CT mrWHash [.ptr 1 0, .v (.string h)] ⟨[(1, some (wrO 2 l bad)), (2, some o)], x⟩ 3 fun v H' n' => Sub 3 ⟨[(0, .tup [])], ⟨[(1, some (wrO 2 l true))], x⟩, 3⟩ ⟨[(0, v)], H', n'⟩ := by
  unfold mrWHash wrO
  have g1 : decide ((h.size : Int) = 32) = false := decide_eq_false (by omega)
  simp -implicitDefEqProofs only [↓fnVC, initTm]
  simp -implicitDefEqProofs only [go_sem, g1]
  refine sub_mk [] rfl rfl rfl ?_
  simp only [tmSub, hpSub, objSub, eqTm, eqHp, rn, lk, SV.ren, SV.renC, SV.renB, SV.renA, ren_ints, ren_strs, ren_pl, ren_svs, SV.v.injEq, Value.int.injEq, Body.ints.injEq, SV.ptr.injEq, SV.sl.injEq, Value.string.injEq, Value.bool.injEq, List.map_cons, List.map_nil, forall_const, Nat.reduceLT, Nat.lt_add_one, imp_self, true_and, and_true, and_self, ob_some, get_mk, lk_cons, ↓reduceIte, Nat.reduceEqDiff, ne_eq, not_true_eq_false, not_false_eq_true, Nat.one_ne_zero, Nat.zero_ne_one, Nat.succ_ne_self, Nat.reduceAdd, Bool.false_eq_true, false_implies, implies_true, reduceCtorEq]
theorem rwNumS {i r y k : Nat} {bs : List Int} {bad : Bool} (hg : H.get i = some (wrO r bs.length bad)) (hr : H.get r = some ⟨true, .ints .u8 bs⟩) (hi : 0 < i ∧ i < 1000) (hr1 : 0 < r ∧ r < 1000) (hne : i ≠ r) (hn : n + 1 ≤ 1000)
    (hk0 : 0 < k) (hk : k ≤ 8) (hy : y < 9223372036854775808) (hf : k < 8 → y < 256 ^ k) (hb : bs.length ≤ 1099511627776) :
    SpecAt Tryz.prog nrWNumber [.ptr i 0, .v (.int .i64 y), .v (.int .i64 k)] H n (.tup []) ⟨(i, some (wrO n (bs ++ be y k).length bad)) :: (r, none) :: (n, some ⟨true, .ints .u8 (bs ++ be y k)⟩) :: H.l, H.x⟩ (n + 1) := by
  have := lift (n := n) (okT.spec trWNumber (rwNumW (x := H.x) hk0 hk hy hf hb)) [(1, i), (2, r)] rfl rfl rfl (by omega) rfl rfl
    ⟨sub_wr rfl hi.1 hi.2 hg rfl, sub_wr rfl hr1.1 hr1.2 hr rfl, trivial⟩ (by simp [apartB, apart1, rn, lk, hne, Ne.symm hne]) (by simp [wrNZ, rn, lk]; omega) (by omega)
  exact this
theorem rwNum0S {i y k : Nat} {bad : Bool} (hg : H.get i = some ⟨true, .sv [.sl 0 0 0 1, .v (.bool bad)]⟩) (hi : 0 < i ∧ i < 1000) (hn : n + 1 ≤ 1000)
    (hk0 : 0 < k) (hk : k ≤ 8) (hy : y < 9223372036854775808) (hf : k < 8 → y < 256 ^ k) :
    SpecAt Tryz.prog nrWNumber [.ptr i 0, .v (.int .i64 y), .v (.int .i64 k)] H n (.tup []) ⟨(i, some (wrO n (be y k).length bad)) :: (n, some ⟨true, .ints .u8 (be y k)⟩) :: H.l, H.x⟩ (n + 1) := by
  have := lift (n := n) (okT.spec trWNumber (rwNum0W (x := H.x) hk0 hk hy hf)) [(1, i)] rfl rfl rfl (by omega) rfl rfl
    ⟨sub_wr rfl hi.1 hi.2 hg rfl, trivial⟩ (by simp [apartB, apart1, rn, lk]) (by simp [wrNZ, rn, lk]; omega) (by omega)
  exact this
theorem rwHashS {i r : Nat} {bs : List Int} {bad : Bool} {h : ByteArray} (hg : H.get i = some (wrO r bs.length bad)) (hr : H.get r = some ⟨true, .ints .u8 bs⟩) (hi : 0 < i ∧ i < 1000) (hr1 : 0 < r ∧ r < 1000) (hne : i ≠ r) (hn : n + 1 ≤ 1000)
    (hb : bs.length ≤ 1099511627776) (hh : h.size = 32) :
    SpecAt Tryz.prog nrWHash [.ptr i 0, .v (.string h)] H n (.tup []) ⟨(i, some (wrO n (bs ++ bts h).length bad)) :: (r, none) :: (n, some ⟨true, .ints .u8 (bs ++ bts h)⟩) :: H.l, H.x⟩ (n + 1) := by
  have := lift (n := n) (okT.spec trWHash (rwHashW (x := H.x) hb hh)) [(1, i), (2, r)] rfl rfl rfl (by omega) rfl rfl
    ⟨sub_wr rfl hi.1 hi.2 hg rfl, sub_wr rfl hr1.1 hr1.2 hr rfl, trivial⟩ (by simp [apartB, apart1, rn, lk, hne, Ne.symm hne]) (by simp [wrNZ, rn, lk]; omega) (by omega)
  exact this
theorem rwHashNS {i r l : Nat} {bs : List Int} {bad : Bool} {h : ByteArray} (hg : H.get i = some (wrO r l bad)) (hr : H.get r = some ⟨true, .ints .u8 bs⟩) (hi : 0 < i ∧ i < 1000) (hr1 : 0 < r) (hne : i ≠ r)
    (hh : h.size ≠ 32) :
    SpecAt Tryz.prog nrWHash [.ptr i 0, .v (.string h)] H n (.tup []) ⟨(i, some (wrO r l true)) :: H.l, H.x⟩ n := by
  have := lift (n := n) (okT.spec trWHash (rwHashNW (x := H.x) (l := l) (bad := bad) (o := ⟨false, .ints .u8 bs⟩) hh)) [(1, i), (2, r)] rfl rfl rfl (by omega) rfl rfl
    ⟨sub_wr rfl hi.1 hi.2 hg rfl, sub_ro rfl hr1 hr rfl, trivial⟩ (by simp [apartB, apart1, rn, lk, hne, Ne.symm hne]) (by simp [wrNZ, rn, lk]; omega) (by omega)
  exact this
theorem rwBytesS {r l i : Nat} {bs : List Int} {bad : Bool} (hg : H.get i = some (wrO r l bad)) (hr : H.get r = some ⟨true, .ints .u8 bs⟩) (hr0 : r ≠ 0) (hl : l = bs.length) :
    SpecAt Tryz.prog nrWBytes [.ptr i 0] H n (if bad then .tup [.v (.string ⟨#[]⟩), .v (.int .i64 1)] else .tup [.v (.string (tx bs)), .v (.int .i64 0)]) H n := okT.pure trWBytes (by
  unfold mrWBytes
  unfold wrO at hg
  simp -implicitDefEqProofs only [↓fnVC, initTm]
  cases bad with
  | true =>
    simp -implicitDefEqProofs only [go_sem, hg]
  | false =>
    simp -implicitDefEqProofs only [go_sem, hg, hr, hl]
    rw [if_neg hr0]; trivial)
variable {H : Hp} {n : Nat} {x : Nat → Option SO}
def wrV (bad : Bool) (bs : List Int) : SV := if bad then .tup [.v (.string ⟨#[]⟩), .v (.int .i64 1)] else .tup [.v (.string (tx bs)), .v (.int .i64 0)]
theorem wrV_bad {bad : Bool} {bs bs' : List Int} (h : bad = false → bs = bs') : wrV bad bs = wrV bad bs' := by
  unfold wrV
  cases bad with
  | true => rfl
  | false => rw [h rfl]
theorem catb_snoc {l : List ByteArray} {h : ByteArray} : catb (l ++ [h]) = catb l ++ bts h := by simp [catb]
theorem take_snoc {row : List ByteArray} {j : Nat} (h : j < row.length) : row.take (j + 1) = row.take j ++ [row.getD j .empty] := by
  rw [List.take_succ_eq_append_getElem h, List.getD_eq_getElem?_getD, List.getElem?_eq_getElem h]; rfl
variable {H : Hp} {n : Nat} {x : Nat → Option SO}
def rdO (s : ByteArray) (e : Int) : SO := ⟨true, .sv [.v (.string s), .v (.int .i64 e)]⟩
theorem readW {s : ByteArray} : fnVC CT mPRead [.v (.string s)] ⟨[], x⟩ 1 fun v H' n' => Sub 1 ⟨[(0, .ptr 1 0)], ⟨[(1, some (rdO s 0))], x⟩, 2⟩ ⟨[(0, v)], H', n'⟩ := by
  unfold mPRead rdO
  simp -implicitDefEqProofs only [↓fnVC, initTm]
  simp -implicitDefEqProofs only [go_sem]
  refine sub_mk [] rfl rfl rfl ?_
  simp only [tmSub, hpSub, objSub, eqTm, eqHp, rn, lk, SV.ren, SV.renC, SV.renB, SV.renA, ren_ints, ren_strs, ren_pl, ren_svs, SV.v.injEq, Value.int.injEq, Body.ints.injEq, SV.ptr.injEq, SV.sl.injEq, Value.string.injEq, Value.bool.injEq, List.map_cons, List.map_nil, forall_const, Nat.reduceLT, Nat.lt_add_one, imp_self, true_and, and_true, and_self, ob_some, get_mk, lk_cons, ↓reduceIte, Nat.reduceEqDiff, ne_eq, not_true_eq_false, not_false_eq_true, Nat.one_ne_zero, Nat.zero_ne_one, Nat.succ_ne_self, Nat.reduceAdd, Bool.false_eq_true, false_implies, implies_true, reduceCtorEq]
  rfl
theorem errS {s : ByteArray} {e : Int} {i : Nat} (hg : H.get i = some (rdO s e)) : SpecAt Tryz.prog nRErr [.ptr i 0] H n (.v (.int .i64 e)) H n := okT.pure tRErr (by
  unfold mRErr
  unfold rdO at hg
  simp -implicitDefEqProofs only [↓fnVC, initTm]
  simp -implicitDefEqProofs only [go_sem, hg])
theorem leftS {s : ByteArray} {e : Int} {i : Nat} (hg : H.get i = some (rdO s e)) : SpecAt Tryz.prog nRLeft [.ptr i 0] H n (.v (.int .i64 (s.size : Nat))) H n := okT.pure tRLeft (by
  unfold mRLeft
  unfold rdO at hg
  simp -implicitDefEqProofs only [↓fnVC, initTm]
  simp -implicitDefEqProofs only [go_sem, hg])
def rawE (s : ByteArray) (e : Int) (k : Nat) : Int := if e ≠ 0 then e else if s.size < k then 2 else 0
def rawS (s : ByteArray) (e : Int) (k : Nat) : ByteArray := if e ≠ 0 ∨ s.size < k then s else s.extract k s.size
def rawT (s : ByteArray) (e : Int) (k : Nat) : ByteArray := if e ≠ 0 ∨ s.size < k then ⟨#[]⟩ else s.extract 0 k
theorem rawW {s : ByteArray} {e : Int} {k : Nat} (hk : k ≤ 1048576) : fnVC CT mRRaw [.ptr 1 0, .v (.int .i64 k)] ⟨[(1, some (rdO s e))], x⟩ 2 fun v H' n' => Sub 2 ⟨[(0, .v (.string (rawT s e k)))], ⟨[(1, some (rdO (rawS s e k) (rawE s e k)))], x⟩, 2⟩ ⟨[(0, v)], H', n'⟩ := by
  unfold mRRaw
  have g1 : decide ((k : Int) < 0) = false := decide_eq_false (by omega)
  simp -implicitDefEqProofs only [↓fnVC, initTm]
  simp -implicitDefEqProofs only [go_sem]
  refine at_call tRErr (errS (i := 1) (by rfl)) ?_
  by_cases he : e = 0
  · subst he
    have g0 : decide ((0 : Int) = 0) = true := rfl
    by_cases hs : s.size < k
    · have g2 : decide ((k : Int) > (s.size : Int)) = true := decide_eq_true (by omega)
      have r1 : rawT s 0 k = ⟨#[]⟩ := by unfold rawT; rw [if_pos (.inr hs)]
      have r2 : rawS s 0 k = s := by unfold rawS; rw [if_pos (.inr hs)]
      have r3 : rawE s 0 k = 2 := by unfold rawE; rw [if_neg (by simp), if_pos hs]
      simp -implicitDefEqProofs only [go_sem, g0, g1, g2, rdO]
      rw [r1, r2, r3]
      refine sub_mk [] rfl rfl rfl ?_
      simp only [tmSub, hpSub, objSub, eqTm, eqHp, rn, lk, SV.ren, SV.renC, SV.renB, SV.renA, ren_ints, ren_strs, ren_pl, ren_svs, SV.v.injEq, Value.int.injEq, Body.ints.injEq, SV.ptr.injEq, SV.sl.injEq, Value.string.injEq, Value.bool.injEq, List.map_cons, List.map_nil, forall_const, Nat.reduceLT, Nat.lt_add_one, imp_self, true_and, and_true, and_self, ob_some, get_mk, lk_cons, ↓reduceIte, Nat.reduceEqDiff, ne_eq, not_true_eq_false, not_false_eq_true, Nat.one_ne_zero, Nat.zero_ne_one, Nat.succ_ne_self, Nat.reduceAdd, Bool.false_eq_true, false_implies, implies_true, reduceCtorEq]
    · have g2 : decide ((k : Int) > (s.size : Int)) = false := decide_eq_false (by omega)
      have r1 : rawT s 0 k = s.extract 0 k := by unfold rawT; rw [if_neg (by simp; omega)]
      have r2 : rawS s 0 k = s.extract k s.size := by unfold rawS; rw [if_neg (by simp; omega)]
      have r3 : rawE s 0 k = 0 := by unfold rawE; rw [if_neg (by simp), if_neg hs]
      simp -implicitDefEqProofs only [go_sem, g0, g1, g2, rdO]
      rw [r1, r2, r3]
      refine ⟨⟨by omega, by omega⟩, ⟨by omega, by omega, by omega⟩, ?_⟩
      refine sub_mk [] rfl rfl rfl ?_
      simp only [tmSub, hpSub, objSub, eqTm, eqHp, rn, lk, SV.ren, SV.renC, SV.renB, SV.renA, ren_ints, ren_strs, ren_pl, ren_svs, SV.v.injEq, Value.int.injEq, Body.ints.injEq, SV.ptr.injEq, SV.sl.injEq, Value.string.injEq, Value.bool.injEq, List.map_cons, List.map_nil, forall_const, Nat.reduceLT, Nat.lt_add_one, imp_self, true_and, and_true, and_self, ob_some, get_mk, lk_cons, ↓reduceIte, Nat.reduceEqDiff, ne_eq, not_true_eq_false, not_false_eq_true, Nat.one_ne_zero, Nat.zero_ne_one, Nat.succ_ne_self, Nat.reduceAdd, Bool.false_eq_true, false_implies, implies_true, reduceCtorEq]
  · have g0 : decide (e = 0) = false := decide_eq_false he
    have r1 : rawT s e k = ⟨#[]⟩ := by unfold rawT; rw [if_pos (.inl he)]
    have r2 : rawS s e k = s := by unfold rawS; rw [if_pos (.inl he)]
    have r3 : rawE s e k = e := by unfold rawE; rw [if_pos he]
    simp -implicitDefEqProofs only [go_sem, g0, rdO]
    rw [r1, r2, r3]
    refine sub_mk [] rfl rfl rfl ?_
    simp only [tmSub, hpSub, objSub, eqTm, eqHp, rn, lk, SV.ren, SV.renC, SV.renB, SV.renA, ren_ints, ren_strs, ren_pl, ren_svs, SV.v.injEq, Value.int.injEq, Body.ints.injEq, SV.ptr.injEq, SV.sl.injEq, Value.string.injEq, Value.bool.injEq, List.map_cons, List.map_nil, forall_const, Nat.reduceLT, Nat.lt_add_one, imp_self, true_and, and_true, and_self, ob_some, get_mk, lk_cons, ↓reduceIte, Nat.reduceEqDiff, ne_eq, not_true_eq_false, not_false_eq_true, Nat.one_ne_zero, Nat.zero_ne_one, Nat.succ_ne_self, Nat.reduceAdd, Bool.false_eq_true, false_implies, implies_true, reduceCtorEq]
theorem rawSp {s : ByteArray} {e : Int} {k i : Nat} (hg : H.get i = some (rdO s e)) (hi : 0 < i ∧ i < 1000) (hk : k ≤ 1048576) :
    SpecAt Tryz.prog nRRaw [.ptr i 0, .v (.int .i64 k)] H n (.v (.string (rawT s e k))) ⟨(i, some (rdO (rawS s e k) (rawE s e k))) :: H.l, H.x⟩ n := by
  have := lift (n := n) (okT.spec tRRaw (rawW (x := H.x) (s := s) (e := e) hk)) [(1, i)] rfl rfl rfl (by omega) rfl rfl
    ⟨sub_wr rfl hi.1 hi.2 hg rfl, trivial⟩ (by simp [apartB, apart1, rn, lk]) (by simp [wrNZ, rn, lk]; omega) (by omega)
  exact this
theorem hashSp {s : ByteArray} {e : Int} {i : Nat} (hg : H.get i = some (rdO s e)) (hi : 0 < i ∧ i < 1000) :
    SpecAt Tryz.prog nRHash [.ptr i 0] H n (.v (.string (rawT s e 32))) ⟨(i, some (rdO (rawS s e 32) (rawE s e 32))) :: H.l, H.x⟩ n := by
  have := lift (n := n) (okT.spec tRHash (args := [.ptr 1 0]) (H := ⟨[(1, some (rdO s e))], H.x⟩) (n := 2) (v := .v (.string (rawT s e 32))) (H' := ⟨[(1, some (rdO (rawS s e 32) (rawE s e 32)))], H.x⟩) (n' := 2) (by
    unfold mRHash
    simp -implicitDefEqProofs only [↓fnVC, initTm]
    simp -implicitDefEqProofs only [go_sem]
    refine at_call tRRaw (rawSp (i := 1) (k := 32) (by rfl) (by decide) (by decide)) ?_
    simp -implicitDefEqProofs only [go_sem]
    refine sub_mk [] rfl rfl rfl ?_
    simp only [tmSub, hpSub, objSub, eqTm, eqHp, rn, lk, SV.ren, SV.renC, SV.renB, SV.renA, ren_ints, ren_strs, ren_pl, ren_svs, SV.v.injEq, Value.int.injEq, Body.ints.injEq, SV.ptr.injEq, SV.sl.injEq, Value.string.injEq, Value.bool.injEq, List.map_cons, List.map_nil, forall_const, Nat.reduceLT, Nat.lt_add_one, imp_self, true_and, and_true, and_self, ob_some, get_mk, lk_cons, ↓reduceIte, Nat.reduceEqDiff, ne_eq, not_true_eq_false, not_false_eq_true, Nat.one_ne_zero, Nat.zero_ne_one, Nat.succ_ne_self, Nat.reduceAdd, Bool.false_eq_true, false_implies, implies_true, reduceCtorEq]
    rfl)) [(1, i)] rfl rfl rfl (by omega) rfl rfl
    ⟨sub_wr rfl hi.1 hi.2 hg rfl, trivial⟩ (by simp [apartB, apart1, rn, lk]) (by simp [wrNZ, rn, lk]; omega) (by omega)
  exact this
def failE (e f : Int) : Int := if e = 0 then f else e
theorem rfailW {s : ByteArray} {e f : Int} : fnVC CT mrRFail [.ptr 1 0, .v (.int .i64 f)] ⟨[(1, some (rdO s e))], x⟩ 2 fun v H' n' => Sub 2 ⟨[(0, .tup [])], ⟨[(1, some (rdO s (failE e f)))], x⟩, 2⟩ ⟨[(0, v)], H', n'⟩ := by
  unfold mrRFail rdO
  unfold failE
  by_cases he : e = 0
  · have g0 : decide (e = 0) = true := decide_eq_true he
    rw [if_pos he]
    simp -implicitDefEqProofs only [↓fnVC, initTm]
    simp -implicitDefEqProofs only [go_sem, g0]
    refine sub_mk [] rfl rfl rfl ?_
    simp only [tmSub, hpSub, objSub, eqTm, eqHp, rn, lk, SV.ren, SV.renC, SV.renB, SV.renA, ren_ints, ren_strs, ren_pl, ren_svs, SV.v.injEq, Value.int.injEq, Body.ints.injEq, SV.ptr.injEq, SV.sl.injEq, Value.string.injEq, Value.bool.injEq, List.map_cons, List.map_nil, forall_const, Nat.reduceLT, Nat.lt_add_one, imp_self, true_and, and_true, and_self, ob_some, get_mk, lk_cons, ↓reduceIte, Nat.reduceEqDiff, ne_eq, not_true_eq_false, not_false_eq_true, Nat.one_ne_zero, Nat.zero_ne_one, Nat.succ_ne_self, Nat.reduceAdd, Bool.false_eq_true, false_implies, implies_true, reduceCtorEq]
  · have g0 : decide (e = 0) = false := decide_eq_false he
    rw [if_neg he]
    simp -implicitDefEqProofs only [↓fnVC, initTm]
    simp -implicitDefEqProofs only [go_sem, g0]
    refine sub_mk [] rfl rfl rfl ?_
    simp only [tmSub, hpSub, objSub, eqTm, eqHp, rn, lk, SV.ren, SV.renC, SV.renB, SV.renA, ren_ints, ren_strs, ren_pl, ren_svs, SV.v.injEq, Value.int.injEq, Body.ints.injEq, SV.ptr.injEq, SV.sl.injEq, Value.string.injEq, Value.bool.injEq, List.map_cons, List.map_nil, forall_const, Nat.reduceLT, Nat.lt_add_one, imp_self, true_and, and_true, and_self, ob_some, get_mk, lk_cons, ↓reduceIte, Nat.reduceEqDiff, ne_eq, not_true_eq_false, not_false_eq_true, Nat.one_ne_zero, Nat.zero_ne_one, Nat.succ_ne_self, Nat.reduceAdd, Bool.false_eq_true, false_implies, implies_true, reduceCtorEq]
theorem rfailSp {s : ByteArray} {e f : Int} {i : Nat} (hg : H.get i = some (rdO s e)) (hi : 0 < i ∧ i < 1000) :
    SpecAt Tryz.prog nrRFail [.ptr i 0, .v (.int .i64 f)] H n (.tup []) ⟨(i, some (rdO s (failE e f))) :: H.l, H.x⟩ n := by
  have := lift (n := n) (okT.spec trRFail (rfailW (x := H.x) (s := s) (e := e) (f := f))) [(1, i)] rfl rfl rfl (by omega) rfl rfl
    ⟨sub_wr rfl hi.1 hi.2 hg rfl, trivial⟩ (by simp [apartB, apart1, rn, lk]) (by simp [wrNZ, rn, lk]; omega) (by omega)
  exact this
theorem rrawW {s : ByteArray} {e : Int} {k : Nat} (hk : k ≤ 1048576) : fnVC CT mrRRaw [.ptr 1 0, .v (.int .i64 k)] ⟨[(1, some (rdO s e))], x⟩ 2 fun v H' n' => Sub 2 ⟨[(0, .v (.string (rawT s e k)))], ⟨[(1, some (rdO (rawS s e k) (rawE s e k)))], x⟩, 2⟩ ⟨[(0, v)], H', n'⟩ := by
  unfold mrRRaw
  have g1 : decide ((k : Int) < 0) = false := decide_eq_false (by omega)
  by_cases he : e = 0
  · subst he
    have g0 : decide ((0 : Int) = 0) = true := rfl
    by_cases hs : s.size < k
    · have g2 : decide ((k : Int) > (s.size : Int)) = true := decide_eq_true (by omega)
      have r1 : rawT s 0 k = ⟨#[]⟩ := by unfold rawT; rw [if_pos (.inr hs)]
      have r2 : rawS s 0 k = s := by unfold rawS; rw [if_pos (.inr hs)]
      have r3 : rawE s 0 k = 2 := by unfold rawE; rw [if_neg (by simp), if_pos hs]
      simp -implicitDefEqProofs only [↓fnVC, initTm]
      simp -implicitDefEqProofs only [go_sem, g0, g1, g2, rdO]
      refine at_call trRFail (rfailSp (i := 1) (s := s) (e := 0) (by rfl) (by decide)) ?_
      have r4 : failE 0 2 = 2 := rfl
      simp -implicitDefEqProofs only [go_sem]
      rw [r1, r2, r3, r4]
      refine sub_mk [] rfl rfl rfl ?_
      simp only [tmSub, hpSub, objSub, eqTm, eqHp, rn, lk, SV.ren, SV.renC, SV.renB, SV.renA, ren_ints, ren_strs, ren_pl, ren_svs, SV.v.injEq, Value.int.injEq, Body.ints.injEq, SV.ptr.injEq, SV.sl.injEq, Value.string.injEq, Value.bool.injEq, List.map_cons, List.map_nil, forall_const, Nat.reduceLT, Nat.lt_add_one, imp_self, true_and, and_true, and_self, ob_some, get_mk, lk_cons, ↓reduceIte, Nat.reduceEqDiff, ne_eq, not_true_eq_false, not_false_eq_true, Nat.one_ne_zero, Nat.zero_ne_one, Nat.succ_ne_self, Nat.reduceAdd, Bool.false_eq_true, false_implies, implies_true, reduceCtorEq, rdO]
    · have g2 : decide ((k : Int) > (s.size : Int)) = false := decide_eq_false (by omega)
      have r1 : rawT s 0 k = s.extract 0 k := by unfold rawT; rw [if_neg (by simp; omega)]
      have r2 : rawS s 0 k = s.extract k s.size := by unfold rawS; rw [if_neg (by simp; omega)]
      have r3 : rawE s 0 k = 0 := by unfold rawE; rw [if_neg (by simp), if_neg hs]
      simp -implicitDefEqProofs only [↓fnVC, initTm]
      simp -implicitDefEqProofs only [go_sem, g0, g1, g2, rdO]
      rw [r1, r2, r3]
      refine ⟨⟨by omega, by omega⟩, ⟨by omega, by omega, by omega⟩, ?_⟩
      refine sub_mk [] rfl rfl rfl ?_
      simp only [tmSub, hpSub, objSub, eqTm, eqHp, rn, lk, SV.ren, SV.renC, SV.renB, SV.renA, ren_ints, ren_strs, ren_pl, ren_svs, SV.v.injEq, Value.int.injEq, Body.ints.injEq, SV.ptr.injEq, SV.sl.injEq, Value.string.injEq, Value.bool.injEq, List.map_cons, List.map_nil, forall_const, Nat.reduceLT, Nat.lt_add_one, imp_self, true_and, and_true, and_self, ob_some, get_mk, lk_cons, ↓reduceIte, Nat.reduceEqDiff, ne_eq, not_true_eq_false, not_false_eq_true, Nat.one_ne_zero, Nat.zero_ne_one, Nat.succ_ne_self, Nat.reduceAdd, Bool.false_eq_true, false_implies, implies_true, reduceCtorEq]
  · have g0 : decide (e = 0) = false := decide_eq_false he
    have r1 : rawT s e k = ⟨#[]⟩ := by unfold rawT; rw [if_pos (.inl he)]
    have r2 : rawS s e k = s := by unfold rawS; rw [if_pos (.inl he)]
    have r3 : rawE s e k = e := by unfold rawE; rw [if_pos he]
    simp -implicitDefEqProofs only [↓fnVC, initTm]
    simp -implicitDefEqProofs only [go_sem, g0, rdO]
    rw [r1, r2, r3]
    refine sub_mk [] rfl rfl rfl ?_
    simp only [tmSub, hpSub, objSub, eqTm, eqHp, rn, lk, SV.ren, SV.renC, SV.renB, SV.renA, ren_ints, ren_strs, ren_pl, ren_svs, SV.v.injEq, Value.int.injEq, Body.ints.injEq, SV.ptr.injEq, SV.sl.injEq, Value.string.injEq, Value.bool.injEq, List.map_cons, List.map_nil, forall_const, Nat.reduceLT, Nat.lt_add_one, imp_self, true_and, and_true, and_self, ob_some, get_mk, lk_cons, ↓reduceIte, Nat.reduceEqDiff, ne_eq, not_true_eq_false, not_false_eq_true, Nat.one_ne_zero, Nat.zero_ne_one, Nat.succ_ne_self, Nat.reduceAdd, Bool.false_eq_true, false_implies, implies_true, reduceCtorEq]
theorem rrawSp {s : ByteArray} {e : Int} {k i : Nat} (hg : H.get i = some (rdO s e)) (hi : 0 < i ∧ i < 1000) (hk : k ≤ 1048576) :
    SpecAt Tryz.prog nrRRaw [.ptr i 0, .v (.int .i64 k)] H n (.v (.string (rawT s e k))) ⟨(i, some (rdO (rawS s e k) (rawE s e k))) :: H.l, H.x⟩ n := by
  have := lift (n := n) (okT.spec trRRaw (rrawW (x := H.x) (s := s) (e := e) hk)) [(1, i)] rfl rfl rfl (by omega) rfl rfl
    ⟨sub_wr rfl hi.1 hi.2 hg rfl, trivial⟩ (by simp [apartB, apart1, rn, lk]) (by simp [wrNZ, rn, lk]; omega) (by omega)
  exact this
variable {H : Hp} {n : Nat} {x : Nat → Option SO}
def nbs (t : ByteArray) : List Nat := t.data.toList.map (·.toNat)
def nvl (l : List Nat) : Nat := l.foldl (fun a b => a * 256 + b) 0
def num (t : ByteArray) : Nat := nvl (nbs t)
theorem nbs_len {t : ByteArray} : (nbs t).length = t.size := by unfold nbs; rw [List.length_map]; rfl
theorem nbs_lt {t : ByteArray} : ∀ b ∈ nbs t, b < 256 := by
  intro b hb
  obtain ⟨c, _, rfl⟩ := List.mem_map.1 hb
  exact c.toNat_lt
theorem nvl_snoc {l : List Nat} {b : Nat} : nvl (l ++ [b]) = nvl l * 256 + b := by simp [nvl, List.foldl_append]
theorem bts_nbs {t : ByteArray} : bts t = (nbs t).map (fun b : Nat => (b : Int)) := by unfold bts nbs; rw [List.map_map]; rfl
theorem nvl_bound {l : List Nat} (h : ∀ b ∈ l, b < 256) : ∀ {j}, j ≤ l.length → nvl (l.take j) < 256 ^ j
  | 0, _ => by simp [nvl]
  | j + 1, hj => by
    have ih := nvl_bound h (j := j) (by omega)
    have hb := h (l[j]'(by omega)) (List.getElem_mem _)
    rw [List.take_succ_eq_append_getElem (by omega), nvl_snoc, Nat.pow_succ]; omega
theorem nvl_small {l : List Nat} (h : ∀ b ∈ l, b < 256) (h0 : l.getD 0 0 < 128) : ∀ {j}, j ≤ l.length → 1 ≤ j → nvl (l.take j) < 128 * 256 ^ (j - 1)
  | 1, hj, _ => by
    match l, hj, h0 with
    | b :: r, _, h0 => simpa [nvl] using h0
  | j + 2, hj, _ => by
    have ih := nvl_small h h0 (j := j + 1) (by omega) (by omega)
    have hb := h (l[j + 1]'(by omega)) (List.getElem_mem _)
    rw [List.take_succ_eq_append_getElem (by omega), nvl_snoc, show j + 2 - 1 = (j + 1 - 1) + 1 by omega, Nat.pow_succ]
    have : j + 1 - 1 = j := by omega
    rw [this] at ih ⊢
    omega
theorem ior_byte {a b : Nat} (ha : a < 36028797018963968) (hb : b < 256) : ior .i64 ((a * 256 : Nat) : Int) (b : Int) = ((a * 256 + b : Nat) : Int) := by
  show IntKind.i64.wrap ((BitVec.ofInt 64 ((a * 256 : Nat) : Int) ||| BitVec.ofInt 64 (b : Int)).toNat : Nat) = _
  have e : (BitVec.ofInt 64 ((a * 256 : Nat) : Int) ||| BitVec.ofInt 64 (b : Int)).toNat = a * 256 + b := by
    rw [BitVec.ofInt_natCast, BitVec.ofInt_natCast, BitVec.toNat_or, BitVec.toNat_ofNat, BitVec.toNat_ofNat, Nat.mod_eq_of_lt (by omega), Nat.mod_eq_of_lt (by omega)]
    have := Nat.shiftLeft_add_eq_or_of_lt (i := 8) (b := b) (by omega) a
    rw [Nat.shiftLeft_eq, show 2 ^ 8 = 256 from rfl] at this
    omega
  rw [e, wrap_i64 (by omega) (by omega)]
theorem ishl_8 {a : Nat} (ha : a < 36028797018963968) : ishl .i64 (a : Int) 8 = ((a * 256 : Nat) : Int) := by
  unfold ishl
  have hm : min (8 : Int).toNat IntKind.i64.bits = 8 := by decide
  rw [hm, show (2 : Int) ^ 8 = 256 from rfl, wrap_i64 (by omega) (by omega)]; omega
def numOK (t : ByteArray) : Prop := t.size ≤ 7 ∨ (t.size = 8 ∧ (nbs t).getD 0 0 < 128)
theorem numOK.lt {t : ByteArray} (h : numOK t) {j : Nat} (hj : j < t.size) : nvl ((nbs t).take j) < 36028797018963968 := by
  rcases h with h | ⟨h, h0⟩
  · have := nvl_bound (l := nbs t) nbs_lt (j := j) (by rw [nbs_len]; omega)
    have h6 : 256 ^ j ≤ 256 ^ 6 := Nat.pow_le_pow_right (by decide) (by omega)
    have : (256 : Nat) ^ 6 = 281474976710656 := by decide
    omega
  · by_cases hj0 : j = 0
    · subst hj0; simp [nvl]
    · have := nvl_small (l := nbs t) nbs_lt h0 (j := j) (by rw [nbs_len]; omega) (by omega)
      have h6 : 256 ^ (j - 1) ≤ 256 ^ 6 := Nat.pow_le_pow_right (by decide) (by omega)
      have : (256 : Nat) ^ 6 = 281474976710656 := by decide
      omega
theorem num_lt {t : ByteArray} (h : numOK t) : num t < 9223372036854775808 := by
  have hl := nbs_len (t := t)
  have e : num t = nvl ((nbs t).take t.size) := by unfold num; rw [List.take_of_length_le (by omega)]
  rw [e]
  rcases h with h | ⟨h, h0⟩
  · have := nvl_bound (l := nbs t) nbs_lt (j := t.size) (by omega)
    have h6 : 256 ^ t.size ≤ 256 ^ 7 := Nat.pow_le_pow_right (by decide) (by omega)
    have : (256 : Nat) ^ 7 = 72057594037927936 := by decide
    omega
  · have := nvl_small (l := nbs t) nbs_lt h0 (j := t.size) (by omega) (by omega)
    rw [h] at this ⊢
    have : (256 : Nat) ^ 7 = 72057594037927936 := by decide
    omega
theorem bts_getD {t : ByteArray} {j : Nat} (hj : j < t.size) : (bts t).getD j 0 = (((nbs t).getD j 0 : Nat) : Int) := by
  have hl := nbs_len (t := t)
  rw [bts_nbs, List.getD_eq_getElem?_getD, List.getElem?_map, List.getD_eq_getElem?_getD, List.getElem?_eq_getElem (by omega)]; rfl
theorem num_step {t : ByteArray} {j : Nat} (hj : j < t.size) : nvl ((nbs t).take (j + 1)) = nvl ((nbs t).take j) * 256 + (nbs t).getD j 0 := by
  have hl := nbs_len (t := t)
  rw [List.take_succ_eq_append_getElem (by omega), nvl_snoc, List.getD_eq_getElem?_getD, List.getElem?_eq_getElem (by omega)]; rfl
theorem nbs_get_lt {t : ByteArray} {j : Nat} (hj : j < t.size) : (nbs t).getD j 0 < 256 := by
  have hl := nbs_len (t := t)
  rw [List.getD_eq_getElem?_getD, List.getElem?_eq_getElem (by omega)]; exact nbs_lt _ (List.getElem_mem _)
theorem numW {s : ByteArray} {e : Int} {k : Nat} (hk : k ≤ 8) (hok : numOK (rawT s e k)) : fnVC CT mRNumber [.ptr 1 0, .v (.int .i64 k)] ⟨[(1, some (rdO s e))], x⟩ 2 fun v H' n' => Sub 2 ⟨[(0, .v (.int .i64 (num (rawT s e k) : Nat)))], ⟨[(1, some (rdO (rawS s e k) (rawE s e k)))], x⟩, 2⟩ ⟨[(0, v)], H', n'⟩ := by
  unfold mRNumber
  simp -implicitDefEqProofs only [↓fnVC, initTm]
  simp -implicitDefEqProofs only [go_sem]
  refine at_call tRRaw (rawSp (i := 1) (k := k) (by rfl) (by decide) (by omega)) ?_
  generalize hT : rawT s e k = T at hok ⊢
  have hsz : T.size ≤ 8 := by rcases hok with h | h <;> omega
  simp -implicitDefEqProofs only [go_sem]
  refine ⟨by omega, ?_⟩
  refine loop_fam (fun (j : Nat) => j ≤ T.size) (fun j => ⟨[(5, .v (.int .i64 (nvl ((nbs T).take j) : Nat))), (11, .sl 2 0 T.size 1), (12, .v (.int .i64 (T.size : Nat))), (13, .v (.int .i64 j))], ⟨[(1, some (rdO (rawS s e k) (rawE s e k))), (2, some ⟨true, .ints .u8 (bts T)⟩)], x⟩, 3⟩) (fun j => T.size - j) 0 (Nat.zero_le _) ?_ ?_
  · refine sub_mk [] rfl rfl rfl ?_
    simp only [tmSub, hpSub, objSub, eqTm, eqHp, rn, lk, SV.ren, SV.renC, SV.renB, SV.renA, ren_ints, ren_strs, ren_pl, ren_svs, SV.v.injEq, Value.int.injEq, Body.ints.injEq, SV.ptr.injEq, SV.sl.injEq, Value.string.injEq, Value.bool.injEq, List.map_cons, List.map_nil, forall_const, Nat.reduceLT, Nat.lt_add_one, imp_self, true_and, and_true, and_self, ob_some, get_mk, lk_cons, ↓reduceIte, Nat.reduceEqDiff, ne_eq, not_true_eq_false, not_false_eq_true, Nat.one_ne_zero, Nat.zero_ne_one, Nat.succ_ne_self, Nat.reduceAdd, Bool.false_eq_true, false_implies, implies_true, reduceCtorEq]
    exact ⟨⟨rfl, rfl⟩, rfl⟩
  · intro j hj
    simp -implicitDefEqProofs only [go_sem]
    refine condK_bb (fun c => ?_) (fun c => ?_)
    · have c1 : j < T.size := by have := of_decide_eq_true c; omega
      have hb := bts_getD c1
      have hlt := nbs_get_lt c1
      have hv := hok.lt c1
      have w1 := ishl_8 hv
      have w2 : IntKind.i64.wrap (((nbs T).getD j 0 : Nat) : Int) = (((nbs T).getD j 0 : Nat) : Int) := wrap_i64 (by omega) (by omega)
      have w3 := ior_byte hv hlt
      have w4 : IntKind.i64.wrap ((j : Int) + 1) = ((j + 1 : Nat) : Int) := by rw [wrap_i64 (by omega) (by omega)]; omega
      have hs := num_step c1
      simp -implicitDefEqProofs only [go_sem, c, hb, w1, w2, w3, w4]
      refine ⟨⟨by omega, by omega⟩, by rw [bts_len]; exact c1, ?_⟩
      refine kLoop_mk (j + 1) (by omega) (by omega) ?_
      refine sub_mk [] rfl rfl rfl ?_
      simp only [tmSub, hpSub, objSub, eqTm, eqHp, rn, lk, SV.ren, SV.renC, SV.renB, SV.renA, ren_ints, ren_strs, ren_pl, ren_svs, SV.v.injEq, Value.int.injEq, Body.ints.injEq, SV.ptr.injEq, SV.sl.injEq, Value.string.injEq, Value.bool.injEq, List.map_cons, List.map_nil, forall_const, Nat.reduceLT, Nat.lt_add_one, imp_self, true_and, and_true, and_self, ob_some, get_mk, lk_cons, ↓reduceIte, Nat.reduceEqDiff, ne_eq, not_true_eq_false, not_false_eq_true, Nat.one_ne_zero, Nat.zero_ne_one, Nat.succ_ne_self, Nat.reduceAdd, Bool.false_eq_true, false_implies, implies_true, reduceCtorEq, w4, hs]
      rfl
    · have c1 : j = T.size := by have := of_decide_eq_false c; omega
      subst c1
      have hn : nvl ((nbs T).take T.size) = num T := by unfold num; rw [List.take_of_length_le (by rw [nbs_len]; exact Nat.le_refl _)]
      simp -implicitDefEqProofs only [go_sem, c]
      rw [hn]
      refine sub_mk [] rfl rfl rfl ?_
      simp only [tmSub, hpSub, objSub, eqTm, eqHp, rn, lk, SV.ren, SV.renC, SV.renB, SV.renA, ren_ints, ren_strs, ren_pl, ren_svs, SV.v.injEq, Value.int.injEq, Body.ints.injEq, SV.ptr.injEq, SV.sl.injEq, Value.string.injEq, Value.bool.injEq, List.map_cons, List.map_nil, forall_const, Nat.reduceLT, Nat.lt_add_one, imp_self, true_and, and_true, and_self, ob_some, get_mk, lk_cons, ↓reduceIte, Nat.reduceEqDiff, ne_eq, not_true_eq_false, not_false_eq_true, Nat.one_ne_zero, Nat.zero_ne_one, Nat.succ_ne_self, Nat.reduceAdd, Bool.false_eq_true, false_implies, implies_true, reduceCtorEq]
      rfl
theorem numSp {s : ByteArray} {e : Int} {k i : Nat} (hg : H.get i = some (rdO s e)) (hi : 0 < i ∧ i < 1000) (hk : k ≤ 8) (hok : numOK (rawT s e k)) :
    SpecAt Tryz.prog nRNumber [.ptr i 0, .v (.int .i64 k)] H n (.v (.int .i64 (num (rawT s e k) : Nat))) ⟨(i, some (rdO (rawS s e k) (rawE s e k))) :: H.l, H.x⟩ n := by
  have := lift (n := n) (okT.spec tRNumber (numW (x := H.x) (s := s) (e := e) hk hok)) [(1, i)] rfl rfl rfl (by omega) rfl rfl
    ⟨sub_wr rfl hi.1 hi.2 hg rfl, trivial⟩ (by simp [apartB, apart1, rn, lk]) (by simp [wrNZ, rn, lk]; omega) (by omega)
  exact this
end
section
/- The document's Check, lists and sets that are the same. -/
set_option linter.unusedVariables false
set_option linter.unusedSimpArgs false
set_option maxRecDepth 100000
open Go.Proofs
variable {H : Hp} {n : Nat} {x : Nat → Option SO}
theorem rcheckW {l : List ByteArray} {o m : Nat} {ss : List ByteArray} {need : Int} (hl : l = (ss.drop o).take m) (hm : o + m ≤ ss.length) : fnVC CT mrQCheck [.agg [.sl 1 o m 1, .v (.int .i64 need)]] ⟨[(1, some ⟨false, .strs ss⟩)], x⟩ 2 fun v H' n' => Sub 2 ⟨[(0, .v (.int .i64 (if okSet l need = true then 0 else 1)))], ⟨[], x⟩, 2⟩ ⟨[(0, v)], H', n'⟩ := by
  have hll : l.length = m := by rw [hl, List.length_take, List.length_drop]; omega
  have hget : ∀ j, j < m → ss.getD (o + j) .empty = l.getD j .empty := fun j hj => by rw [hl, take_getD hj, drop_getD]
  unfold mrQCheck
  simp -implicitDefEqProofs only [↓fnVC, initTm]
  simp -implicitDefEqProofs only [go_sem]
  by_cases a : 1 ≤ l.length ∧ l.length ≤ 16 ∧ 1 ≤ need ∧ need ≤ l.length
  · have c1 : decide ((m : Int) < 1) = false := decide_eq_false (by omega)
    have c2 : decide ((m : Int) > 16) = false := decide_eq_false (by omega)
    have c3 : decide (need < 1) = false := decide_eq_false (by omega)
    have c4 : decide (need > (m : Int)) = false := decide_eq_false (by omega)
    have f0 : okSet l need = okTo l m := by unfold okSet; rw [decide_eq_true a, hll]; rfl
    rw [f0]
    simp -implicitDefEqProofs only [go_sem, c1, c2, c3, c4]
    refine loop_fam (fun i : Nat => i ≤ m ∧ okTo l i = true) (fun i => ⟨[(1, .ptr 2 0), (2, .v (.int .i64 0)), (3, .v (.int .i64 i))], ⟨[(1, some ⟨false, .strs ss⟩), (2, some ⟨true, .sv [.sl 1 o m 1, .v (.int .i64 need)]⟩)], x⟩, 3⟩) (fun i => m - i) 0 ⟨Nat.zero_le _, rfl⟩ ?_ ?_
    · refine sub_mk [] rfl rfl rfl ?_
      simp only [tmSub, hpSub, objSub, eqTm, eqHp, rn, lk, SV.ren, SV.renC, SV.renB, SV.renA, ren_ints, ren_strs, ren_pl, ren_svs, SV.v.injEq, Value.int.injEq, Body.ints.injEq, SV.ptr.injEq, SV.sl.injEq, Value.string.injEq, Value.bool.injEq, List.map_cons, List.map_nil, forall_const, Nat.reduceLT, Nat.lt_add_one, imp_self, true_and, and_true, and_self, ob_some, get_mk, lk_cons, ↓reduceIte, Nat.reduceEqDiff, ne_eq, not_true_eq_false, not_false_eq_true, Nat.one_ne_zero, Nat.zero_ne_one, Nat.succ_ne_self, Nat.reduceAdd, Bool.false_eq_true, false_implies, implies_true, reduceCtorEq]
      rfl
    · intro i hi
      have hi1 := hi.1
      have hi2 := hi.2
      simp -implicitDefEqProofs only [go_sem]
      refine condK_bb (fun d => ?_) (fun d => ?_)
      · have d1 : i < m := by have := of_decide_eq_true d; omega
        have g1 := hget i d1
        by_cases z : (l.getD i .empty).size = 32
        · have z1 : decide (((l.getD i .empty).size : Int) = 32) = true := decide_eq_true (by omega)
          have w3 : IntKind.i64.wrap ((i : Int) + 1) = ((i + 1 : Nat) : Int) := by rw [wrap_i64 (by omega) (by omega)]; omega
          have hgo : okAt l i = true → okTo l (i + 1) = true := fun h => by simp only [okTo, hi2, h]; rfl
          by_cases y : i = 0
          · have y1 : decide ((i : Int) > 0) = false := decide_eq_false (by omega)
            simp -implicitDefEqProofs only [go_sem, d, g1, z1, y1]
            refine ⟨by omega, by omega, ?_⟩
            refine kLoop_mk (i + 1) ⟨by omega, hgo (by subst y; unfold okAt; rw [decide_eq_true z]; rfl)⟩ (by omega) ?_
            refine sub_mk [] rfl rfl rfl ?_
            simp only [tmSub, hpSub, objSub, eqTm, eqHp, rn, lk, SV.ren, SV.renC, SV.renB, SV.renA, ren_ints, ren_strs, ren_pl, ren_svs, SV.v.injEq, Value.int.injEq, Body.ints.injEq, SV.ptr.injEq, SV.sl.injEq, Value.string.injEq, Value.bool.injEq, List.map_cons, List.map_nil, forall_const, Nat.reduceLT, Nat.lt_add_one, imp_self, true_and, and_true, and_self, ob_some, get_mk, lk_cons, ↓reduceIte, Nat.reduceEqDiff, ne_eq, not_true_eq_false, not_false_eq_true, Nat.one_ne_zero, Nat.zero_ne_one, Nat.succ_ne_self, Nat.reduceAdd, Bool.false_eq_true, false_implies, implies_true, reduceCtorEq]
            exact w3
          · have y1 : decide ((i : Int) > 0) = true := decide_eq_true (by omega)
            have w1 : IntKind.i64.wrap ((i : Int) - 1) = ((i - 1 : Nat) : Int) := by rw [wrap_i64 (by omega) (by omega)]; omega
            have g2 := hget (i - 1) (by omega)
            simp -implicitDefEqProofs only [go_sem, d, g1, z1, y1, w1, g2]
            refine ⟨by omega, by omega, by omega, by omega, by omega, by omega, ?_⟩
            refine condK_bb (fun q => ?_) (fun q => ?_)
            · have hf : okAt l i = false := by
                have q1 : slt (l.getD (i - 1) .empty) (l.getD i .empty) = false := by simpa using q
                unfold okAt; rw [q1, decide_eq_false y]; simp
              have hno : okTo l m = false := okTo_no hf d1
              rw [hno]
              simp -implicitDefEqProofs only [go_sem, q]
              exact sub_val rfl (by decide) (by decide) rfl
            · have q1 : slt (l.getD (i - 1) .empty) (l.getD i .empty) = true := by simpa using q
              simp -implicitDefEqProofs only [go_sem, q, w3]
              refine kLoop_mk (i + 1) ⟨by omega, hgo (by unfold okAt; rw [q1, decide_eq_true z]; simp)⟩ (by omega) ?_
              refine sub_mk [] rfl rfl rfl ?_
              simp only [tmSub, hpSub, objSub, eqTm, eqHp, rn, lk, SV.ren, SV.renC, SV.renB, SV.renA, ren_ints, ren_strs, ren_pl, ren_svs, SV.v.injEq, Value.int.injEq, Body.ints.injEq, SV.ptr.injEq, SV.sl.injEq, Value.string.injEq, Value.bool.injEq, List.map_cons, List.map_nil, forall_const, Nat.reduceLT, Nat.lt_add_one, imp_self, true_and, and_true, and_self, ob_some, get_mk, lk_cons, ↓reduceIte, Nat.reduceEqDiff, ne_eq, not_true_eq_false, not_false_eq_true, Nat.one_ne_zero, Nat.zero_ne_one, Nat.succ_ne_self, Nat.reduceAdd, Bool.false_eq_true, false_implies, implies_true, reduceCtorEq]
        · have z1 : decide (((l.getD i .empty).size : Int) = 32) = false := decide_eq_false (by omega)
          have hf : okAt l i = false := by unfold okAt; rw [decide_eq_false z]; rfl
          have hno : okTo l m = false := okTo_no hf d1
          rw [hno]
          simp -implicitDefEqProofs only [go_sem, d, g1, z1]
          refine ⟨by omega, by omega, ?_⟩
          exact sub_val rfl (by decide) (by decide) rfl
      · have d1 : i = m := by have := of_decide_eq_false d; omega
        subst d1
        simp -implicitDefEqProofs only [go_sem, d]
        rw [hi2]
        exact sub_val rfl (by decide) (by decide) rfl
  · have f0 : okSet l need = false := by unfold okSet; rw [decide_eq_false a]; rfl
    rw [f0]
    by_cases c1 : (m : Int) < 1
    · have e1 : decide ((m : Int) < 1) = true := decide_eq_true c1
      simp -implicitDefEqProofs only [go_sem, e1]
      exact sub_val rfl (by decide) (by decide) rfl
    have e1 : decide ((m : Int) < 1) = false := decide_eq_false c1
    by_cases c2 : (m : Int) > 16
    · have e2 : decide ((m : Int) > 16) = true := decide_eq_true c2
      simp -implicitDefEqProofs only [go_sem, e1, e2]
      exact sub_val rfl (by decide) (by decide) rfl
    have e2 : decide ((m : Int) > 16) = false := decide_eq_false c2
    by_cases c3 : need < 1
    · have e3 : decide (need < 1) = true := decide_eq_true c3
      simp -implicitDefEqProofs only [go_sem, e1, e2, e3]
      exact sub_val rfl (by decide) (by decide) rfl
    have e3 : decide (need < 1) = false := decide_eq_false c3
    have e4 : decide (need > (m : Int)) = true := decide_eq_true (by omega)
    simp -implicitDefEqProofs only [go_sem, e1, e2, e3, e4]
    exact sub_val rfl (by decide) (by decide) rfl
theorem rcheckS {l : List ByteArray} {i o m : Nat} {ss : List ByteArray} {u : Bool} {need : Int} (hi : H.get i = some ⟨u, .strs ss⟩) (h0 : 0 < i) (hl : l = (ss.drop o).take m) (hm : o + m ≤ ss.length) : SpecAt Tryz.prog nrQCheck [.agg [.sl i o m 1, .v (.int .i64 need)]] H n (.v (.int .i64 (if okSet l need = true then 0 else 1))) H n := by
  have := lift_ro (n := n) (H := H) (lc := [(1, some ⟨false, .strs ss⟩)]) (okT.spec trQCheck (rcheckW (x := H.x) (need := need) hl hm)) [(1, i)] rfl rfl rfl (by omega) rfl rfl
    ⟨sub_ro rfl h0 hi rfl, trivial⟩ (by simp [apartB, apart1, rn, lk]) (by simp [wrNZ, rn, lk]) rfl
  exact this
theorem sameW {la lb ss tt : List ByteArray} {o m o' m' : Nat} (ha : la = (ss.drop o).take m) (hb : lb = (tt.drop o').take m') (h1 : o + m ≤ ss.length) (h2 : o' + m' ≤ tt.length) (hm : m ≤ 10000000) :
    fnVC CT mSameTexts [.sl 1 o m 1, .sl 2 o' m' 1] ⟨[(1, some ⟨false, .strs ss⟩), (2, some ⟨false, .strs tt⟩)], x⟩ 3 fun v H' n' => Sub 3 ⟨[(0, .v (.bool (decide (la = lb))))], ⟨[], x⟩, 3⟩ ⟨[(0, v)], H', n'⟩ := by
  have hla : la.length = m := by rw [ha, List.length_take, List.length_drop]; omega
  have hlb : lb.length = m' := by rw [hb, List.length_take, List.length_drop]; omega
  have ga : ∀ j, j < m → ss.getD (o + j) .empty = la.getD j .empty := fun j hj => by rw [ha, take_getD hj, drop_getD]
  have gb : ∀ j, j < m' → tt.getD (o' + j) .empty = lb.getD j .empty := fun j hj => by rw [hb, take_getD hj, drop_getD]
  unfold mSameTexts
  simp -implicitDefEqProofs only [↓fnVC, initTm]
  simp -implicitDefEqProofs only [go_sem]
  by_cases hmm : m = m'
  · subst hmm
    have g0 : decide ((m : Int) = (m : Int)) = true := decide_eq_true rfl
    simp -implicitDefEqProofs only [go_sem, g0]
    refine loop_fam (fun (i : Nat) => i ≤ m ∧ ∀ j, j < i → la.getD j .empty = lb.getD j .empty) (fun i => ⟨[(0, .sl 1 o m 1), (1, .sl 2 o' m 1), (5, .v (.int .i64 i))], ⟨[(1, some ⟨false, .strs ss⟩), (2, some ⟨false, .strs tt⟩)], x⟩, 3⟩) (fun i => m - i) 0 ⟨Nat.zero_le _, fun j hj => absurd hj (Nat.not_lt_zero _)⟩ ?_ ?_
    · refine sub_mk [] rfl rfl rfl ?_
      simp only [tmSub, hpSub, objSub, eqTm, eqHp, rn, lk, SV.ren, SV.renC, SV.renB, SV.renA, ren_ints, ren_strs, ren_pl, ren_svs, SV.v.injEq, Value.int.injEq, Body.ints.injEq, SV.ptr.injEq, SV.sl.injEq, Value.string.injEq, Value.bool.injEq, List.map_cons, List.map_nil, forall_const, Nat.reduceLT, Nat.lt_add_one, imp_self, true_and, and_true, and_self, ob_some, get_mk, lk_cons, ↓reduceIte, Nat.reduceEqDiff, ne_eq, not_true_eq_false, not_false_eq_true, Nat.one_ne_zero, Nat.zero_ne_one, Nat.succ_ne_self, Nat.reduceAdd, Bool.false_eq_true, false_implies, implies_true, reduceCtorEq]
      rfl
    · rintro i ⟨hi, he⟩
      simp -implicitDefEqProofs only [go_sem]
      refine condK_bb (fun c => ?_) (fun c => ?_)
      · have c1 : i < m := by have := of_decide_eq_true c; omega
        have w3 : IntKind.i64.wrap ((i : Int) + 1) = ((i + 1 : Nat) : Int) := by rw [wrap_i64 (by omega) (by omega)]; omega
        have g1 := ga i c1
        have g2 := gb i c1
        by_cases e : la.getD i .empty = lb.getD i .empty
        · have hq : seq (la.getD i .empty) (lb.getD i .empty) = true := by rw [e]; exact seq_self _
          simp -implicitDefEqProofs only [go_sem, c, g1, g2, hq, w3]
          refine ⟨⟨by omega, by omega⟩, by omega, ⟨by omega, by omega⟩, by omega, ?_⟩
          refine kLoop_mk (i + 1) ⟨by omega, fun j hj => ?_⟩ (by omega) ?_
          · by_cases q : j = i
            · subst q; exact e
            · exact he j (by omega)
          refine sub_mk [] rfl rfl rfl ?_
          simp only [tmSub, hpSub, objSub, eqTm, eqHp, rn, lk, SV.ren, SV.renC, SV.renB, SV.renA, ren_ints, ren_strs, ren_pl, ren_svs, SV.v.injEq, Value.int.injEq, Body.ints.injEq, SV.ptr.injEq, SV.sl.injEq, Value.string.injEq, Value.bool.injEq, List.map_cons, List.map_nil, forall_const, Nat.reduceLT, Nat.lt_add_one, imp_self, true_and, and_true, and_self, ob_some, get_mk, lk_cons, ↓reduceIte, Nat.reduceEqDiff, ne_eq, not_true_eq_false, not_false_eq_true, Nat.one_ne_zero, Nat.zero_ne_one, Nat.succ_ne_self, Nat.reduceAdd, Bool.false_eq_true, false_implies, implies_true, reduceCtorEq, w3]
        · have hq : seq (la.getD i .empty) (lb.getD i .empty) = false := seq_ne e
          have hne : decide (la = lb) = false := decide_eq_false fun h => e (by rw [h])
          rw [hne]
          simp -implicitDefEqProofs only [go_sem, c, g1, g2, hq]
          refine ⟨⟨by omega, by omega⟩, by omega, ⟨by omega, by omega⟩, by omega, ?_⟩
          exact sub_val rfl (by decide) (by decide) rfl
      · have c1 : i = m := by have := of_decide_eq_false c; omega
        subst c1
        have hyes : decide (la = lb) = true := decide_eq_true (List.ext_getElem (by omega) fun j h1 h2 => by
          have := he j (by omega)
          rw [List.getD_eq_getElem?_getD, List.getD_eq_getElem?_getD, List.getElem?_eq_getElem h1, List.getElem?_eq_getElem h2] at this
          exact this)
        rw [hyes]
        simp -implicitDefEqProofs only [go_sem, c]
        exact sub_val rfl (by decide) (by decide) rfl
  · have g0 : decide ((m : Int) = (m' : Int)) = false := decide_eq_false (by omega)
    have hne : decide (la = lb) = false := decide_eq_false fun h => hmm (by rw [← hla, ← hlb, h])
    rw [hne]
    simp -implicitDefEqProofs only [go_sem, g0]
    exact sub_val rfl (by decide) (by decide) rfl
theorem sameS {la lb ss tt : List ByteArray} {a b o m o' m' : Nat} {u1 u2 : Bool} (h3 : H.get a = some ⟨u1, .strs ss⟩) (h4 : H.get b = some ⟨u2, .strs tt⟩) (ne : 0 < a ∧ 0 < b) (ha : la = (ss.drop o).take m) (hb : lb = (tt.drop o').take m') (h1 : o + m ≤ ss.length) (h2 : o' + m' ≤ tt.length) (hm : m ≤ 10000000) :
    SpecAt Tryz.prog nSameTexts [.sl a o m 1, .sl b o' m' 1] H n (.v (.bool (decide (la = lb)))) H n := by
  have := lift_ro (n := n) (H := H) (lc := [(1, some ⟨false, .strs ss⟩), (2, some ⟨false, .strs tt⟩)]) (okT.spec tSameTexts (sameW (x := H.x) ha hb h1 h2 hm)) [(1, a), (2, b)] rfl rfl rfl (by omega) rfl rfl
    ⟨sub_ro rfl ne.1 h3 rfl, sub_ro rfl ne.2 h4 rfl, trivial⟩ (by simp [apartB, apart1, rn, lk]) (by simp [wrNZ, rn, lk]) rfl
  exact this
theorem rsameN : SpecAt Tryz.prog nrQSame [.agg [.sl 0 0 0 1, .v (.int .i64 0)], .agg [.sl 0 0 0 1, .v (.int .i64 0)]] H n (.v (.bool true)) H n := lift_pure (okT.spec trQSame (by
  unfold mrQSame
  have g0 : decide ((0 : Int) = 0) = true := rfl
  simp -implicitDefEqProofs only [↓fnVC, initTm]
  simp -implicitDefEqProofs only [go_sem, g0]
  refine in_call mixT tSameTexts ?_
  unfold mSameTexts
  simp -implicitDefEqProofs only [↓fnVC, initTm]
  simp -implicitDefEqProofs only [go_sem, g0]
  refine loop_roll 1 ?_
  rw [LoopU_succ]
  have g1 : decide ((0 : Int) < ((0 : Nat) : Int)) = false := rfl
  simp -implicitDefEqProofs only [go_sem, g1]
  exact sub_val rfl (by decide) (by decide) rfl)) rfl
theorem rsameW {l ss tt : List ByteArray} {c : Nat} {nd : Int} (ha : l = (ss.drop 0).take c) (hb : l = (tt.drop 0).take c) (h1 : 0 + c ≤ ss.length) (h2 : 0 + c ≤ tt.length) (hc : c ≤ 10000000) :
    fnVC CT mrQSame [.agg [.sl 1 0 c 1, .v (.int .i64 nd)], .agg [.sl 2 0 c 1, .v (.int .i64 nd)]] ⟨[(1, some ⟨false, .strs ss⟩), (2, some ⟨false, .strs tt⟩)], x⟩ 3 fun v H' n' => Sub 3 ⟨[(0, .v (.bool true))], ⟨[], x⟩, 3⟩ ⟨[(0, v)], H', n'⟩ := by
  unfold mrQSame
  have g0 : decide (nd = nd) = true := decide_eq_true rfl
  simp -implicitDefEqProofs only [↓fnVC, initTm]
  simp -implicitDefEqProofs only [go_sem, g0]
  refine at_call tSameTexts (sameS (a := 1) (b := 2) (la := l) (lb := l) (by rfl) (by rfl) (by decide) ha hb h1 h2 hc) ?_
  rw [decide_eq_true rfl]
  simp -implicitDefEqProofs only [go_sem]
  exact sub_val rfl (by decide) (by decide) rfl
theorem rsameS {l ss tt : List ByteArray} {a b c : Nat} {nd : Int} {u1 u2 : Bool} (h3 : H.get a = some ⟨u1, .strs ss⟩) (h4 : H.get b = some ⟨u2, .strs tt⟩) (ne : 0 < a ∧ 0 < b) (ha : l = (ss.drop 0).take c) (hb : l = (tt.drop 0).take c) (h1 : 0 + c ≤ ss.length) (h2 : 0 + c ≤ tt.length) (hc : c ≤ 10000000) :
    SpecAt Tryz.prog nrQSame [.agg [.sl a 0 c 1, .v (.int .i64 nd)], .agg [.sl b 0 c 1, .v (.int .i64 nd)]] H n (.v (.bool true)) H n := by
  have := lift_ro (n := n) (H := H) (lc := [(1, some ⟨false, .strs ss⟩), (2, some ⟨false, .strs tt⟩)]) (okT.spec trQSame (rsameW (x := H.x) (nd := nd) ha hb h1 h2 hc)) [(1, a), (2, b)] rfl rfl rfl (by omega) rfl rfl
    ⟨sub_ro rfl ne.1 h3 rfl, sub_ro rfl ne.2 h4 rfl, trivial⟩ (by simp [apartB, apart1, rn, lk]) (by simp [wrNZ, rn, lk]) rfl
  exact this
end
section
/- Readers: the document's numbers; texts, on both sides. -/
set_option linter.unusedVariables false
set_option linter.unusedSimpArgs false
set_option maxRecDepth 100000
open Go.Proofs
variable {H : Hp} {n : Nat} {x : Nat → Option SO}
theorem rawT_size {s : ByteArray} {e : Int} {k : Nat} : (rawT s e k).size ≤ k := by
  unfold rawT
  split
  · exact Nat.zero_le _
  · rw [ByteArray.size_extract]; omega
theorem raw_no {s : ByteArray} {e : Int} {k : Nat} (h : e ≠ 0) : rawT s e k = ⟨#[]⟩ ∧ rawS s e k = s ∧ rawE s e k = e := ⟨if_pos (.inl h), if_pos (.inl h), if_pos h⟩
theorem raw_short {s : ByteArray} {k : Nat} (h : s.size < k) : rawT s 0 k = ⟨#[]⟩ ∧ rawS s 0 k = s ∧ rawE s 0 k = 2 := ⟨if_pos (.inr h), if_pos (.inr h), by unfold rawE; rw [if_neg (fun h => h rfl), if_pos h]⟩
theorem raw_ok {s : ByteArray} {k : Nat} (h : ¬ s.size < k) : rawT s 0 k = s.extract 0 k ∧ rawS s 0 k = s.extract k s.size ∧ rawE s 0 k = 0 := ⟨if_neg (fun q => q.elim (fun q => q rfl) h), if_neg (fun q => q.elim (fun q => q rfl) h), by unfold rawE; rw [if_neg (fun h => h rfl), if_neg h]⟩
theorem rnumW {s : ByteArray} {e : Int} {k : Nat} (hk : k ≤ 7) : fnVC CT mrRNumber [.ptr 1 0, .v (.int .i64 k)] ⟨[(1, some (rdO s e))], x⟩ 2 fun v H' n' => Sub 2 ⟨[(0, .v (.int .i64 (num (rawT s e k) : Nat)))], ⟨[(1, some (rdO (rawS s e k) (rawE s e k)))], x⟩, 2⟩ ⟨[(0, v)], H', n'⟩ := by
  unfold mrRNumber
  have hok : numOK (rawT s e k) := .inl (by have := rawT_size (s := s) (e := e) (k := k); omega)
  have g8 : decide ((k : Int) = 8) = false := decide_eq_false (by omega)
  simp -implicitDefEqProofs only [↓fnVC, initTm]
  simp -implicitDefEqProofs only [go_sem, g8]
  refine at_call trRRaw (rrawSp (i := 1) (k := k) (s := s) (e := e) (by rfl) (by decide) (by omega)) ?_
  generalize rawT s e k = T at hok ⊢
  have hsz : T.size ≤ 8 := by rcases hok with h | h <;> omega
  simp -implicitDefEqProofs only [go_sem]
  refine loop_fam (fun (j : Nat) => j ≤ T.size) (fun j => ⟨[(5, .v (.string T)), (6, .v (.int .i64 (nvl ((nbs T).take j) : Nat))), (7, .v (.int .i64 j))], ⟨[(1, some (rdO (rawS s e k) (rawE s e k)))], x⟩, 2⟩) (fun j => T.size - j) 0 (Nat.zero_le _) ?_ ?_
  · refine sub_mk [] rfl rfl rfl ?_
    simp only [tmSub, hpSub, objSub, eqTm, eqHp, rn, lk, SV.ren, SV.renC, SV.renB, SV.renA, ren_ints, ren_strs, ren_pl, ren_svs, SV.v.injEq, Value.int.injEq, Body.ints.injEq, SV.ptr.injEq, SV.sl.injEq, Value.string.injEq, Value.bool.injEq, List.map_cons, List.map_nil, forall_const, Nat.reduceLT, Nat.lt_add_one, imp_self, true_and, and_true, and_self, ob_some, get_mk, lk_cons, ↓reduceIte, Nat.reduceEqDiff, ne_eq, not_true_eq_false, not_false_eq_true, Nat.one_ne_zero, Nat.zero_ne_one, Nat.succ_ne_self, Nat.reduceAdd, Bool.false_eq_true, false_implies, implies_true, reduceCtorEq]
    exact ⟨⟨rfl, rfl⟩, rfl⟩
  · intro j hj
    simp -implicitDefEqProofs only [go_sem]
    refine condK_bb (fun c => ?_) (fun c => ?_)
    · have c1 : j < T.size := by have := of_decide_eq_true c; omega
      have hb := bts_getD c1
      have hlt := nbs_get_lt c1
      have hv := hok.lt c1
      have w1 := ishl_8 hv
      have w2 : IntKind.i64.wrap (((nbs T).getD j 0 : Nat) : Int) = (((nbs T).getD j 0 : Nat) : Int) := wrap_i64 (by omega) (by omega)
      have w3 := ior_byte hv hlt
      have w4 : IntKind.i64.wrap ((j : Int) + 1) = ((j + 1 : Nat) : Int) := by rw [wrap_i64 (by omega) (by omega)]; omega
      have hs := num_step c1
      simp -implicitDefEqProofs only [go_sem, c, hb, w1, w2, w3, w4]
      refine ⟨⟨by omega, by omega⟩, ?_⟩
      refine kLoop_mk (j + 1) (by omega) (by omega) ?_
      refine sub_mk [] rfl rfl rfl ?_
      simp only [tmSub, hpSub, objSub, eqTm, eqHp, rn, lk, SV.ren, SV.renC, SV.renB, SV.renA, ren_ints, ren_strs, ren_pl, ren_svs, SV.v.injEq, Value.int.injEq, Body.ints.injEq, SV.ptr.injEq, SV.sl.injEq, Value.string.injEq, Value.bool.injEq, List.map_cons, List.map_nil, forall_const, Nat.reduceLT, Nat.lt_add_one, imp_self, true_and, and_true, and_self, ob_some, get_mk, lk_cons, ↓reduceIte, Nat.reduceEqDiff, ne_eq, not_true_eq_false, not_false_eq_true, Nat.one_ne_zero, Nat.zero_ne_one, Nat.succ_ne_self, Nat.reduceAdd, Bool.false_eq_true, false_implies, implies_true, reduceCtorEq, w4, hs]
      rfl
    · have c1 : j = T.size := by have := of_decide_eq_false c; omega
      subst c1
      have hn : nvl ((nbs T).take T.size) = num T := by unfold num; rw [List.take_of_length_le (by rw [nbs_len]; exact Nat.le_refl _)]
      simp -implicitDefEqProofs only [go_sem, c]
      rw [hn]
      refine sub_mk [] rfl rfl rfl ?_
      simp only [tmSub, hpSub, objSub, eqTm, eqHp, rn, lk, SV.ren, SV.renC, SV.renB, SV.renA, ren_ints, ren_strs, ren_pl, ren_svs, SV.v.injEq, Value.int.injEq, Body.ints.injEq, SV.ptr.injEq, SV.sl.injEq, Value.string.injEq, Value.bool.injEq, List.map_cons, List.map_nil, forall_const, Nat.reduceLT, Nat.lt_add_one, imp_self, true_and, and_true, and_self, ob_some, get_mk, lk_cons, ↓reduceIte, Nat.reduceEqDiff, ne_eq, not_true_eq_false, not_false_eq_true, Nat.one_ne_zero, Nat.zero_ne_one, Nat.succ_ne_self, Nat.reduceAdd, Bool.false_eq_true, false_implies, implies_true, reduceCtorEq]
      rfl
theorem rnumSp {s : ByteArray} {e : Int} {k i : Nat} (hg : H.get i = some (rdO s e)) (hi : 0 < i ∧ i < 1000) (hk : k ≤ 7) :
    SpecAt Tryz.prog nrRNumber [.ptr i 0, .v (.int .i64 k)] H n (.v (.int .i64 (num (rawT s e k) : Nat))) ⟨(i, some (rdO (rawS s e k) (rawE s e k))) :: H.l, H.x⟩ n := by
  have := lift (n := n) (okT.spec trRNumber (rnumW (x := H.x) (s := s) (e := e) hk)) [(1, i)] rfl rfl rfl (by omega) rfl rfl
    ⟨sub_wr rfl hi.1 hi.2 hg rfl, trivial⟩ (by simp [apartB, apart1, rn, lk]) (by simp [wrNZ, rn, lk]; omega) (by omega)
  exact this
theorem rreadS0 {s : ByteArray} (hn : n + 1 ≤ 1000) : SpecAt Tryz.prog nrRead [.v (.string s)] H n (.ptr n 0) ⟨(n, some (rdO s 0)) :: H.l, H.x⟩ (n + 1) := by
  have := lift (n := n) (okT.spec trRead (args := [.v (.string s)]) (H := ⟨[], H.x⟩) (n := 1) (v := .ptr 1 0) (H' := ⟨[(1, some (rdO s 0))], H.x⟩) (n' := 2) (by
    unfold mrRead
    simp -implicitDefEqProofs only [↓fnVC, initTm]
    simp -implicitDefEqProofs only [go_sem]
    refine sub_mk [] rfl rfl rfl ?_
    simp only [tmSub, hpSub, objSub, eqTm, eqHp, rn, lk, SV.ren, SV.renC, SV.renB, SV.renA, ren_ints, ren_strs, ren_pl, ren_svs, SV.v.injEq, Value.int.injEq, Body.ints.injEq, SV.ptr.injEq, SV.sl.injEq, Value.string.injEq, Value.bool.injEq, List.map_cons, List.map_nil, forall_const, Nat.reduceLT, Nat.lt_add_one, imp_self, true_and, and_true, and_self, ob_some, get_mk, lk_cons, ↓reduceIte, Nat.reduceEqDiff, ne_eq, not_true_eq_false, not_false_eq_true, Nat.one_ne_zero, Nat.zero_ne_one, Nat.succ_ne_self, Nat.reduceAdd, Bool.false_eq_true, false_implies, implies_true, reduceCtorEq, rdO]
    rfl)) [] rfl rfl rfl (by omega) rfl rfl trivial rfl rfl (by omega)
  exact this
theorem preadS {s : ByteArray} (hn : n + 1 ≤ 1000) : SpecAt Tryz.prog nPRead [.v (.string s)] H n (.ptr n 0) ⟨(n, some (rdO s 0)) :: H.l, H.x⟩ (n + 1) := by
  have := lift (n := n) (okT.spec tPRead (readW (x := H.x) (s := s))) [] rfl rfl rfl (by omega) rfl rfl trivial rfl rfl (by omega)
  exact this
def txR (s : ByteArray) (e : Int) : ByteArray × ByteArray × Int :=
  if e ≠ 0 ∨ s.size < 2 then (⟨#[]⟩, s, if e ≠ 0 then e else 2) else
    let v := num (s.extract 0 2)
    let f : Int := if 1024 < v then 4 else 0
    (rawT (s.extract 2 s.size) f v, if rawE (s.extract 2 s.size) f v ≠ 0 then s else rawS (s.extract 2 s.size) f v, rawE (s.extract 2 s.size) f v)
theorem textW {s : ByteArray} {e : Int} : fnVC CT mRText [.ptr 1 0, .v (.int .i64 1024)] ⟨[(1, some (rdO s e))], x⟩ 2 fun v H' n' => Sub 2 ⟨[(0, .v (.string (txR s e).1))], ⟨[(1, some (rdO (txR s e).2.1 (txR s e).2.2))], x⟩, 2⟩ ⟨[(0, v)], H', n'⟩ := by
  unfold mRText
  simp -implicitDefEqProofs only [↓fnVC, initTm]
  simp -implicitDefEqProofs only [go_sem]
  refine at_call tRErr (errS (i := 1) (s := s) (e := e) (by rfl)) ?_
  unfold txR
  by_cases he : e = 0
  · subst he
    have d0 : decide ((0 : Int) = 0) = true := rfl
    unfold rdO
    simp -implicitDefEqProofs only [go_sem, d0]
    refine in_call mixT tRTwo ?_
    unfold mRTwo
    simp -implicitDefEqProofs only [↓fnVC, initTm]
    simp -implicitDefEqProofs only [go_sem]
    refine at_call tRNumber (numSp (i := 1) (s := s) (e := 0) (k := 2) (by rfl) (by decide) (by decide) (.inl (Nat.le_trans rawT_size (by decide)))) ?_
    by_cases h2 : s.size < 2
    · obtain ⟨r1, r2, r3⟩ := raw_short h2
      have hn0 : num ⟨#[]⟩ = 0 := rfl
      rw [r1, r2, r3, hn0, if_pos (.inr h2), if_neg (fun h => h rfl)]
      unfold rdO
      have d1 : decide (((0 : Nat) : Int) > max 1024 0) = false := by decide
      simp -implicitDefEqProofs only [go_sem, d1]
      refine at_call tRRaw (rawSp (i := 1) (s := s) (e := 2) (k := 0) (by rfl) (by decide) (by decide)) ?_
      obtain ⟨r4, r5, r6⟩ := raw_no (s := s) (e := 2) (k := 0) (by decide)
      rw [r4, r5, r6]
      unfold rdO
      have d2 : decide ((2 : Int) = 0) = false := rfl
      simp -implicitDefEqProofs only [go_sem, d2]
      refine sub_mk [] rfl rfl rfl ?_
      simp only [tmSub, hpSub, objSub, eqTm, eqHp, rn, lk, SV.ren, SV.renC, SV.renB, SV.renA, ren_ints, ren_strs, ren_pl, ren_svs, SV.v.injEq, Value.int.injEq, Body.ints.injEq, SV.ptr.injEq, SV.sl.injEq, Value.string.injEq, Value.bool.injEq, List.map_cons, List.map_nil, forall_const, Nat.reduceLT, Nat.lt_add_one, imp_self, true_and, and_true, and_self, ob_some, get_mk, lk_cons, ↓reduceIte, Nat.reduceEqDiff, ne_eq, not_true_eq_false, not_false_eq_true, Nat.one_ne_zero, Nat.zero_ne_one, Nat.succ_ne_self, Nat.reduceAdd, Bool.false_eq_true, false_implies, implies_true, reduceCtorEq]
    · obtain ⟨r1, r2, r3⟩ := raw_ok h2
      rw [r1, r2, r3, if_neg (fun h => h.elim (fun h => h rfl) h2)]
      have hv : num (s.extract 0 2) < 65536 := by
        have := nvl_bound (l := nbs (s.extract 0 2)) nbs_lt (j := (nbs (s.extract 0 2)).length) (Nat.le_refl _)
        rw [List.take_length, nbs_len, ext_size _ (show 2 ≤ s.size by omega) (by decide)] at this
        exact this
      generalize num (s.extract 0 2) = v at hv ⊢
      generalize s.extract 2 s.size = s1
      unfold rdO
      by_cases hb : 1024 < v
      · have d1 : decide ((v : Int) > max 1024 0) = true := decide_eq_true (by omega)
        simp only [hb, if_true]
        simp -implicitDefEqProofs only [go_sem, d1]
        refine in_call mixT tRFail ?_
        unfold mRFail
        simp -implicitDefEqProofs only [↓fnVC, initTm]
        simp -implicitDefEqProofs only [go_sem]
        refine at_call tRErr (errS (i := 1) (s := s1) (e := 0) (by rfl)) ?_
        have d3 : decide ((0 : Int) = 0) = true := rfl
        have d4 : decide ((4 : Int) = 0) = false := rfl
        simp -implicitDefEqProofs only [go_sem, d3]
        refine at_call tRRaw (rawSp (i := 1) (s := s1) (e := 4) (k := v) (by rfl) (by decide) (by omega)) ?_
        obtain ⟨r4, r5, r6⟩ := raw_no (s := s1) (e := 4) (k := v) (by decide)
        rw [r4, r5, r6, if_pos (by decide)]
        unfold rdO
        simp -implicitDefEqProofs only [go_sem, d4]
        refine sub_mk [] rfl rfl rfl ?_
        simp only [tmSub, hpSub, objSub, eqTm, eqHp, rn, lk, SV.ren, SV.renC, SV.renB, SV.renA, ren_ints, ren_strs, ren_pl, ren_svs, SV.v.injEq, Value.int.injEq, Body.ints.injEq, SV.ptr.injEq, SV.sl.injEq, Value.string.injEq, Value.bool.injEq, List.map_cons, List.map_nil, forall_const, Nat.reduceLT, Nat.lt_add_one, imp_self, true_and, and_true, and_self, ob_some, get_mk, lk_cons, ↓reduceIte, Nat.reduceEqDiff, ne_eq, not_true_eq_false, not_false_eq_true, Nat.one_ne_zero, Nat.zero_ne_one, Nat.succ_ne_self, Nat.reduceAdd, Bool.false_eq_true, false_implies, implies_true, reduceCtorEq]
      · have d1 : decide ((v : Int) > max 1024 0) = false := decide_eq_false (by omega)
        simp only [hb, if_false]
        simp -implicitDefEqProofs only [go_sem, d1]
        refine at_call tRRaw (rawSp (i := 1) (s := s1) (e := 0) (k := v) (by rfl) (by decide) (by omega)) ?_
        by_cases hs : s1.size < v
        · obtain ⟨r4, r5, r6⟩ := raw_short hs
          rw [r4, r5, r6, if_pos (by decide)]
          have d2 : decide ((2 : Int) = 0) = false := rfl
          unfold rdO
          simp -implicitDefEqProofs only [go_sem, d2]
          refine sub_mk [] rfl rfl rfl ?_
          simp only [tmSub, hpSub, objSub, eqTm, eqHp, rn, lk, SV.ren, SV.renC, SV.renB, SV.renA, ren_ints, ren_strs, ren_pl, ren_svs, SV.v.injEq, Value.int.injEq, Body.ints.injEq, SV.ptr.injEq, SV.sl.injEq, Value.string.injEq, Value.bool.injEq, List.map_cons, List.map_nil, forall_const, Nat.reduceLT, Nat.lt_add_one, imp_self, true_and, and_true, and_self, ob_some, get_mk, lk_cons, ↓reduceIte, Nat.reduceEqDiff, ne_eq, not_true_eq_false, not_false_eq_true, Nat.one_ne_zero, Nat.zero_ne_one, Nat.succ_ne_self, Nat.reduceAdd, Bool.false_eq_true, false_implies, implies_true, reduceCtorEq]
        · obtain ⟨r4, r5, r6⟩ := raw_ok hs
          rw [r4, r5, r6, if_neg (fun h => h rfl)]
          have d2 : decide ((0 : Int) = 0) = true := rfl
          unfold rdO
          simp -implicitDefEqProofs only [go_sem, d2]
          refine sub_mk [] rfl rfl rfl ?_
          simp only [tmSub, hpSub, objSub, eqTm, eqHp, rn, lk, SV.ren, SV.renC, SV.renB, SV.renA, ren_ints, ren_strs, ren_pl, ren_svs, SV.v.injEq, Value.int.injEq, Body.ints.injEq, SV.ptr.injEq, SV.sl.injEq, Value.string.injEq, Value.bool.injEq, List.map_cons, List.map_nil, forall_const, Nat.reduceLT, Nat.lt_add_one, imp_self, true_and, and_true, and_self, ob_some, get_mk, lk_cons, ↓reduceIte, Nat.reduceEqDiff, ne_eq, not_true_eq_false, not_false_eq_true, Nat.one_ne_zero, Nat.zero_ne_one, Nat.succ_ne_self, Nat.reduceAdd, Bool.false_eq_true, false_implies, implies_true, reduceCtorEq]
  · have d0 : decide (e = 0) = false := decide_eq_false he
    rw [if_pos (.inl he), if_pos he]
    simp -implicitDefEqProofs only [go_sem, d0]
    refine sub_mk [] rfl rfl rfl ?_
    simp only [tmSub, hpSub, objSub, eqTm, eqHp, rn, lk, SV.ren, SV.renC, SV.renB, SV.renA, ren_ints, ren_strs, ren_pl, ren_svs, SV.v.injEq, Value.int.injEq, Body.ints.injEq, SV.ptr.injEq, SV.sl.injEq, Value.string.injEq, Value.bool.injEq, List.map_cons, List.map_nil, forall_const, Nat.reduceLT, Nat.lt_add_one, imp_self, true_and, and_true, and_self, ob_some, get_mk, lk_cons, ↓reduceIte, Nat.reduceEqDiff, ne_eq, not_true_eq_false, not_false_eq_true, Nat.one_ne_zero, Nat.zero_ne_one, Nat.succ_ne_self, Nat.reduceAdd, Bool.false_eq_true, false_implies, implies_true, reduceCtorEq, rdO]
end
section
/- Readers: bytes, texts, what fails; on both sides. -/
set_option linter.unusedVariables false
set_option linter.unusedSimpArgs false
set_option maxRecDepth 100000
open Go.Proofs
variable {H : Hp} {n : Nat} {x : Nat → Option SO}
theorem textS {s : ByteArray} {e : Int} {i : Nat} (hg : H.get i = some (rdO s e)) (hi : 0 < i ∧ i < 1000) :
    SpecAt Tryz.prog nRText [.ptr i 0, .v (.int .i64 1024)] H n (.v (.string (txR s e).1)) ⟨(i, some (rdO (txR s e).2.1 (txR s e).2.2)) :: H.l, H.x⟩ n := by
  have := lift (n := n) (okT.spec tRText (textW (x := H.x) (s := s) (e := e))) [(1, i)] rfl rfl rfl (by omega) rfl rfl
    ⟨sub_wr rfl hi.1 hi.2 hg rfl, trivial⟩ (by simp [apartB, apart1, rn, lk]) (by simp [wrNZ, rn, lk]; omega) (by omega)
  exact this
theorem rtextW {s : ByteArray} {e : Int} : fnVC CT mrRText [.ptr 1 0, .v (.int .i64 1024)] ⟨[(1, some (rdO s e))], x⟩ 2 fun v H' n' => Sub 2 ⟨[(0, .v (.string (txR s e).1))], ⟨[(1, some (rdO (txR s e).2.1 (txR s e).2.2))], x⟩, 2⟩ ⟨[(0, v)], H', n'⟩ := by
  unfold mrRText
  simp -implicitDefEqProofs only [↓fnVC, initTm]
  unfold rdO
  simp -implicitDefEqProofs only [go_sem]
  refine at_call trRNumber (rnumSp (i := 1) (s := s) (e := e) (k := 2) (by rfl) (by decide) (by decide)) ?_
  unfold txR
  by_cases he : e = 0
  · subst he
    by_cases h2 : s.size < 2
    · obtain ⟨r1, r2, r3⟩ := raw_short h2
      rw [r1, r2, r3, if_pos (.inr h2), if_neg (fun h => h rfl)]
      unfold rdO
      have d1 : decide ((2 : Int) = 0) = false := rfl
      simp -implicitDefEqProofs only [go_sem, d1]
      refine sub_mk [] rfl rfl rfl ?_
      simp only [tmSub, hpSub, objSub, eqTm, eqHp, rn, lk, SV.ren, SV.renC, SV.renB, SV.renA, ren_ints, ren_strs, ren_pl, ren_svs, SV.v.injEq, Value.int.injEq, Body.ints.injEq, SV.ptr.injEq, SV.sl.injEq, Value.string.injEq, Value.bool.injEq, List.map_cons, List.map_nil, forall_const, Nat.reduceLT, Nat.lt_add_one, imp_self, true_and, and_true, and_self, ob_some, get_mk, lk_cons, ↓reduceIte, Nat.reduceEqDiff, ne_eq, not_true_eq_false, not_false_eq_true, Nat.one_ne_zero, Nat.zero_ne_one, Nat.succ_ne_self, Nat.reduceAdd, Bool.false_eq_true, false_implies, implies_true, reduceCtorEq]
    · obtain ⟨r1, r2, r3⟩ := raw_ok h2
      rw [r1, r2, r3, if_neg (fun h => h.elim (fun h => h rfl) h2)]
      have hv : num (s.extract 0 2) < 65536 := by
        have := nvl_bound (l := nbs (s.extract 0 2)) nbs_lt (j := (nbs (s.extract 0 2)).length) (Nat.le_refl _)
        rw [List.take_length, nbs_len, ext_size _ (show 2 ≤ s.size by omega) (by decide)] at this
        exact this
      generalize num (s.extract 0 2) = v at hv ⊢
      generalize s.extract 2 s.size = s1
      unfold rdO
      have d0 : decide ((0 : Int) = 0) = true := rfl
      by_cases hb : 1024 < v
      · have d1 : decide ((v : Int) > max 1024 0) = true := decide_eq_true (by omega)
        simp only [hb, if_true]
        simp -implicitDefEqProofs only [go_sem, d0, d1]
        refine at_call trRFail (rfailSp (i := 1) (s := s1) (e := 0) (f := 4) (by rfl) (by decide)) ?_
        have r7 : failE 0 4 = 4 := rfl
        rw [r7]
        have d4 : decide ((4 : Int) = 0) = false := rfl
        simp -implicitDefEqProofs only [go_sem]
        refine at_call trRRaw (rrawSp (i := 1) (s := s1) (e := 4) (k := v) (by rfl) (by decide) (by omega)) ?_
        obtain ⟨r4, r5, r6⟩ := raw_no (s := s1) (e := 4) (k := v) (by decide)
        rw [r4, r5, r6, if_pos (by decide)]
        unfold rdO
        simp -implicitDefEqProofs only [go_sem, d4]
        refine sub_mk [] rfl rfl rfl ?_
        simp only [tmSub, hpSub, objSub, eqTm, eqHp, rn, lk, SV.ren, SV.renC, SV.renB, SV.renA, ren_ints, ren_strs, ren_pl, ren_svs, SV.v.injEq, Value.int.injEq, Body.ints.injEq, SV.ptr.injEq, SV.sl.injEq, Value.string.injEq, Value.bool.injEq, List.map_cons, List.map_nil, forall_const, Nat.reduceLT, Nat.lt_add_one, imp_self, true_and, and_true, and_self, ob_some, get_mk, lk_cons, ↓reduceIte, Nat.reduceEqDiff, ne_eq, not_true_eq_false, not_false_eq_true, Nat.one_ne_zero, Nat.zero_ne_one, Nat.succ_ne_self, Nat.reduceAdd, Bool.false_eq_true, false_implies, implies_true, reduceCtorEq]
      · have d1 : decide ((v : Int) > max 1024 0) = false := decide_eq_false (by omega)
        simp only [hb, if_false]
        simp -implicitDefEqProofs only [go_sem, d0, d1]
        refine at_call trRRaw (rrawSp (i := 1) (s := s1) (e := 0) (k := v) (by rfl) (by decide) (by omega)) ?_
        by_cases hs : s1.size < v
        · obtain ⟨r4, r5, r6⟩ := raw_short hs
          rw [r4, r5, r6, if_pos (by decide)]
          have d2 : decide ((2 : Int) = 0) = false := rfl
          unfold rdO
          simp -implicitDefEqProofs only [go_sem, d2]
          refine sub_mk [] rfl rfl rfl ?_
          simp only [tmSub, hpSub, objSub, eqTm, eqHp, rn, lk, SV.ren, SV.renC, SV.renB, SV.renA, ren_ints, ren_strs, ren_pl, ren_svs, SV.v.injEq, Value.int.injEq, Body.ints.injEq, SV.ptr.injEq, SV.sl.injEq, Value.string.injEq, Value.bool.injEq, List.map_cons, List.map_nil, forall_const, Nat.reduceLT, Nat.lt_add_one, imp_self, true_and, and_true, and_self, ob_some, get_mk, lk_cons, ↓reduceIte, Nat.reduceEqDiff, ne_eq, not_true_eq_false, not_false_eq_true, Nat.one_ne_zero, Nat.zero_ne_one, Nat.succ_ne_self, Nat.reduceAdd, Bool.false_eq_true, false_implies, implies_true, reduceCtorEq]
        · obtain ⟨r4, r5, r6⟩ := raw_ok hs
          rw [r4, r5, r6, if_neg (fun h => h rfl)]
          have d2 : decide ((0 : Int) = 0) = true := rfl
          unfold rdO
          simp -implicitDefEqProofs only [go_sem, d2]
          refine sub_mk [] rfl rfl rfl ?_
          simp only [tmSub, hpSub, objSub, eqTm, eqHp, rn, lk, SV.ren, SV.renC, SV.renB, SV.renA, ren_ints, ren_strs, ren_pl, ren_svs, SV.v.injEq, Value.int.injEq, Body.ints.injEq, SV.ptr.injEq, SV.sl.injEq, Value.string.injEq, Value.bool.injEq, List.map_cons, List.map_nil, forall_const, Nat.reduceLT, Nat.lt_add_one, imp_self, true_and, and_true, and_self, ob_some, get_mk, lk_cons, ↓reduceIte, Nat.reduceEqDiff, ne_eq, not_true_eq_false, not_false_eq_true, Nat.one_ne_zero, Nat.zero_ne_one, Nat.succ_ne_self, Nat.reduceAdd, Bool.false_eq_true, false_implies, implies_true, reduceCtorEq]
  · have d0 : decide (e = 0) = false := decide_eq_false he
    obtain ⟨r1, r2, r3⟩ := raw_no (s := s) (k := 2) he
    rw [r1, r2, r3, if_pos (.inl he), if_pos he]
    unfold rdO
    simp -implicitDefEqProofs only [go_sem, d0]
    refine sub_mk [] rfl rfl rfl ?_
    simp only [tmSub, hpSub, objSub, eqTm, eqHp, rn, lk, SV.ren, SV.renC, SV.renB, SV.renA, ren_ints, ren_strs, ren_pl, ren_svs, SV.v.injEq, Value.int.injEq, Body.ints.injEq, SV.ptr.injEq, SV.sl.injEq, Value.string.injEq, Value.bool.injEq, List.map_cons, List.map_nil, forall_const, Nat.reduceLT, Nat.lt_add_one, imp_self, true_and, and_true, and_self, ob_some, get_mk, lk_cons, ↓reduceIte, Nat.reduceEqDiff, ne_eq, not_true_eq_false, not_false_eq_true, Nat.one_ne_zero, Nat.zero_ne_one, Nat.succ_ne_self, Nat.reduceAdd, Bool.false_eq_true, false_implies, implies_true, reduceCtorEq]
theorem rtextS {s : ByteArray} {e : Int} {i : Nat} (hg : H.get i = some (rdO s e)) (hi : 0 < i ∧ i < 1000) :
    SpecAt Tryz.prog nrRText [.ptr i 0, .v (.int .i64 1024)] H n (.v (.string (txR s e).1)) ⟨(i, some (rdO (txR s e).2.1 (txR s e).2.2)) :: H.l, H.x⟩ n := by
  have := lift (n := n) (okT.spec trRText (rtextW (x := H.x) (s := s) (e := e))) [(1, i)] rfl rfl rfl (by omega) rfl rfl
    ⟨sub_wr rfl hi.1 hi.2 hg rfl, trivial⟩ (by simp [apartB, apart1, rn, lk]) (by simp [wrNZ, rn, lk]; omega) (by omega)
  exact this
theorem failW {s : ByteArray} {e f : Int} : fnVC CT mRFail [.ptr 1 0, .v (.int .i64 f)] ⟨[(1, some (rdO s e))], x⟩ 2 fun v H' n' => Sub 2 ⟨[(0, .tup [])], ⟨[(1, some (rdO s (failE e f)))], x⟩, 2⟩ ⟨[(0, v)], H', n'⟩ := by
  unfold mRFail
  simp -implicitDefEqProofs only [↓fnVC, initTm]
  simp -implicitDefEqProofs only [go_sem]
  refine at_call tRErr (errS (i := 1) (s := s) (e := e) (by rfl)) ?_
  unfold failE rdO
  by_cases he : e = 0
  · have g0 : decide (e = 0) = true := decide_eq_true he
    rw [if_pos he]
    simp -implicitDefEqProofs only [go_sem, g0]
    refine sub_mk [] rfl rfl rfl ?_
    simp only [tmSub, hpSub, objSub, eqTm, eqHp, rn, lk, SV.ren, SV.renC, SV.renB, SV.renA, ren_ints, ren_strs, ren_pl, ren_svs, SV.v.injEq, Value.int.injEq, Body.ints.injEq, SV.ptr.injEq, SV.sl.injEq, Value.string.injEq, Value.bool.injEq, List.map_cons, List.map_nil, forall_const, Nat.reduceLT, Nat.lt_add_one, imp_self, true_and, and_true, and_self, ob_some, get_mk, lk_cons, ↓reduceIte, Nat.reduceEqDiff, ne_eq, not_true_eq_false, not_false_eq_true, Nat.one_ne_zero, Nat.zero_ne_one, Nat.succ_ne_self, Nat.reduceAdd, Bool.false_eq_true, false_implies, implies_true, reduceCtorEq]
  · have g0 : decide (e = 0) = false := decide_eq_false he
    rw [if_neg he]
    simp -implicitDefEqProofs only [go_sem, g0]
    refine sub_mk [] rfl rfl rfl ?_
    simp only [tmSub, hpSub, objSub, eqTm, eqHp, rn, lk, SV.ren, SV.renC, SV.renB, SV.renA, ren_ints, ren_strs, ren_pl, ren_svs, SV.v.injEq, Value.int.injEq, Body.ints.injEq, SV.ptr.injEq, SV.sl.injEq, Value.string.injEq, Value.bool.injEq, List.map_cons, List.map_nil, forall_const, Nat.reduceLT, Nat.lt_add_one, imp_self, true_and, and_true, and_self, ob_some, get_mk, lk_cons, ↓reduceIte, Nat.reduceEqDiff, ne_eq, not_true_eq_false, not_false_eq_true, Nat.one_ne_zero, Nat.zero_ne_one, Nat.succ_ne_self, Nat.reduceAdd, Bool.false_eq_true, false_implies, implies_true, reduceCtorEq]
theorem failS {s : ByteArray} {e f : Int} {i : Nat} (hg : H.get i = some (rdO s e)) (hi : 0 < i ∧ i < 1000) :
    SpecAt Tryz.prog nRFail [.ptr i 0, .v (.int .i64 f)] H n (.tup []) ⟨(i, some (rdO s (failE e f))) :: H.l, H.x⟩ n := by
  have := lift (n := n) (okT.spec tRFail (failW (x := H.x) (s := s) (e := e) (f := f))) [(1, i)] rfl rfl rfl (by omega) rfl rfl
    ⟨sub_wr rfl hi.1 hi.2 hg rfl, trivial⟩ (by simp [apartB, apart1, rn, lk]) (by simp [wrNZ, rn, lk]; omega) (by omega)
  exact this
theorem byteS {s : ByteArray} {e : Int} {i : Nat} (hg : H.get i = some (rdO s e)) (hi : 0 < i ∧ i < 1000) :
    SpecAt Tryz.prog nRByte [.ptr i 0] H n (.v (.int .i64 (num (rawT s e 1) : Nat))) ⟨(i, some (rdO (rawS s e 1) (rawE s e 1))) :: H.l, H.x⟩ n := by
  have := lift (n := n) (okT.spec tRByte (args := [.ptr 1 0]) (H := ⟨[(1, some (rdO s e))], H.x⟩) (n := 2) (v := .v (.int .i64 (num (rawT s e 1) : Nat))) (H' := ⟨[(1, some (rdO (rawS s e 1) (rawE s e 1)))], H.x⟩) (n' := 2) (by
    unfold mRByte
    simp -implicitDefEqProofs only [↓fnVC, initTm]
    simp -implicitDefEqProofs only [go_sem]
    refine at_call tRNumber (numSp (i := 1) (s := s) (e := e) (k := 1) (by rfl) (by decide) (by decide) (.inl (Nat.le_trans rawT_size (by decide)))) ?_
    simp -implicitDefEqProofs only [go_sem]
    refine sub_mk [] rfl rfl rfl ?_
    simp only [tmSub, hpSub, objSub, eqTm, eqHp, rn, lk, SV.ren, SV.renC, SV.renB, SV.renA, ren_ints, ren_strs, ren_pl, ren_svs, SV.v.injEq, Value.int.injEq, Body.ints.injEq, SV.ptr.injEq, SV.sl.injEq, Value.string.injEq, Value.bool.injEq, List.map_cons, List.map_nil, forall_const, Nat.reduceLT, Nat.lt_add_one, imp_self, true_and, and_true, and_self, ob_some, get_mk, lk_cons, ↓reduceIte, Nat.reduceEqDiff, ne_eq, not_true_eq_false, not_false_eq_true, Nat.one_ne_zero, Nat.zero_ne_one, Nat.succ_ne_self, Nat.reduceAdd, Bool.false_eq_true, false_implies, implies_true, reduceCtorEq]
    rfl)) [(1, i)] rfl rfl rfl (by omega) rfl rfl
    ⟨sub_wr rfl hi.1 hi.2 hg rfl, trivial⟩ (by simp [apartB, apart1, rn, lk]) (by simp [wrNZ, rn, lk]; omega) (by omega)
  exact this
theorem num1_lt {s : ByteArray} {e : Int} : num (rawT s e 1) < 256 := by
  have h := rawT_size (s := s) (e := e) (k := 1)
  have := nvl_bound (l := nbs (rawT s e 1)) nbs_lt (j := (nbs (rawT s e 1)).length) (Nat.le_refl _)
  rw [List.take_length, nbs_len] at this
  have h1 : 256 ^ (rawT s e 1).size ≤ 256 ^ 1 := Nat.pow_le_pow_right (by decide) h
  exact Nat.lt_of_lt_of_le this h1
end
end Go.Sx