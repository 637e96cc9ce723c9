/- Spans: what lies behind what. -/
import Derived.Test.YtpdbchccmgdldaaTreeD

set_option linter.unusedVariables false
set_option linter.unusedSimpArgs false
set_option maxRecDepth 100000
namespace Go.Sx
attribute [local go_sem ↓] bind_mk intsB_mk strsB_mk svB_mk fnVC ob_some vc_skip vc_exit vc_ret vc_seq vc_block kSeq_normal kSeq_exit kSeq_ret kBlock_normal kBlock_exit kBlock_ret vc_reg vc_regD vc_cond condK_true condK_false vc_loop kLoop_exit kLoop_ret kRoll_normal kRoll_exit kRoll_ret vcOps_nil vcOps_cons gd_bool gd_undef put_some put_none vcT_fin vcT_pure vcT_act vcT_acts vcT_stop stab_none stab_some stabM_nil stabM_cons stabO_ld stabO_ldn stabO_slP stabO_b2s fldOf_ai fldOf_agg fldOf_ait fldOf_aggt intsOf_nil intsOf_cons strsOf_nil strsOf_cons c_omap ob_if lk_nil lk_cons ev_t ev_k z_mov z_pick z_bin z_binB z_binP z_un z_r2s z_conv z_s2b z_b2s z_alloc z_bld z_bldI z_rowI z_rowS z_ld z_ldn z_st z_stn asN_ptr asN_fn z_nilck z_fld z_fadr z_idxA z_idxP z_idxS z_idxV z_slS z_slL z_slP z_mk z_lenS z_lenL z_app appC_ints appC_pl appC_sv appC_strs isS_strs loose_ints loose_pl loose_sv z_slM z_callv callvK_fn callvK_f callvK_yl vc_rangeF rfEnd_eq rfGo_none rfGo_ret rfGo_exit yGo_mk yEnd_n yEnd_r yEnd_e yRdy_mk yMid_n putPs_nil putPs_cons leaf_v leaf_ptr leaf_sl leaf_yl leaf_mp z_appS z_appZ z_cpyS z_mkfn reps_int reps_str z_rowV z_slnil nilK_zero z_cpy z_call asT_tup z_extT z_box boxOf_ai boxOf_agg boxOf_int boxOf_str boxOf_bool boxOf_ptr boxOf_sl sbin_int sbin_str sbinB_mk sbinP_nn sbinP_pn sbinP_np i_add i_sub i_mul i_quo i_rem i_and i_or i_xor i_andNot i_shl i_shr i_eql i_neq i_lss i_leq i_gtr i_geq st_add st_eql st_neq st_lss st_leq st_gtr st_geq bo_eql bo_neq pt_eql pt_neq un_neg un_xor un_not asI_mk asB_mk asS_mk asP_mk asSl_mk asBy_mk bnd_none bnd_some get_mk hput_mk hdel_mk kill_eq wrOf_eq rowOf_eq rsvs_0 rsvs_1 rsvs_2 rsvs_3 rsv_t rsv_c1 rsv_cn nt_v nt_ptr nt_sl nt_agg nt_ai get_ints get_strs get_pl get_sv getN_ints getN_sv set_ints set_strs set_sv setN_ints setN_sv part_ints part_strs part_sv cat_ints cat_strs cat_sv over_ints over_strs over_sv ones_ints ones_strs evs_nil evs_cons condK_eqt condK_eqf det_callP V_ns V_nn V_gs V_gn obC_mk fresh_ev setN_plagg setN_intsv setN_svai setN_svagg over_intsv set_pl setN_pl setN_plai getN_pl getN_strs part_pl cat_pl over_pl over_plints z_mm
attribute [local go_sem] initTm ne_eq not_true_eq_false not_false_eq_true true_and and_true List.length_cons List.length_nil Int.toNat_natCast Nat.add_zero Nat.zero_add Nat.mul_one List.getElem?_cons_zero List.drop_zero List.take_length List.take_succ_cons List.take_zero List.take_nil List.drop_succ_cons Option.map_some Nat.le_refl implies_true List.getElem?_cons_succ decide_true decide_false Bool.not_true Bool.not_false beq_self_eq_true Nat.succ_ne_self Nat.one_ne_zero Nat.zero_ne_one vk_mk hk_mk nk_mk tok_eq plsOf_map intsOf_map bodyOf_pl bodyOf_ints bodyOf_strs bodyOf_sv part_aggv part_agg part_ai part_int part_str part_bool part_sl part_ptr part_nil numsOf_map u_int u_str u_bool u_pnil u_sl u_ptr u_oci u_ocs evq_nil evq_cons fillS_nil fillS_cons u_ocb ones_pl cells_sv cells_ints cells_strs cells_pl smms_nil smms_cons smm_min smm_max plsOf_nil List.nil_append List.all_cons List.all_nil Bool.and_self Bool.true_and Bool.and_true zws_len zw_len zi_len List.set_cons_zero List.set_cons_succ List.flatMap_cons List.flatMap_nil List.append_nil
open Go.Proofs
variable {H : Hp} {n : Nat} {x : Nat → Option SO}

def pop (n : Nat) : Nat := if h : n = 0 then 0 else n % 2 + pop (n / 2)
termination_by n
decreasing_by omega
theorem sub_wr {π : List (Nat × Nat)} {j i : Nat} {o : SO} (hr : rn π j = i) (hi : 0 < i) (h1 : i < 1000) {b : Body} (hg : H.get i = some ⟨true, b⟩) (hb : b = o.b.ren π) : objSub π H j o := by
  unfold objSub
  rw [hr, if_neg (by omega), hg]
  exact ⟨fun _ => h1, fun _ => rfl, hb⟩
theorem sub_ro {π : List (Nat × Nat)} {j i : Nat} {b0 : Body} (hr : rn π j = i) (hi : 0 < i) {s : SO} (hg : H.get i = some s) (hb : s.b = b0.ren π) : objSub π H j ⟨false, b0⟩ := by
  unfold objSub
  rw [hr, if_neg (by omega), hg]
  exact ⟨fun h => (by cases h), fun h => (by cases h), hb⟩
theorem pop_zero : pop 0 = 0 := by rw [pop, dif_pos rfl]
theorem pop_step (n : Nat) : pop n = n % 2 + pop (n / 2) := by
  by_cases h : n = 0
  · subst h; simp [pop_zero]
  · conv => lhs; rw [pop, dif_neg h]
/-- A hash is laid behind the peaks (the last one ahead). -/
def appR (n : Nat) : List ByteArray → ByteArray → List ByteArray
  | [], h => [h]
  | p :: ps, h => if n % 2 = 1 then appR (n / 2) ps (nd p h) else h :: p :: ps
theorem appR_even {n : Nat} {ps : List ByteArray} {h : ByteArray} (hn : n % 2 = 0) : appR n ps h = h :: ps := by
  cases ps with
  | nil => rfl
  | cons p ps => rw [appR, if_neg (by omega)]
theorem appR_odd {n : Nat} {p h : ByteArray} {ps : List ByteArray} (hn : n % 2 = 1) : appR n (p :: ps) h = appR (n / 2) ps (nd p h) := by rw [appR, if_pos hn]
def spO (n r k : Nat) : SO := ⟨true, .sv [.v (.int .i64 n), .sl r 0 k 1]⟩
/-- The row behind. -/
def spRow (n : Nat) (row : List ByteArray) (k : Nat) (h : ByteArray) : List ByteArray := (appR n (row.take k).reverse h).reverse
theorem take_last {row : List ByteArray} {k : Nat} (h0 : 0 < k) (hk : k ≤ row.length) : (row.take k).reverse = row.getD (k - 1) .empty :: (row.take (k - 1)).reverse := by
  obtain ⟨j, rfl⟩ : ∃ j, k = j + 1 := ⟨k - 1, by omega⟩
  rw [List.take_succ_eq_append_getElem (by omega), List.reverse_append, List.getD_eq_getElem?_getD, Nat.add_sub_cancel, List.getElem?_eq_getElem (by omega)]; rfl
theorem iand_one {m : Nat} (h : m < 9223372036854775808) : iand .i64 (m : Int) 1 = ((m % 2 : Nat) : Int) := by
  show IntKind.i64.wrap ((BitVec.ofInt 64 (m : Int) &&& BitVec.ofInt 64 1).toNat : Nat) = _
  have e : (BitVec.ofInt 64 (m : Int) &&& BitVec.ofInt 64 1).toNat = m % 2 := by
    rw [BitVec.ofInt_natCast, BitVec.toNat_and, BitVec.toNat_ofNat, Nat.mod_eq_of_lt (by omega), show (BitVec.ofInt 64 1).toNat = 1 from rfl, Nat.and_one_is_mod]
  rw [e, wrap_i64 (by omega) (by omega)]
theorem ishr_i1 {m : Nat} : ishr .i64 (m : Int) 1 = ((m / 2 : Nat) : Int) := by
  unfold ishr
  have hm : min (1 : Int).toNat IntKind.i64.bits = 1 := by decide
  rw [hm, Int.fdiv_eq_ediv_of_nonneg _ (by decide)]
  rfl
theorem appendW {k m : Nat} {row : List ByteArray} {h : ByteArray} (hk : k ≤ row.length) (hkb : row.length ≤ 1048576) (hp : pop m ≤ k) (hm : m < 9223372036854775807) (hz : szB row) (hh : h.size ≤ 536870000) :
    fnVC CT mSpAppend [.ptr 1 0, .v (.string h)] ⟨[(1, some (spO m 2 k)), (2, some ⟨true, .strs row⟩)], x⟩ 3 fun v H' n' => Sub 3 ⟨[(0, .tup [])], ⟨[(1, some (spO (m + 1) 3 (spRow m row k h).length)), (2, none), (3, some ⟨true, .strs (spRow m row k h ++ row.drop (spRow m row k h).length)⟩)], x⟩, 4⟩ ⟨[(0, v)], H', n'⟩ := by
  unfold mSpAppend spO
  simp -implicitDefEqProofs only [↓fnVC, initTm]
  simp -implicitDefEqProofs only [go_sem, ↓reduceIte, Nat.reduceEqDiff, Nat.reduceAdd, Nat.reduceMul, Nat.reduceLT, Nat.reduceLeDiff, Nat.reduceSub, Int.reduceToNat, Int.reduceLE, Int.reduceLT, reduceCtorEq, Int.reduceEq, Int.reduceGT, Int.reduceGE, Int.reduceNeg]
  refine loop_fam (fun (q : Nat × Nat × ByteArray) => q.2.1 ≤ k ∧ pop q.1 ≤ q.2.1 ∧ q.1 ≤ m ∧ q.2.2.size ≤ 536870000 ∧ appR m (row.take k).reverse h = appR q.1 (row.take q.2.1).reverse q.2.2)
    (fun q => ⟨[(0, .ptr 1 0), (1, .v (.string q.2.2)), (4, .v (.int .i64 q.1))], ⟨[(1, some ⟨true, .sv [.v (.int .i64 m), .sl 2 0 q.2.1 1]⟩), (2, some ⟨true, .strs row⟩)], x⟩, 3⟩) (fun q => q.2.1) (m, k, h) ⟨Nat.le_refl _, hp, Nat.le_refl _, hh, rfl⟩ ?_ ?_
  · refine sub_mk [] rfl rfl rfl ?_
    simp only [tmSub, hpSub, objSub, eqTm, eqHp, rn, lk, SV.ren, SV.renC, SV.renB, SV.renA, ren_ints, ren_strs, ren_pl, ren_svs, SV.v.injEq, Value.int.injEq, Body.ints.injEq, SV.ptr.injEq, SV.sl.injEq, Value.string.injEq, Value.bool.injEq, List.map_cons, List.map_nil, forall_const, Nat.reduceLT, Nat.lt_add_one, imp_self, true_and, and_true, and_self, ob_some, get_mk, lk_cons, ↓reduceIte, Nat.reduceEqDiff, ne_eq, not_true_eq_false, not_false_eq_true, Nat.one_ne_zero, Nat.zero_ne_one, Nat.succ_ne_self, Nat.reduceAdd, Bool.false_eq_true, false_implies, implies_true, reduceCtorEq]
  · rintro ⟨m', k', h'⟩ ⟨hk', hp', hm', hh', he⟩
    simp only at hk' hp' hm' hh' he
    have i1 := iand_one (m := m') (by omega)
    have i2 : ishr .i64 (m' : Int) 1 = ((m' / 2 : Nat) : Int) := ishr_i1
    simp -implicitDefEqProofs only [go_sem, ↓reduceIte, Nat.reduceEqDiff, Nat.reduceAdd, Nat.reduceMul, Nat.reduceLT, Nat.reduceLeDiff, Nat.reduceSub, Int.reduceToNat, Int.reduceLE, Int.reduceLT, reduceCtorEq, Int.reduceEq, Int.reduceGT, Int.reduceGE, Int.reduceNeg, i1]
    refine condK_bb (fun c => ?_) (fun c => ?_)
    · have c1 : m' % 2 = 1 := by
        have : ¬ ((m' % 2 : Nat) : Int) = 0 := by simpa using c
        omega
      have hpp := pop_step m'
      have hk1 : 0 < k' := by omega
      have e1 := take_last (row := row) hk1 (by omega)
      have w1 : IntKind.i64.wrap ((k' : Int) - 1) = ((k' - 1 : Nat) : Int) := by rw [wrap_i64 (by omega) (by omega)]; omega
      have zl : (row.getD (k' - 1) .empty).size ≤ 536870000 := by
        rw [List.getD_eq_getElem?_getD, List.getElem?_eq_getElem (by omega)]; exact hz _ (List.getElem_mem _)
      simp -implicitDefEqProofs only [go_sem, ↓reduceIte, Nat.reduceEqDiff, Nat.reduceAdd, Nat.reduceMul, Nat.reduceLT, Nat.reduceLeDiff, Nat.reduceSub, Int.reduceToNat, Int.reduceLE, Int.reduceLT, reduceCtorEq, Int.reduceEq, Int.reduceGT, Int.reduceGE, Int.reduceNeg, c, w1]
      refine ⟨⟨by omega, by omega⟩, by omega, ?_⟩
      refine at_call tNode (nodeS zl hh') ?_
      simp -implicitDefEqProofs only [go_sem, ↓reduceIte, Nat.reduceEqDiff, Nat.reduceAdd, Nat.reduceMul, Nat.reduceLT, Nat.reduceLeDiff, Nat.reduceSub, Int.reduceToNat, Int.reduceLE, Int.reduceLT, reduceCtorEq, Int.reduceEq, Int.reduceGT, Int.reduceGE, Int.reduceNeg, w1]
      refine ⟨⟨by omega, by omega⟩, ?_⟩
      refine kLoop_mk (m' / 2, k' - 1, nd (row.getD (k' - 1) .empty) h') ⟨by simp only; omega, by simp only; omega, by simp only; omega, by simp only; rw [nd_size]; decide, by simp only; rw [he, e1, appR_odd c1]⟩ (by simp only; omega) ?_
      refine sub_mk [] rfl rfl rfl ?_
      simp only [tmSub, hpSub, objSub, eqTm, eqHp, rn, lk, SV.ren, SV.renC, SV.renB, SV.renA, ren_ints, ren_strs, ren_pl, ren_svs, SV.v.injEq, Value.int.injEq, Body.ints.injEq, SV.ptr.injEq, SV.sl.injEq, Value.string.injEq, Value.bool.injEq, List.map_cons, List.map_nil, forall_const, Nat.reduceLT, Nat.lt_add_one, imp_self, true_and, and_true, and_self, ob_some, get_mk, lk_cons, ↓reduceIte, Nat.reduceEqDiff, ne_eq, not_true_eq_false, not_false_eq_true, Nat.one_ne_zero, Nat.zero_ne_one, Nat.succ_ne_self, Nat.reduceAdd, Bool.false_eq_true, false_implies, implies_true, reduceCtorEq, i2, w1, Nat.sub_zero]
    · have c1 : m' % 2 = 0 := by
        have : ((m' % 2 : Nat) : Int) = 0 := by simpa using c
        omega
      have hr : spRow m row k h = row.take k' ++ [h'] := by
        unfold spRow; rw [he, appR_even c1]; simp
      have hrl : (spRow m row k h).length = k' + 1 := by rw [hr, List.length_append, List.length_take]; simp; omega
      have w2 : IntKind.i64.wrap ((m : Int) + 1) = ((m + 1 : Nat) : Int) := by rw [wrap_i64 (by omega) (by omega)]; omega
      simp -implicitDefEqProofs only [go_sem, ↓reduceIte, Nat.reduceEqDiff, Nat.reduceAdd, Nat.reduceMul, Nat.reduceLT, Nat.reduceLeDiff, Nat.reduceSub, Int.reduceToNat, Int.reduceLE, Int.reduceLT, reduceCtorEq, Int.reduceEq, Int.reduceGT, Int.reduceGE, Int.reduceNeg, c, w2]
      refine ⟨by omega, by omega, by omega, ?_⟩
      by_cases hlt : k' < row.length
      · refine app_in ?_
        simp -implicitDefEqProofs only [go_sem, ↓reduceIte, Nat.reduceEqDiff, Nat.reduceAdd, Nat.reduceMul, Nat.reduceLT, Nat.reduceLeDiff, Nat.reduceSub, Int.reduceToNat, Int.reduceLE, Int.reduceLT, reduceCtorEq, Int.reduceEq, Int.reduceGT, Int.reduceGE, Int.reduceNeg, w2]
        refine ⟨by rw [List.length_map]; omega, by omega, ?_⟩
        have hsp : splice row k' [h'] = spRow m row k h ++ row.drop (spRow m row k h).length := by rw [hrl, hr]; rfl
        rw [hrl] at hsp ⊢
        refine sub_mk [(3, 2)] rfl rfl rfl ?_
        simp only [tmSub, hpSub, objSub, eqTm, eqHp, rn, lk, SV.ren, SV.renC, SV.renB, SV.renA, ren_ints, ren_strs, ren_pl, ren_svs, SV.v.injEq, Value.int.injEq, Body.ints.injEq, SV.ptr.injEq, SV.sl.injEq, Value.string.injEq, Value.bool.injEq, List.map_cons, List.map_nil, forall_const, Nat.reduceLT, Nat.lt_add_one, imp_self, true_and, and_true, and_self, ob_some, get_mk, lk_cons, ↓reduceIte, Nat.reduceEqDiff, ne_eq, not_true_eq_false, not_false_eq_true, Nat.one_ne_zero, Nat.zero_ne_one, Nat.succ_ne_self, Nat.reduceAdd, Bool.false_eq_true, false_implies, implies_true, reduceCtorEq, hsp]
      · refine app_kill ?_
        simp -implicitDefEqProofs only [go_sem, ↓reduceIte, Nat.reduceEqDiff, Nat.reduceAdd, Nat.reduceMul, Nat.reduceLT, Nat.reduceLeDiff, Nat.reduceSub, Int.reduceToNat, Int.reduceLE, Int.reduceLT, reduceCtorEq, Int.reduceEq, Int.reduceGT, Int.reduceGE, Int.reduceNeg, w2]
        have hsp : row.take k' ++ [h'] = spRow m row k h ++ row.drop (spRow m row k h).length := by rw [hrl, hr, List.drop_eq_nil_of_le (by omega), List.append_nil]
        rw [hrl] at hsp ⊢
        refine sub_mk [(3, 4)] rfl rfl rfl ?_
        simp only [tmSub, hpSub, objSub, eqTm, eqHp, rn, lk, SV.ren, SV.renC, SV.renB, SV.renA, ren_ints, ren_strs, ren_pl, ren_svs, SV.v.injEq, Value.int.injEq, Body.ints.injEq, SV.ptr.injEq, SV.sl.injEq, Value.string.injEq, Value.bool.injEq, List.map_cons, List.map_nil, forall_const, Nat.reduceLT, Nat.lt_add_one, imp_self, true_and, and_true, and_self, ob_some, get_mk, lk_cons, ↓reduceIte, Nat.reduceEqDiff, ne_eq, not_true_eq_false, not_false_eq_true, Nat.one_ne_zero, Nat.zero_ne_one, Nat.succ_ne_self, Nat.reduceAdd, Bool.false_eq_true, false_implies, implies_true, reduceCtorEq, hsp]
/-- The first hash of a span of nothing. -/
theorem append0W {h : ByteArray} (hh : h.size ≤ 536870000) :
    fnVC CT mSpAppend [.ptr 1 0, .v (.string h)] ⟨[(1, some ⟨true, .sv [.v (.int .i64 0), .sl 0 0 0 1]⟩)], x⟩ 2 fun v H' n' => Sub 2 ⟨[(0, .tup [])], ⟨[(1, some (spO 1 2 1)), (2, some ⟨true, .strs [h]⟩)], x⟩, 3⟩ ⟨[(0, v)], H', n'⟩ := by
  unfold mSpAppend spO
  have i1 : iand .i64 0 1 = 0 := by decide
  have w1 : IntKind.i64.wrap (0 + 1) = 1 := by decide
  simp -implicitDefEqProofs only [↓fnVC, initTm]
  simp -implicitDefEqProofs only [go_sem, ↓reduceIte, Nat.reduceEqDiff, Nat.reduceAdd, Nat.reduceMul, Nat.reduceLT, Nat.reduceLeDiff, Nat.reduceSub, Int.reduceToNat, Int.reduceLE, Int.reduceLT, reduceCtorEq, Int.reduceEq, Int.reduceGT, Int.reduceGE, Int.reduceNeg]
  refine loop_fam (fun (q : Unit) => True) (fun q => ⟨[(0, .ptr 1 0), (1, .v (.string h)), (4, .v (.int .i64 0))], ⟨[(1, some ⟨true, .sv [.v (.int .i64 0), .sl 0 0 0 1]⟩)], x⟩, 2⟩) (fun q => 0) () trivial ?_ ?_
  · refine sub_mk [] rfl rfl rfl ?_
    simp only [tmSub, hpSub, objSub, eqTm, eqHp, rn, lk, SV.ren, SV.renC, SV.renB, SV.renA, ren_ints, ren_strs, ren_pl, ren_svs, SV.v.injEq, Value.int.injEq, Body.ints.injEq, SV.ptr.injEq, SV.sl.injEq, Value.string.injEq, Value.bool.injEq, List.map_cons, List.map_nil, forall_const, Nat.reduceLT, Nat.lt_add_one, imp_self, true_and, and_true, and_self, ob_some, get_mk, lk_cons, ↓reduceIte, Nat.reduceEqDiff, ne_eq, not_true_eq_false, not_false_eq_true, Nat.one_ne_zero, Nat.zero_ne_one, Nat.succ_ne_self, Nat.reduceAdd, Bool.false_eq_true, false_implies, implies_true, reduceCtorEq]
  · rintro ⟨⟩ _
    simp -implicitDefEqProofs only [go_sem, ↓reduceIte, Nat.reduceEqDiff, Nat.reduceAdd, Nat.reduceMul, Nat.reduceLT, Nat.reduceLeDiff, Nat.reduceSub, Int.reduceToNat, Int.reduceLE, Int.reduceLT, reduceCtorEq, Int.reduceEq, Int.reduceGT, Int.reduceGE, Int.reduceNeg, i1, w1]
    refine sub_mk [(2, 3)] rfl rfl rfl ?_
    simp only [tmSub, hpSub, objSub, eqTm, eqHp, rn, lk, SV.ren, SV.renC, SV.renB, SV.renA, ren_ints, ren_strs, ren_pl, ren_svs, SV.v.injEq, Value.int.injEq, Body.ints.injEq, SV.ptr.injEq, SV.sl.injEq, Value.string.injEq, Value.bool.injEq, List.map_cons, List.map_nil, forall_const, Nat.reduceLT, Nat.lt_add_one, imp_self, true_and, and_true, and_self, ob_some, get_mk, lk_cons, ↓reduceIte, Nat.reduceEqDiff, ne_eq, not_true_eq_false, not_false_eq_true, Nat.one_ne_zero, Nat.zero_ne_one, Nat.succ_ne_self, Nat.reduceAdd, Bool.false_eq_true, false_implies, implies_true, reduceCtorEq]
    rfl
theorem appendN {h : ByteArray} : SpecAt Try.prog nSpAppend [.v (.pointer none), .v (.string h)] H n (.tup []) H n := okT.pure tSpAppend (by
  unfold mSpAppend
  simp -implicitDefEqProofs only [↓fnVC, initTm]
  simp -implicitDefEqProofs only [go_sem, ↓reduceIte, Nat.reduceEqDiff, Nat.reduceAdd, Nat.reduceMul, Nat.reduceLT, Nat.reduceLeDiff, Nat.reduceSub, Int.reduceToNat, Int.reduceLE, Int.reduceLT, reduceCtorEq, Int.reduceEq, Int.reduceGT, Int.reduceGE, Int.reduceNeg])
theorem sizeS {m r k i : Nat} (hg : H.get i = some (spO m r k)) : SpecAt Try.prog nSpSize [.ptr i 0] H n (.v (.int .i64 m)) H n := okT.pure tSpSize (by
  unfold mSpSize
  unfold spO at hg
  simp -implicitDefEqProofs only [↓fnVC, initTm]
  simp -implicitDefEqProofs only [go_sem, ↓reduceIte, Nat.reduceEqDiff, Nat.reduceAdd, Nat.reduceMul, Nat.reduceLT, Nat.reduceLeDiff, Nat.reduceSub, Int.reduceToNat, Int.reduceLE, Int.reduceLT, reduceCtorEq, Int.reduceEq, Int.reduceGT, Int.reduceGE, Int.reduceNeg, hg])
theorem spApS {m r k i : Nat} {row : List ByteArray} {h : ByteArray} (hg : H.get i = some (spO m r k)) (hr : H.get r = some ⟨true, .strs row⟩) (hi : 0 < i ∧ i < 1000) (hr1 : 0 < r ∧ r < 1000) (hne : i ≠ r) (hn : n + 1 ≤ 1000)
    (hk : k ≤ row.length) (hkb : row.length ≤ 1048576) (hp : pop m ≤ k) (hm : m < 9223372036854775807) (hz : szB row) (hh : h.size ≤ 536870000) :
    SpecAt Try.prog nSpAppend [.ptr i 0, .v (.string h)] H n (.tup []) ⟨(i, some (spO (m + 1) n (spRow m row k h).length)) :: (r, none) :: (n, some ⟨true, .strs (spRow m row k h ++ row.drop (spRow m row k h).length)⟩) :: H.l, H.x⟩ (n + 1) := by
  have := lift (n := n) (okT.spec tSpAppend (appendW (x := H.x) hk hkb hp hm hz hh)) [(1, i), (2, r)] rfl rfl rfl (by omega) rfl rfl
    ⟨sub_wr rfl hi.1 hi.2 hg rfl, sub_wr rfl hr1.1 hr1.2 hr rfl, trivial⟩ (by simp [apartB, apart1, rn, lk, hne, Ne.symm hne]) (by simp [wrNZ, rn, lk]; omega) (by omega)
  exact this
theorem app0S {i : Nat} {h : ByteArray} (hg : H.get i = some ⟨true, .sv [.v (.int .i64 0), .sl 0 0 0 1]⟩) (hi : 0 < i ∧ i < 1000) (hn : n + 1 ≤ 1000) (hh : h.size ≤ 536870000) :
    SpecAt Try.prog nSpAppend [.ptr i 0, .v (.string h)] H n (.tup []) ⟨(i, some (spO 1 n 1)) :: (n, some ⟨true, .strs [h]⟩) :: H.l, H.x⟩ (n + 1) := by
  have := lift (n := n) (okT.spec tSpAppend (append0W (x := H.x) hh)) [(1, i)] rfl rfl rfl (by omega) rfl rfl
    ⟨sub_wr rfl hi.1 hi.2 hg rfl, trivial⟩ (by simp [apartB, apart1, rn, lk]) (by simp [wrNZ, rn, lk]; omega) (by omega)
  exact this
def fR (h q : ByteArray) : ByteArray := nd q h
def rootR : List ByteArray → ByteArray
  | [] => sha []
  | p :: ps => ps.foldl fR p
theorem rf_fnT {C : Tab} {tm : List (Nat × SV)} {g : Nat} {caps : List SV} {ps : List Nat} {N : Nat} {ma mb : MC} {K : Ex → St → Prop} (hn : n < 1000) (h : ∀ (L : Loop) (T : List (Nat × SV)), T = tm → C.isL L N ps ma mb → callK (C g) (.yl n :: caps) (H.put n ⟨true, .mp (.loop L .ready none T)⟩) (n + 1) (rfEnd n T K)) : rfK C (.fn g caps) ps N ma mb ⟨tm, H, n⟩ K := ⟨hn, fun L hL => h L tm rfl hL⟩
theorem rootRW {m k : Nat} {row : List ByteArray} (hk0 : 0 < k) (hk : k ≤ row.length) (hkb : row.length ≤ 1048576) (hz : szB row) :
    fnVC CT mSpRoot [.ptr 1 0] ⟨[(1, some ⟨false, (spO m 2 k).b⟩), (2, some ⟨false, .strs row⟩)], x⟩ 3 fun v H' n' => Sub 3 ⟨[(0, .v (.string (rootR (row.take k).reverse)))], ⟨[], x⟩, 3⟩ ⟨[(0, v)], H', n'⟩ := by
  unfold mSpRoot spO
  have g1 : decide ((k : Int) = 0) = false := decide_eq_false (by omega)
  have w1 : IntKind.i64.wrap ((k : Int) - 1) = ((k - 1 : Nat) : Int) := by rw [wrap_i64 (by omega) (by omega)]; omega
  simp -implicitDefEqProofs only [↓fnVC, initTm]
  simp -implicitDefEqProofs only [go_sem, ↓reduceIte, Nat.reduceEqDiff, Nat.reduceAdd, Nat.reduceMul, Nat.reduceLT, Nat.reduceLeDiff, Nat.reduceSub, Int.reduceToNat, Int.reduceLE, Int.reduceLT, reduceCtorEq, Int.reduceEq, Int.reduceGT, Int.reduceGE, Int.reduceNeg, g1, w1, Nat.sub_zero]
  refine ⟨by omega, by omega, by omega, ?_⟩
  refine in_call mixT tBackward ?_
  unfold mBackward
  simp -implicitDefEqProofs only [↓fnVC, initTm]
  simp -implicitDefEqProofs only [go_sem, ↓reduceIte, Nat.reduceEqDiff, Nat.reduceAdd, Nat.reduceMul, Nat.reduceLT, Nat.reduceLeDiff, Nat.reduceSub, Int.reduceToNat, Int.reduceLE, Int.reduceLT, reduceCtorEq, Int.reduceEq, Int.reduceGT, Int.reduceGE, Int.reduceNeg]
  refine rf_fnT (by decide) (fun L T hT hL => ?_)
  have l4 : lk T 4 = some (.ptr 3 0) := by rw [hT]; rfl
  refine in_call mixT tBack1 ?_
  unfold mBack1
  simp -implicitDefEqProofs only [↓fnVC, initTm]
  simp -implicitDefEqProofs only [go_sem, ↓reduceIte, Nat.reduceEqDiff, Nat.reduceAdd, Nat.reduceMul, Nat.reduceLT, Nat.reduceLeDiff, Nat.reduceSub, Int.reduceToNat, Int.reduceLE, Int.reduceLT, reduceCtorEq, Int.reduceEq, Int.reduceGT, Int.reduceGE, Int.reduceNeg]
  have w2 : IntKind.i64.wrap (((k - 1 : Nat) : Int) - 1) = ((k - 1 : Nat) : Int) - 1 := wrap_i64 (by omega) (by omega)
  refine loop_fam (fun (q : Nat × ByteArray) => q.1 ≤ k - 1 ∧ q.2.size ≤ 536870000 ∧ rootR (row.take k).reverse = ((row.take q.1).reverse).foldl fR q.2)
    (fun q => ⟨[(0, .yl 5), (1, .ptr 4 0), (3, .v (.int .i64 ((q.1 : Int) - 1)))], ⟨[(1, some ⟨false, .sv [.v (.int .i64 m), .sl 2 0 k 1]⟩), (2, some ⟨false, .strs row⟩), (3, some ⟨true, .sv [.v (.string q.2)]⟩), (4, some ⟨true, .sv [.sl 2 0 (k - 1) 1]⟩), (5, some ⟨true, .mp (.loop L .ready none T)⟩)], x⟩, 6⟩)
    (fun q => q.1) (k - 1, row.getD (k - 1) .empty) ⟨Nat.le_refl _, ?_, ?_⟩ ?_ ?_
  · simp only
    rw [List.getD_eq_getElem?_getD, List.getElem?_eq_getElem (by omega)]; exact hz _ (List.getElem_mem _)
  · rw [take_last hk0 hk]; rfl
  · refine sub_mk [] rfl rfl (by subst hT; rfl) ?_
    simp only [tmSub, hpSub, objSub, eqTm, eqHp, rn, lk, SV.ren, SV.renC, SV.renB, SV.renA, ren_ints, ren_strs, ren_pl, ren_svs, SV.v.injEq, Value.int.injEq, Body.ints.injEq, SV.ptr.injEq, SV.sl.injEq, Value.string.injEq, Value.bool.injEq, List.map_cons, List.map_nil, forall_const, Nat.reduceLT, Nat.lt_add_one, imp_self, true_and, and_true, and_self, ob_some, get_mk, lk_cons, ↓reduceIte, Nat.reduceEqDiff, ne_eq, not_true_eq_false, not_false_eq_true, Nat.one_ne_zero, Nat.zero_ne_one, Nat.succ_ne_self, Nat.reduceAdd, Bool.false_eq_true, false_implies, implies_true, reduceCtorEq, w2, Body.ren_nil]
  · rintro ⟨c, hh⟩ ⟨hc, hhz, he⟩
    simp only at hc hhz he
    simp -implicitDefEqProofs only [go_sem, ↓reduceIte, Nat.reduceEqDiff, Nat.reduceAdd, Nat.reduceMul, Nat.reduceLT, Nat.reduceLeDiff, Nat.reduceSub, Int.reduceToNat, Int.reduceLE, Int.reduceLT, reduceCtorEq, Int.reduceEq, Int.reduceGT, Int.reduceGE, Int.reduceNeg]
    refine condK_bb (fun d => ?_) (fun d => ?_)
    · have d1 : 1 ≤ c := by have := of_decide_eq_true d; omega
      have e1 : (c : Int) - 1 = ((c - 1 : Nat) : Int) := by omega
      have z1 : (row.getD (c - 1) .empty).size ≤ 536870000 := by
        rw [List.getD_eq_getElem?_getD, List.getElem?_eq_getElem (by omega)]; exact hz _ (List.getElem_mem _)
      simp -implicitDefEqProofs only [go_sem, ↓reduceIte, Nat.reduceEqDiff, Nat.reduceAdd, Nat.reduceMul, Nat.reduceLT, Nat.reduceLeDiff, Nat.reduceSub, Int.reduceToNat, Int.reduceLE, Int.reduceLT, reduceCtorEq, Int.reduceEq, Int.reduceGT, Int.reduceGE, Int.reduceNeg, d, e1]
      refine ⟨⟨by omega, by omega⟩, by omega, ?_⟩
      refine at_yield mixT (yvc_mk hL rfl rfl rfl ?_)
      simp -implicitDefEqProofs only [go_sem, ↓reduceIte, Nat.reduceEqDiff, Nat.reduceAdd, Nat.reduceMul, Nat.reduceLT, Nat.reduceLeDiff, Nat.reduceSub, Int.reduceToNat, Int.reduceLE, Int.reduceLT, reduceCtorEq, Int.reduceEq, Int.reduceGT, Int.reduceGE, Int.reduceNeg, l4]
      refine at_call tNode (nodeS z1 hhz) ?_
      have w3 : IntKind.i64.wrap ((c : Int) - 1 - 1) = ((c - 1 : Nat) : Int) - 1 := by rw [wrap_i64 (by omega) (by omega)]; omega
      simp -implicitDefEqProofs only [go_sem, ↓reduceIte, Nat.reduceEqDiff, Nat.reduceAdd, Nat.reduceMul, Nat.reduceLT, Nat.reduceLeDiff, Nat.reduceSub, Int.reduceToNat, Int.reduceLE, Int.reduceLT, reduceCtorEq, Int.reduceEq, Int.reduceGT, Int.reduceGE, Int.reduceNeg, l4]
      refine kLoop_mk (c - 1, nd (row.getD (c - 1) .empty) hh) ⟨by simp only; omega, by simp only; rw [nd_size]; decide, by simp only; rw [he, take_last d1 (by omega)]; rfl⟩ (by simp only; omega) ?_
      refine sub_mk [] rfl rfl (by subst hT; rfl) ?_
      simp only [tmSub, hpSub, objSub, eqTm, eqHp, rn, lk, SV.ren, SV.renC, SV.renB, SV.renA, ren_ints, ren_strs, ren_pl, ren_svs, SV.v.injEq, Value.int.injEq, Body.ints.injEq, SV.ptr.injEq, SV.sl.injEq, Value.string.injEq, Value.bool.injEq, List.map_cons, List.map_nil, forall_const, Nat.reduceLT, Nat.lt_add_one, imp_self, true_and, and_true, and_self, ob_some, get_mk, lk_cons, ↓reduceIte, Nat.reduceEqDiff, ne_eq, not_true_eq_false, not_false_eq_true, Nat.one_ne_zero, Nat.zero_ne_one, Nat.succ_ne_self, Nat.reduceAdd, Bool.false_eq_true, false_implies, implies_true, reduceCtorEq, w3, Body.ren_nil]
    · have d1 : c = 0 := by have := of_decide_eq_false d; omega
      subst d1
      have he' : hh = rootR (row.take k).reverse := he.symm
      simp -implicitDefEqProofs only [go_sem, ↓reduceIte, Nat.reduceEqDiff, Nat.reduceAdd, Nat.reduceMul, Nat.reduceLT, Nat.reduceLeDiff, Nat.reduceSub, Int.reduceToNat, Int.reduceLE, Int.reduceLT, reduceCtorEq, Int.reduceEq, Int.reduceGT, Int.reduceGE, Int.reduceNeg, d, l4]
      rw [he']
      refine sub_mk [] rfl rfl rfl ?_
      simp only [tmSub, hpSub, objSub, eqTm, eqHp, rn, lk, SV.ren, SV.renC, SV.renB, SV.renA, ren_ints, ren_strs, ren_pl, ren_svs, SV.v.injEq, Value.int.injEq, Body.ints.injEq, SV.ptr.injEq, SV.sl.injEq, Value.string.injEq, Value.bool.injEq, List.map_cons, List.map_nil, forall_const, Nat.reduceLT, Nat.lt_add_one, imp_self, true_and, and_true, and_self, ob_some, get_mk, lk_cons, ↓reduceIte, Nat.reduceEqDiff, ne_eq, not_true_eq_false, not_false_eq_true, Nat.one_ne_zero, Nat.zero_ne_one, Nat.succ_ne_self, Nat.reduceAdd, Bool.false_eq_true, false_implies, implies_true, reduceCtorEq]
theorem spRootS {m r k i : Nat} {row : List ByteArray} (hg : H.get i = some (spO m r k)) (hr : H.get r = some ⟨true, .strs row⟩) (hi : 0 < i ∧ i < 1000) (hr1 : 0 < r ∧ r < 1000) (hne : i ≠ r)
    (hk0 : 0 < k) (hk : k ≤ row.length) (hkb : row.length ≤ 1048576) (hz : szB row) :
    SpecAt Try.prog nSpRoot [.ptr i 0] H n (.v (.string (rootR (row.take k).reverse))) H n := by
  have := lift_ro (n := n) (H := H) (lc := [(1, some ⟨false, (spO m 2 k).b⟩), (2, some ⟨false, .strs row⟩)]) (okT.spec tSpRoot (rootRW (x := H.x) hk0 hk hkb hz)) [(1, i), (2, r)] rfl rfl rfl (by omega) rfl rfl
    ⟨sub_ro rfl hi.1 hg rfl, sub_ro rfl hr1.1 hr rfl, trivial⟩ (by simp [apartB, apart1, rn, lk, hne, Ne.symm hne]) (by simp [wrNZ, rn, lk]) rfl
  exact this
theorem spRoot0S {m r i : Nat} (hg : H.get i = some (spO m r 0)) : SpecAt Try.prog nSpRoot [.ptr i 0] H n (.v (.string (sha []))) H n := okT.pure tSpRoot (by
  unfold mSpRoot
  unfold spO at hg
  have g1 : decide (((0 : Nat) : Int) = 0) = true := rfl
  simp -implicitDefEqProofs only [↓fnVC, initTm]
  simp -implicitDefEqProofs only [go_sem, ↓reduceIte, Nat.reduceEqDiff, Nat.reduceAdd, Nat.reduceMul, Nat.reduceLT, Nat.reduceLeDiff, Nat.reduceSub, Int.reduceToNat, Int.reduceLE, Int.reduceLT, reduceCtorEq, Int.reduceEq, Int.reduceGT, Int.reduceGE, Int.reduceNeg, hg, g1]
  refine at_call tRoot (rootS (i := 0) (ss := []) (o := 0) (m := 0) rfl (by decide) (by decide) (fun s hs => by cases hs)) ?_
  simp -implicitDefEqProofs only [go_sem, ↓reduceIte, Nat.reduceEqDiff, Nat.reduceAdd, Nat.reduceMul, Nat.reduceLT, Nat.reduceLeDiff, Nat.reduceSub, Int.reduceToNat, Int.reduceLE, Int.reduceLT, reduceCtorEq, Int.reduceEq, Int.reduceGT, Int.reduceGE, Int.reduceNeg, root_nil])
theorem spRootN : SpecAt Try.prog nSpRoot [.v (.pointer none)] H n (.v (.string (sha []))) H n := okT.pure tSpRoot (by
  unfold mSpRoot
  simp -implicitDefEqProofs only [↓fnVC, initTm]
  simp -implicitDefEqProofs only [go_sem, ↓reduceIte, Nat.reduceEqDiff, Nat.reduceAdd, Nat.reduceMul, Nat.reduceLT, Nat.reduceLeDiff, Nat.reduceSub, Int.reduceToNat, Int.reduceLE, Int.reduceLT, reduceCtorEq, Int.reduceEq, Int.reduceGT, Int.reduceGE, Int.reduceNeg]
  refine at_call tRoot (rootS (i := 0) (ss := []) (o := 0) (m := 0) rfl (by decide) (by decide) (fun s hs => by cases hs)) ?_
  simp -implicitDefEqProofs only [go_sem, ↓reduceIte, Nat.reduceEqDiff, Nat.reduceAdd, Nat.reduceMul, Nat.reduceLT, Nat.reduceLeDiff, Nat.reduceSub, Int.reduceToNat, Int.reduceLE, Int.reduceLT, reduceCtorEq, Int.reduceEq, Int.reduceGT, Int.reduceGE, Int.reduceNeg, root_nil])
theorem sizeN : SpecAt Try.prog nSpSize [.v (.pointer none)] H n (.v (.int .i64 0)) H n := okT.pure tSpSize (by
  unfold mSpSize
  simp -implicitDefEqProofs only [↓fnVC, initTm]
  simp -implicitDefEqProofs only [go_sem, ↓reduceIte, Nat.reduceEqDiff, Nat.reduceAdd, Nat.reduceMul, Nat.reduceLT, Nat.reduceLeDiff, Nat.reduceSub, Int.reduceToNat, Int.reduceLE, Int.reduceLT, reduceCtorEq, Int.reduceEq, Int.reduceGT, Int.reduceGE, Int.reduceNeg])
theorem peaksN : SpecAt Try.prog nSpPeaks [.v (.pointer none)] H n (.sl 0 0 0 1) H n := okT.pure tSpPeaks (by
  unfold mSpPeaks
  simp -implicitDefEqProofs only [↓fnVC, initTm]
  simp -implicitDefEqProofs only [go_sem, ↓reduceIte, Nat.reduceEqDiff, Nat.reduceAdd, Nat.reduceMul, Nat.reduceLT, Nat.reduceLeDiff, Nat.reduceSub, Int.reduceToNat, Int.reduceLE, Int.reduceLT, reduceCtorEq, Int.reduceEq, Int.reduceGT, Int.reduceGE, Int.reduceNeg])
theorem peaksW {m k : Nat} {row : List ByteArray} (hk : k ≤ row.length) (hkb : row.length ≤ 1048576) :
    fnVC CT mSpPeaks [.ptr 1 0] ⟨[(1, some ⟨false, (spO m 2 k).b⟩), (2, some ⟨false, .strs row⟩)], x⟩ 3 fun v H' n' => Sub 3 ⟨[(0, .sl 3 0 k 1)], ⟨[(3, some ⟨true, .strs (row.take k)⟩)], x⟩, 4⟩ ⟨[(0, v)], H', n'⟩ := by
  unfold mSpPeaks spO
  simp -implicitDefEqProofs only [↓fnVC, initTm]
  simp -implicitDefEqProofs only [go_sem, ↓reduceIte, Nat.reduceEqDiff, Nat.reduceAdd, Nat.reduceMul, Nat.reduceLT, Nat.reduceLeDiff, Nat.reduceSub, Int.reduceToNat, Int.reduceLE, Int.reduceLT, reduceCtorEq, Int.reduceEq, Int.reduceGT, Int.reduceGE, Int.reduceNeg]
  refine in_call mixT tCloneS ?_
  unfold mCloneS
  simp -implicitDefEqProofs only [↓fnVC, initTm]
  simp -implicitDefEqProofs only [go_sem, ↓reduceIte, Nat.reduceEqDiff, Nat.reduceAdd, Nat.reduceMul, Nat.reduceLT, Nat.reduceLeDiff, Nat.reduceSub, Int.reduceToNat, Int.reduceLE, Int.reduceLT, reduceCtorEq, Int.reduceEq, Int.reduceGT, Int.reduceGE, Int.reduceNeg]
  refine nilK_of (by decide) rfl (fun h0 h => ?_) ?_
  · subst h0
    simp -implicitDefEqProofs only [go_sem, ↓reduceIte, Nat.reduceEqDiff, Nat.reduceAdd, Nat.reduceMul, Nat.reduceLT, Nat.reduceLeDiff, Nat.reduceSub, Int.reduceToNat, Int.reduceLE, Int.reduceLT, reduceCtorEq, Int.reduceEq, Int.reduceGT, Int.reduceGE, Int.reduceNeg]
    refine sub_mk [(3, 0)] rfl rfl rfl ?_
    simp only [tmSub, hpSub, objSub, eqTm, eqHp, rn, lk, SV.ren, SV.renC, SV.renB, SV.renA, ren_ints, ren_strs, ren_pl, ren_svs, SV.v.injEq, Value.int.injEq, Body.ints.injEq, SV.ptr.injEq, SV.sl.injEq, Value.string.injEq, Value.bool.injEq, List.map_cons, List.map_nil, forall_const, Nat.reduceLT, Nat.lt_add_one, imp_self, true_and, and_true, and_self, ob_some, get_mk, lk_cons, ↓reduceIte, Nat.reduceEqDiff, ne_eq, not_true_eq_false, not_false_eq_true, Nat.one_ne_zero, Nat.zero_ne_one, Nat.succ_ne_self, Nat.reduceAdd, Bool.false_eq_true, false_implies, implies_true, reduceCtorEq]
    rfl
  · simp -implicitDefEqProofs only [go_sem, ↓reduceIte, Nat.reduceEqDiff, Nat.reduceAdd, Nat.reduceMul, Nat.reduceLT, Nat.reduceLeDiff, Nat.reduceSub, Int.reduceToNat, Int.reduceLE, Int.reduceLT, reduceCtorEq, Int.reduceEq, Int.reduceGT, Int.reduceGE, Int.reduceNeg]
    refine ⟨by omega, by omega, hk, app_kill ?_⟩
    simp -implicitDefEqProofs only [go_sem, ↓reduceIte, Nat.reduceEqDiff, Nat.reduceAdd, Nat.reduceMul, Nat.reduceLT, Nat.reduceLeDiff, Nat.reduceSub, Int.reduceToNat, Int.reduceLE, Int.reduceLT, reduceCtorEq, Int.reduceEq, Int.reduceGT, Int.reduceGE, Int.reduceNeg]
    refine sub_mk [(3, 4)] rfl rfl rfl ?_
    simp only [tmSub, hpSub, objSub, eqTm, eqHp, rn, lk, SV.ren, SV.renC, SV.renB, SV.renA, ren_ints, ren_strs, ren_pl, ren_svs, SV.v.injEq, Value.int.injEq, Body.ints.injEq, SV.ptr.injEq, SV.sl.injEq, Value.string.injEq, Value.bool.injEq, List.map_cons, List.map_nil, forall_const, Nat.reduceLT, Nat.lt_add_one, imp_self, true_and, and_true, and_self, ob_some, get_mk, lk_cons, ↓reduceIte, Nat.reduceEqDiff, ne_eq, not_true_eq_false, not_false_eq_true, Nat.one_ne_zero, Nat.zero_ne_one, Nat.succ_ne_self, Nat.reduceAdd, Bool.false_eq_true, false_implies, implies_true, reduceCtorEq]
theorem peaksS {m r k i : Nat} {row : List ByteArray} (hg : H.get i = some (spO m r k)) (hr : H.get r = some ⟨true, .strs row⟩) (hi : 0 < i) (hr1 : 0 < r) (hne : i ≠ r) (hn : n + 1 ≤ 1000)
    (hk : k ≤ row.length) (hkb : row.length ≤ 1048576) :
    SpecAt Try.prog nSpPeaks [.ptr i 0] H n (.sl n 0 k 1) ⟨(n, some ⟨true, .strs (row.take k)⟩) :: H.l, H.x⟩ (n + 1) := by
  have := lift (n := n) (okT.spec tSpPeaks (peaksW (x := H.x) (m := m) hk hkb)) [(1, i), (2, r)] rfl rfl rfl (by omega) rfl rfl
    ⟨sub_ro rfl hi hg rfl, sub_ro rfl hr1 hr rfl, trivial⟩ (by simp [apartB, apart1, rn, lk, hne, Ne.symm hne]) (by simp [wrNZ, rn, lk]) (by omega)
  exact this
theorem szB_two {a b : ByteArray} (ha : a.size ≤ 536870000) (hb : b.size ≤ 536870000) : szB [a, b] := by
  intro s hs
  simp only [List.mem_cons, List.not_mem_nil, or_false] at hs
  rcases hs with rfl | rfl <;> assumption
theorem pop_one : pop 1 = 1 := by rw [pop_step, show 1 / 2 = 0 from rfl, pop_zero]
theorem pop_two : pop 2 = 1 := by rw [pop_step, show 2 / 2 = 1 from rfl, pop_one]
theorem growsS : SpecAt Try.prog ngrows [] H n (.v (.bool true)) H n := lift_pure (okT.spec tgrows (by
  unfold mgrows
  simp -implicitDefEqProofs only [↓fnVC, initTm]
  simp -implicitDefEqProofs only [go_sem, ↓reduceIte, Nat.reduceEqDiff, Nat.reduceAdd, Nat.reduceMul, Nat.reduceLT, Nat.reduceLeDiff, Nat.reduceSub, Int.reduceToNat, Int.reduceLE, Int.reduceLT, reduceCtorEq, Int.reduceEq, Int.reduceGT, Int.reduceGE, Int.reduceNeg]
  refine at_call trefLeaf (rleafS (by decide)) ?_
  simp -implicitDefEqProofs only [go_sem, ↓reduceIte, Nat.reduceEqDiff, Nat.reduceAdd, Nat.reduceMul, Nat.reduceLT, Nat.reduceLeDiff, Nat.reduceSub, Int.reduceToNat, Int.reduceLE, Int.reduceLT, reduceCtorEq, Int.reduceEq, Int.reduceGT, Int.reduceGE, Int.reduceNeg]
  refine at_call trefLeaf (rleafS (by decide)) ?_
  simp -implicitDefEqProofs only [go_sem, ↓reduceIte, Nat.reduceEqDiff, Nat.reduceAdd, Nat.reduceMul, Nat.reduceLT, Nat.reduceLeDiff, Nat.reduceSub, Int.reduceToNat, Int.reduceLE, Int.reduceLT, reduceCtorEq, Int.reduceEq, Int.reduceGT, Int.reduceGE, Int.reduceNeg]
  refine at_call trefLeaf (rleafS (by decide)) ?_
  have ha : (lf ⟨#[97]⟩).size = 32 := lf_size
  have hb : (lf ⟨#[98]⟩).size = 32 := lf_size
  have hc : (lf ⟨#[99]⟩).size = 32 := lf_size
  generalize lf ⟨#[97]⟩ = a at ha ⊢
  generalize lf ⟨#[98]⟩ = b at hb ⊢
  generalize lf ⟨#[99]⟩ = c at hc ⊢
  have hz := szB_three ha hb hc
  have hS : szB ((([a, b, c] : List ByteArray).drop 0).take 3) := hz
  simp -implicitDefEqProofs only [go_sem, ↓reduceIte, Nat.reduceEqDiff, Nat.reduceAdd, Nat.reduceMul, Nat.reduceLT, Nat.reduceLeDiff, Nat.reduceSub, Int.reduceToNat, Int.reduceLE, Int.reduceLT, reduceCtorEq, Int.reduceEq, Int.reduceGT, Int.reduceGE, Int.reduceNeg]
  refine at_call tSpAppend (app0S (i := 1) (by rfl) (by decide) (by decide) (by omega)) ?_
  simp -implicitDefEqProofs only [go_sem, ↓reduceIte, Nat.reduceEqDiff, Nat.reduceAdd, Nat.reduceMul, Nat.reduceLT, Nat.reduceLeDiff, Nat.reduceSub, Int.reduceToNat, Int.reduceLE, Int.reduceLT, reduceCtorEq, Int.reduceEq, Int.reduceGT, Int.reduceGE, Int.reduceNeg]
  refine at_call tSpAppend (spApS (i := 1) (r := 2) (m := 1) (k := 1) (row := [a]) (by rfl) (by rfl) (by decide) (by decide) (by decide) (by decide) (Nat.le_refl _) (by show 1 ≤ 1048576; decide) (by rw [pop_one]; decide) (by decide) (fun s hs => by rw [List.mem_singleton] at hs; subst hs; omega) (by omega)) ?_
  have r1 : spRow 1 [a] 1 b = [nd a b] := rfl
  simp -implicitDefEqProofs only [go_sem, ↓reduceIte, Nat.reduceEqDiff, Nat.reduceAdd, Nat.reduceMul, Nat.reduceLT, Nat.reduceLeDiff, Nat.reduceSub, Int.reduceToNat, Int.reduceLE, Int.reduceLT, reduceCtorEq, Int.reduceEq, Int.reduceGT, Int.reduceGE, Int.reduceNeg, r1]
  refine at_call tSpAppend (spApS (i := 1) (r := 3) (m := 2) (k := 1) (row := [nd a b]) (by rfl) (by rfl) (by decide) (by decide) (by decide) (by decide) (Nat.le_refl _) (by show 1 ≤ 1048576; decide) (by rw [pop_two]; decide) (by decide) (fun s hs => by rw [List.mem_singleton] at hs; subst hs; rw [nd_size]; decide) (by omega)) ?_
  have r2 : spRow 2 [nd a b] 1 c = [nd a b, c] := rfl
  simp -implicitDefEqProofs only [go_sem, ↓reduceIte, Nat.reduceEqDiff, Nat.reduceAdd, Nat.reduceMul, Nat.reduceLT, Nat.reduceLeDiff, Nat.reduceSub, Int.reduceToNat, Int.reduceLE, Int.reduceLT, reduceCtorEq, Int.reduceEq, Int.reduceGT, Int.reduceGE, Int.reduceNeg, r2]
  refine at_call tSpPeaks (peaksS (i := 1) (r := 4) (m := 3) (k := 2) (row := [nd a b, c]) (by rfl) (by rfl) (by decide) (by decide) (by decide) (by decide) (Nat.le_refl _) (by show 2 ≤ 1048576; decide)) ?_
  simp -implicitDefEqProofs only [go_sem, ↓reduceIte, Nat.reduceEqDiff, Nat.reduceAdd, Nat.reduceMul, Nat.reduceLT, Nat.reduceLeDiff, Nat.reduceSub, Int.reduceToNat, Int.reduceLE, Int.reduceLT, reduceCtorEq, Int.reduceEq, Int.reduceGT, Int.reduceGE, Int.reduceNeg]
  refine at_call tSpSize (sizeS (i := 1) (r := 4) (m := 3) (k := 2) (by rfl)) ?_
  have g1 : decide (((3 : Nat) : Int) = 3) = true := rfl
  have g2 : decide (((2 : Nat) : Int) = 2) = true := rfl
  have g3 : ([nd a b, c] : List ByteArray).getD 1 .empty = c := rfl
  have g4 : seq c c = true := seq_self _
  simp -implicitDefEqProofs only [go_sem, ↓reduceIte, Nat.reduceEqDiff, Nat.reduceAdd, Nat.reduceMul, Nat.reduceLT, Nat.reduceLeDiff, Nat.reduceSub, Int.reduceToNat, Int.reduceLE, Int.reduceLT, reduceCtorEq, Int.reduceEq, Int.reduceGT, Int.reduceGE, Int.reduceNeg, g1, g2, g3, g4]
  refine ⟨by decide, ?_⟩
  refine at_call tSpRoot (spRootS (i := 1) (r := 4) (m := 3) (k := 2) (row := [nd a b, c]) (by rfl) (by rfl) (by decide) (by decide) (by decide) (by decide) (Nat.le_refl _) (by show 2 ≤ 1048576; decide) (szB_two (by rw [nd_size]; decide) (by omega))) ?_
  have g5 : rootR [c, nd a b] = nd (nd a b) c := rfl
  have g6 : root [a, b, c] = nd (nd a b) c := root_three
  have g7 : seq (nd (nd a b) c) (nd (nd a b) c) = true := seq_self _
  simp -implicitDefEqProofs only [go_sem, ↓reduceIte, Nat.reduceEqDiff, Nat.reduceAdd, Nat.reduceMul, Nat.reduceLT, Nat.reduceLeDiff, Nat.reduceSub, Int.reduceToNat, Int.reduceLE, Int.reduceLT, reduceCtorEq, Int.reduceEq, Int.reduceGT, Int.reduceGE, Int.reduceNeg]
  refine at_call trefRoot (rrootS (i := 6) (ss := [a, b, c]) (o := 0) (m := 3) (by rfl) (by show 0 + 3 ≤ 3; decide) (by decide) hS) ?_
  simp -implicitDefEqProofs only [go_sem, ↓reduceIte, Nat.reduceEqDiff, Nat.reduceAdd, Nat.reduceMul, Nat.reduceLT, Nat.reduceLeDiff, Nat.reduceSub, Int.reduceToNat, Int.reduceLE, Int.reduceLT, reduceCtorEq, Int.reduceEq, Int.reduceGT, Int.reduceGE, Int.reduceNeg, g5, g6, g7]
  have g8 : seq (rootR [nd a b, c].reverse) (nd (nd a b) c) = true := seq_self _
  rw [g8]
  exact sub_val rfl (by decide) (by decide) rfl)) rfl
end Go.Sx

/- Trees: every beginning is proved. -/
set_option linter.unusedVariables false
set_option linter.unusedSimpArgs false
set_option maxRecDepth 100000
namespace Go.Sx
open Go.Proofs
/-! Trees: every leaf, and every beginning, is proved. -/
variable {H : Hp} {n : Nat} {x : Nat → Option SO}

end Go.Sx

/- Spans: the peaks of a list. -/
set_option linter.unusedVariables false
set_option linter.unusedSimpArgs false
set_option maxRecDepth 100000
namespace Go.Sx
open Go.Proofs
variable {H : Hp} {n : Nat} {x : Nat → Option SO}

/-- The peaks of a list, the last one ahead. -/
def Rl (l : List ByteArray) : List ByteArray :=
  if h : l.length = 0 then [] else if l.length % 2 = 1 then l.getD (l.length - 1) .empty :: Rl (pairs (l.take (l.length - 1))) else Rl (pairs l)
termination_by l.length
decreasing_by
  · rw [pairs_len, List.length_take]; omega
  · rw [pairs_len]; omega
theorem Rl_nil : Rl [] = [] := by rw [Rl, dif_pos (show ([] : List ByteArray).length = 0 from rfl)]
theorem Rl_even {l : List ByteArray} (h : l.length % 2 = 0) : Rl l = Rl (pairs l) := by
  by_cases h0 : l.length = 0
  · have : l = [] := List.eq_nil_of_length_eq_zero h0
    subst this; rfl
  · conv => lhs; rw [Rl, dif_neg h0, if_neg (by omega)]
theorem Rl_odd {l : List ByteArray} {p : ByteArray} (h : l.length % 2 = 0) : Rl (l ++ [p]) = p :: Rl (pairs l) := by
  have hl : (l ++ [p]).length = l.length + 1 := by simp
  rw [Rl, dif_neg (by omega), if_pos (by omega), hl, Nat.add_sub_cancel, List.take_left, List.getD_eq_getElem?_getD, List.getElem?_append_right (Nat.le_refl _), Nat.sub_self]; rfl
theorem split_odd {l : List ByteArray} (h : l.length % 2 = 1) : ∃ l' p, l = l' ++ [p] ∧ l'.length = l.length - 1 := by
  have hne : l ≠ [] := by rintro rfl; simp at h
  exact ⟨l.dropLast, l.getLast hne, (List.dropLast_concat_getLast hne).symm, by simp⟩
theorem Rl_app : ∀ {k : Nat} {l : List ByteArray} {h : ByteArray}, l.length = k → appR k (Rl l) h = Rl (l ++ [h]) := by
  intro k
  induction k using Nat.strongRecOn with
  | _ k ih =>
    intro l h hl
    by_cases h2 : k % 2 = 0
    · rw [appR_even h2, Rl_odd (by omega), ← Rl_even (by omega)]
    · obtain ⟨l', p, rfl, hl'⟩ := split_odd (l := l) (by omega)
      have e1 : (pairs l').length = k / 2 := by rw [pairs_len]; omega
      rw [Rl_odd (by omega), appR_odd (by omega), ih (k / 2) (by omega) e1, List.append_assoc, Rl_even (l := l' ++ _) (by simp at hl' hl ⊢; omega), pairs_app _ _ (by omega)]; rfl
theorem Rl_fold : ∀ {k : Nat} {l : List ByteArray} {h : ByteArray}, l.length = k → (Rl l).foldl fR h = root (l ++ [h]) := by
  intro k
  induction k using Nat.strongRecOn with
  | _ k ih =>
    intro l h hl
    by_cases h0 : k = 0
    · have : l = [] := List.eq_nil_of_length_eq_zero (by omega)
      subst this
      rw [Rl_nil, List.nil_append, root_one]; rfl
    · by_cases h2 : k % 2 = 0
      · rw [Rl_even (by omega), ih (k / 2) (by omega) (by rw [pairs_len]; omega), ← root_pairs (l := l ++ [h]) rfl, pairs_app _ _ (by omega)]; rfl
      · obtain ⟨l', p, rfl, hl'⟩ := split_odd (l := l) (by omega)
        rw [Rl_odd (by omega), List.foldl_cons, ih (k / 2) (by omega) (by rw [pairs_len]; omega), List.append_assoc, ← root_pairs (l := l' ++ _) rfl, pairs_app _ _ (by omega)]; rfl
theorem Rl_root : ∀ {k : Nat} {l : List ByteArray}, l.length = k → rootR (Rl l) = root l := by
  intro k
  induction k using Nat.strongRecOn with
  | _ k ih =>
    intro l hl
    by_cases h0 : k = 0
    · have : l = [] := List.eq_nil_of_length_eq_zero (by omega)
      subst this
      rw [Rl_nil, root_nil]; rfl
    · by_cases h2 : k % 2 = 0
      · rw [Rl_even (by omega), ih (k / 2) (by omega) (by rw [pairs_len]; omega), root_pairs rfl]
      · obtain ⟨l', p, rfl, hl'⟩ := split_odd (l := l) (by omega)
        rw [Rl_odd (by omega)]
        show (Rl (pairs l')).foldl fR p = _
        rw [Rl_fold rfl, ← root_pairs (l := l' ++ [p]) rfl, pairs_app _ _ (by omega)]; rfl
theorem Rl_len : ∀ {k : Nat} {l : List ByteArray}, l.length = k → (Rl l).length = pop k := by
  intro k
  induction k using Nat.strongRecOn with
  | _ k ih =>
    intro l hl
    by_cases h0 : k = 0
    · have : l = [] := List.eq_nil_of_length_eq_zero (by omega)
      subst this
      rw [Rl_nil, h0, pop_zero]; rfl
    · rw [pop_step]
      by_cases h2 : k % 2 = 0
      · rw [Rl_even (by omega), ih (k / 2) (by omega) (by rw [pairs_len]; omega)]; omega
      · obtain ⟨l', p, rfl, hl'⟩ := split_odd (l := l) (by omega)
        rw [Rl_odd (by omega), List.length_cons, ih (k / 2) (by omega) (by rw [pairs_len]; omega)]; omega
theorem pop_le : ∀ {k : Nat}, pop k ≤ k := by
  intro k
  induction k using Nat.strongRecOn with
  | _ k ih =>
    by_cases h0 : k = 0
    · subst h0; rw [pop_zero]; omega
    · rw [pop_step]; have := ih (k / 2) (by omega); omega
theorem Rl_szB : ∀ {k : Nat} {l : List ByteArray}, l.length = k → szB l → szB (Rl l) := by
  intro k
  induction k using Nat.strongRecOn with
  | _ k ih =>
    intro l hl hz
    by_cases h0 : k = 0
    · have : l = [] := List.eq_nil_of_length_eq_zero (by omega)
      subst this
      rw [Rl_nil]; exact hz
    · by_cases h2 : k % 2 = 0
      · rw [Rl_even (by omega)]; exact ih (k / 2) (by omega) (by rw [pairs_len]; omega) (pairs_szB hz)
      · obtain ⟨l', p, rfl, hl'⟩ := split_odd (l := l) (by omega)
        rw [Rl_odd (by omega)]
        intro s hs
        rcases List.mem_cons.1 hs with rfl | hs
        · exact hz _ (by simp)
        · exact ih (k / 2) (by omega) (by rw [pairs_len]; omega) (pairs_szB fun t ht => hz t (by simp [ht])) s hs
/-- A row holds a list's peaks. -/
structure PkOK (l row : List ByteArray) : Prop where
  len : row.length ≤ l.length
  le : pop l.length ≤ row.length
  eq : (row.take (pop l.length)).reverse = Rl l
  sz : szB row
def nxRow (l row : List ByteArray) (h : ByteArray) : List ByteArray := (Rl (l ++ [h])).reverse ++ row.drop (pop (l.length + 1))
theorem PkOK.nil : PkOK [] [] := ⟨Nat.le_refl _, by rw [List.length_nil, pop_zero]; exact Nat.le_refl _, by rw [Rl_nil, List.take_nil]; rfl, fun s hs => by cases hs⟩
theorem PkOK.row {l row : List ByteArray} {h : ByteArray} (hp : PkOK l row) : spRow l.length row (pop l.length) h = (Rl (l ++ [h])).reverse := by
  unfold spRow; rw [hp.eq, Rl_app rfl]
theorem PkOK.rlen {l : List ByteArray} {h : ByteArray} : (Rl (l ++ [h])).reverse.length = pop (l.length + 1) := by
  rw [List.length_reverse, Rl_len (k := l.length + 1) (by simp)]
theorem PkOK.step {l row : List ByteArray} {h : ByteArray} (hp : PkOK l row) (hl : szB l) (hh : h.size ≤ 536870000) : PkOK (l ++ [h]) (nxRow l row h) := by
  have e := PkOK.rlen (l := l) (h := h)
  have e2 : (l ++ [h]).length = l.length + 1 := by simp
  have hpl := pop_le (k := l.length + 1)
  have h1 := hp.len
  unfold nxRow
  refine ⟨by rw [List.length_append, e, List.length_drop, e2]; omega, by rw [e2, List.length_append, e]; omega, ?_, ?_⟩
  · rw [e2, List.take_append_of_le_length (by rw [e]; exact Nat.le_refl _), List.take_of_length_le (by rw [e]; exact Nat.le_refl _), List.reverse_reverse]
  · intro s hs
    rcases List.mem_append.1 hs with hs | hs
    · exact Rl_szB (l := l ++ [h]) rfl (fun t ht => by
        rcases List.mem_append.1 ht with ht | ht
        · exact hl t ht
        · rw [List.mem_singleton] at ht; subst ht; exact hh) s (List.mem_reverse.1 hs)
    · exact hp.sz s (List.mem_of_mem_drop hs)
/-- A hash is laid behind. -/
theorem spNextS {r i : Nat} {l row : List ByteArray} {h : ByteArray} (hg : H.get i = some (spO l.length r (pop l.length))) (hr : H.get r = some ⟨true, .strs row⟩) (hi : 0 < i ∧ i < 1000) (hr1 : 0 < r ∧ r < 1000) (hne : i ≠ r) (hn : n + 1 ≤ 1000)
    (hp : PkOK l row) (hb : l.length ≤ 1048576) (hh : h.size ≤ 536870000) :
    SpecAt Try.prog nSpAppend [.ptr i 0, .v (.string h)] H n (.tup []) ⟨(i, some (spO (l.length + 1) n (pop (l.length + 1)))) :: (r, none) :: (n, some ⟨true, .strs (nxRow l row h)⟩) :: H.l, H.x⟩ (n + 1) := by
  have hl := hp.len
  have := spApS (m := l.length) (k := pop l.length) (row := row) (h := h) hg hr hi hr1 hne hn hp.le (by omega) (Nat.le_refl _) (by omega) hp.sz hh
  rw [hp.row, PkOK.rlen] at this
  exact this
/-- The root of all. -/
theorem spRootL {r i : Nat} {l row : List ByteArray} (hg : H.get i = some (spO l.length r (pop l.length))) (hr : H.get r = some ⟨true, .strs row⟩) (hi : 0 < i ∧ i < 1000) (hr1 : 0 < r ∧ r < 1000) (hne : i ≠ r)
    (hp : PkOK l row) (hb : l.length ≤ 1048576) :
    SpecAt Try.prog nSpRoot [.ptr i 0] H n (.v (.string (root l))) H n := by
  have hlr := hp.len
  rw [← Rl_root (l := l) rfl, ← hp.eq]
  by_cases h0 : pop l.length = 0
  · rw [h0] at hg ⊢
    exact spRoot0S hg
  · exact spRootS hg hr hi hr1 hne (by omega) hp.le (by omega) hp.sz
end Go.Sx

/- Spans: SpanProves. -/
set_option linter.unusedVariables false
set_option linter.unusedSimpArgs false
set_option maxRecDepth 100000
namespace Go.Sx
open Go.Proofs
variable {H : Hp} {n : Nat} {x : Nat → Option SO}

theorem sameS {a b l : Nat} {ss : List ByteArray} (h1 : rowAt H a (.strs []) = some (.strs ss)) (h2 : rowAt H b (.strs []) = some (.strs ss)) (hl : l = ss.length) (hb : l ≤ 1048576) :
    SpecAt Try.prog nSameTexts [.sl a 0 l 1, .sl b 0 l 1] H n (.v (.bool true)) H n := by
  have := lift_ro (n := n) (okT.spec tSameTexts (sameW (x := H.x) (o := 0) (o' := 0) (l := l) (ss := ss) (tt := ss) (by omega) (by omega) (fun _ _ => rfl) hb)) [(1, a), (2, b)] rfl rfl rfl (by omega) rfl rfl
    ⟨rowAt_sub h1 rfl ⟨rfl, fun _ h => (by cases h)⟩ rfl, rowAt_sub h2 rfl ⟨rfl, fun _ h => (by cases h)⟩ rfl, trivial⟩ rfl rfl rfl
  exact this
end Go.Sx

/- Spans: SpanGrows. -/
set_option linter.unusedVariables false
set_option linter.unusedSimpArgs false
set_option maxRecDepth 100000
namespace Go.Sx
open Go.Proofs
variable {H : Hp} {n : Nat} {x : Nat → Option SO}

theorem PkOK.peaks {l row : List ByteArray} (hp : PkOK l row) : row.take (pop l.length) = (Rl l).reverse := by rw [← hp.eq, List.reverse_reverse]
def hs (ss : List ByteArray) (i : Nat) : List ByteArray := (ss.take i).map lf
theorem hs_len {ss : List ByteArray} {i : Nat} (h : i ≤ ss.length) : (hs ss i).length = i := by unfold hs; rw [List.length_map, List.length_take]; omega
theorem hs_succ {ss : List ByteArray} {i : Nat} (h : i < ss.length) : hs ss (i + 1) = hs ss i ++ [lf (ss.getD i .empty)] := by
  unfold hs
  rw [List.take_succ_eq_append_getElem h, List.map_append, List.getD_eq_getElem?_getD, List.getElem?_eq_getElem h]; rfl
theorem hs_szB {ss : List ByteArray} {i : Nat} : szB (hs ss i) := by
  intro t ht
  obtain ⟨u, _, rfl⟩ := List.mem_map.1 ht
  rw [lf_size]; decide
theorem hs_take {ss : List ByteArray} {i j : Nat} (h : j ≤ i) : (hs ss i).take j = hs ss j := by
  unfold hs; rw [← List.map_take, List.take_take, Nat.min_eq_left h]
theorem hs_get {ss : List ByteArray} {i k : Nat} (h : i < k) (hk : k ≤ ss.length) : (hs ss k).getD i .empty = lf (ss.getD i .empty) := by
  unfold hs
  rw [List.getD_eq_getElem?_getD, List.getElem?_map, List.getElem?_take, if_pos h, List.getD_eq_getElem?_getD, List.getElem?_eq_getElem (by omega)]; rfl
end Go.Sx
