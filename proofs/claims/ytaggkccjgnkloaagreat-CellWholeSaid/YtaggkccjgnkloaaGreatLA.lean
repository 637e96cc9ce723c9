/- Layer 04: the table; small things. -/
import Derived.Test.YtaggkccjgnkloaaGreatMir04
import Derived.Test.YtaggkccjgnkloaaGreatSxC
import Derived.Test.YtaggkccjgnkloaaGreatMaps
import Derived.Test.YtaggkccjgnkloaaGreatBld
import Derived.Laws.Strings

set_option linter.unusedVariables false
set_option maxRecDepth 100000
namespace Go.Sx
open Go.Proofs
variable {H : Hp} {n : Nat} {x : Nat → Option SO}
theorem mixT : Tryz.prog.follows .mixedOrders = true := Checked.mixed Tryz.checked
abbrev CT : Tab := CS Tryz.prog
theorem okT : OKT Tryz.prog CT := okCS mixT
theorem bts_len (s : ByteArray) : (bts s).length = s.size := by simp [bts]
end Go.Sx

/- Trees, at this program. -/
set_option linter.unusedVariables false
set_option linter.unusedSimpArgs false
set_option maxRecDepth 100000
namespace Go.Sx
open Go.Proofs
variable {H : Hp} {n : Nat} {x : Nat → Option SO}
theorem sub_wr {π : List (Nat × Nat)} {j i : Nat} {o : SO} (hr : rn π j = i) (hi : 0 < i) (h1 : i < 1000) {b : Body} (hg : H.get i = some ⟨true, b⟩) (hb : b = o.b.ren π) : objSub π H j o := by
  unfold objSub
  rw [hr, if_neg (by omega), hg]
  exact ⟨fun _ => h1, fun _ => rfl, hb⟩
theorem sub_ro {π : List (Nat × Nat)} {j i : Nat} {b0 : Body} (hr : rn π j = i) (hi : 0 < i) {s : SO} (hg : H.get i = some s) (hb : s.b = b0.ren π) : objSub π H j ⟨false, b0⟩ := by
  unfold objSub
  rw [hr, if_neg (by omega), hg]
  exact ⟨fun h => (by cases h), fun h => (by cases h), hb⟩
variable {H : Hp} {n : Nat} {x : Nat → Option SO}
theorem seq_self (s : ByteArray) : seq s s = true := by unfold seq; simp
variable {H : Hp} {n : Nat} {x : Nat → Option SO}
theorem nilK_of {i m : Nat} {T S : Prop} {s : SO} (hi : i ≠ 0) (hg : H.get i = some s) (hT : m = 0 → s.b.cells = [] → T) (hS : S) : nilK H i m T S := by
  unfold nilK
  rw [if_neg hi, hg]
  exact ⟨hT, hS⟩
variable {H : Hp} {n : Nat} {x : Nat → Option SO}
end Go.Sx

/- Trees, at this program. -/
set_option linter.unusedVariables false
set_option linter.unusedSimpArgs false
set_option maxRecDepth 100000
namespace Go.Sx
attribute [local go_sem ↓] bind_mk intsB_mk strsB_mk svB_mk fnVC ob_some vc_skip vc_exit vc_ret vc_seq vc_block kSeq_normal kSeq_exit kSeq_ret kBlock_normal kBlock_exit kBlock_ret vc_reg vc_regD vc_cond condK_true condK_false vc_loop kLoop_exit kLoop_ret kRoll_normal kRoll_exit kRoll_ret vcOps_nil vcOps_cons gd_bool gd_undef put_some put_none vcT_fin vcT_pure vcT_act vcT_acts vcT_stop stab_none stab_some stabM_nil stabM_cons stabO_ld stabO_ldn stabO_slP stabO_b2s fldOf_ai fldOf_agg fldOf_ait fldOf_aggt intsOf_nil intsOf_cons strsOf_nil strsOf_cons c_omap ob_if lk_nil lk_cons ev_t ev_k z_mov z_pick z_bin z_binB z_binP z_un z_r2s z_conv z_s2b z_b2s z_mkM z_luM z_upM z_lenM lenMk_mp lenMk_nil plsOf_v z_delM asM_so plV_v plV_agg mpOf_mp mpOf_nil mpUp_mp asM_mp luV_ok luV_v z_allocT aggOf_mk z_boxT z_alloc z_bld z_bldI z_rowI z_rowS z_ld z_ldn z_st z_stn asN_ptr asN_fn z_nilck z_fld z_fadr z_idxA z_idxP z_idxS z_idxV z_slS z_slL z_slP z_mk z_lenS z_lenL z_app appC_ints appC_pl appC_sv appC_strs isS_strs loose_ints loose_pl loose_sv z_slM z_callv callvK_fn callvK_f callvK_yl vc_rangeF rfEnd_eq rfGo_none rfGo_ret rfGo_exit yGo_mk yEnd_n yEnd_r yEnd_e yRdy_mk yMid_n putPs_nil putPs_cons leaf_v leaf_ptr leaf_sl leaf_yl leaf_mp z_appS z_appST z_appZ z_cpyS z_mkfn reps_int reps_str z_rowV z_slnil nilK_zero z_cpy z_call asT_tup z_extT z_box boxOf_ai boxOf_agg boxOf_int boxOf_str boxOf_bool boxOf_ptr boxOf_sl sbin_int sbin_str sbinB_mk sbinP_nn sbinP_pn sbinP_np i_add i_sub i_mul i_quo i_rem i_and i_or i_xor i_andNot i_shl i_shr i_eql i_neq i_lss i_leq i_gtr i_geq st_add st_eql st_neq st_lss st_leq st_gtr st_geq bo_eql bo_neq pt_eql pt_neq un_neg un_xor un_not asI_mk asB_mk asS_mk asP_mk asSl_mk asBy_mk bnd_none bnd_some get_mk hput_mk hdel_mk kill_eq wrOf_eq rowOf_eq rsvs_0 rsvs_1 rsvs_2 rsvs_3 rsv_t rsv_c1 rsv_cn nt_v nt_ptr nt_sl nt_agg nt_ai get_ints get_strs get_pl get_sv getN_ints getN_sv set_ints set_strs set_sv setN_ints setN_sv part_ints part_strs part_sv cat_ints cat_strs cat_sv over_ints over_strs over_sv ones_ints ones_strs evs_nil evs_cons condK_eqt condK_eqf det_callP V_ns V_nn V_gs V_gn obC_mk fresh_ev freshT_ev freshR_ev setN_plagg setN_intsv setN_svai setN_svagg over_intsv set_pl setN_pl setN_plai getN_pl getN_strs part_pl cat_pl over_pl over_plints z_mm
attribute [local go_sem] initTm ne_eq not_true_eq_false not_false_eq_true true_and and_true List.length_cons List.length_nil Int.toNat_natCast Nat.add_zero Nat.zero_add Nat.mul_one List.getElem?_cons_zero List.drop_zero List.take_length List.take_succ_cons List.take_zero List.take_nil List.drop_succ_cons Option.map_some Nat.le_refl implies_true List.getElem?_cons_succ decide_true decide_false Bool.not_true Bool.not_false beq_self_eq_true Nat.succ_ne_self Nat.one_ne_zero Nat.zero_ne_one vk_mk hk_mk nk_mk tok_eq plsOf_map intsOf_map bodyOf_pl bodyOf_ints bodyOf_strs bodyOf_sv part_aggv part_agg part_ai part_int part_str part_bool part_sl part_ptr part_nil numsOf_map u_int u_str u_bool u_pnil u_sl u_ptr u_oci u_ocs evq_nil evq_cons fillS_nil fillS_cons u_ocb ones_pl cells_sv cells_ints cells_strs cells_pl smms_nil smms_cons smm_min smm_max plsOf_nil List.nil_append List.all_cons List.all_nil Bool.and_self Bool.true_and Bool.and_true zws_len zw_len zi_len List.set_cons_zero List.set_cons_succ List.flatMap_cons List.flatMap_nil List.append_nil
attribute [local go_sem_proc] Nat.reduceEqDiff Nat.reduceAdd Nat.reduceMul Nat.reduceLT Nat.reduceLeDiff Nat.reduceSub Int.reduceToNat Int.reduceLE Int.reduceLT reduceCtorEq Int.reduceEq Int.reduceGT Int.reduceGE Int.reduceNeg
attribute [local go_sem_proc ↓] reduceIte
section
open Go.Proofs
variable {H : Hp} {n : Nat} {x : Nat → Option SO}
def be (y k : Nat) : List Int := (List.range k).map fun j => ((y / 256 ^ (k - 1 - j) % 256 : Nat) : Int)
theorem be_len {y k : Nat} : (be y k).length = k := by simp [be]
theorem be_get {y k j : Nat} (h : j < k) : (be y k)[j]? = some ((y / 256 ^ (k - 1 - j) % 256 : Nat) : Int) := by
  unfold be; rw [List.getElem?_map, List.getElem?_range h]; rfl
def wrO (r : Nat) (l : Nat) (bad : Bool) : SO := ⟨true, .sv [.sl r 0 l 1, .v (.bool bad)]⟩
theorem ishr_i {y s : Nat} (hs : s ≤ 64) : ishr .i64 (y : Int) (s : Nat) = ((y / 2 ^ s : Nat) : Int) := by
  unfold ishr
  have hm : min ((s : Nat) : Int).toNat IntKind.i64.bits = s := by show min ((s : Nat) : Int).toNat 64 = s; omega
  rw [hm, Int.fdiv_eq_ediv_of_nonneg _ (Int.le_of_lt (Int.pow_pos (by decide)))]
  push_cast
  rfl
theorem pow256 (c : Nat) : 2 ^ (8 * c) = 256 ^ c := by rw [Nat.pow_mul]
theorem wNumW {y k : Nat} {bs : List Int} {bad : Bool} (hk : k ≤ 8) (hy : y < 9223372036854775808) (hf : k < 8 → y < 256 ^ k) (hb : bs.length ≤ 1099511627776) :
    fnVC CT mWNumber [.ptr 1 0, .v (.int .i64 y), .v (.int .i64 k)] ⟨[(1, some (wrO 2 bs.length bad)), (2, some ⟨true, .ints .u8 bs⟩)], x⟩ 3 fun v H' n' => Sub 3 ⟨[(0, .tup [])], ⟨[(1, some (wrO 3 (bs ++ be y k).length bad)), (2, none), (3, some ⟨true, .ints .u8 (bs ++ be y k)⟩)], x⟩, 4⟩ ⟨[(0, v)], H', n'⟩ := by
  unfold mWNumber wrO
  have g1 : decide ((y : Int) < 0) = false := decide_eq_false (by omega)
  have w1 : IntKind.i64.wrap (8 * (k : Int)) = ((8 * k : Nat) : Int) := by rw [wrap_i64 (by omega) (by omega)]; omega
  have s1 : ishr .i64 (y : Int) ((8 * k : Nat) : Int) = ((y / 256 ^ k : Nat) : Int) := by rw [ishr_i (by omega), pow256]
  have w2 : IntKind.i64.wrap ((k : Int) - 1) = (k : Int) - 1 := wrap_i64 (by omega) (by omega)
  have hz : k < 8 → decide (((y / 256 ^ k : Nat) : Int) = 0) = true := fun h => decide_eq_true (by rw [Nat.div_eq_of_lt (hf h)]; rfl)
  simp -implicitDefEqProofs only [↓fnVC, initTm]
  simp -implicitDefEqProofs only [go_sem, g1]
  refine condK_bb (fun c => ?_) (fun c => ?_)
  · have h1 := hz (by have := of_decide_eq_true c; omega)
    simp -implicitDefEqProofs only [go_sem, c, w1, s1, h1]
    refine ⟨by omega, ?_⟩
    refine loop_fam (fun (c : Nat) => c ≤ k) (fun c => ⟨[(0, .ptr 1 0), (1, .v (.int .i64 y)), (2, .v (.int .i64 ((c : Int) - 1)))], ⟨[(1, some ⟨true, .sv [.sl 3 0 (bs ++ (be y k).take (k - c)).length 1, .v (.bool bad)]⟩), (3, some ⟨true, .ints .u8 (bs ++ (be y k).take (k - c))⟩)], x⟩, 4⟩) (fun c => c) k (Nat.le_refl _) ?_ ?_
    · refine sub_mk [(3, 2)] rfl rfl rfl ?_
      simp only [tmSub, hpSub, objSub, eqTm, eqHp, rn, lk, SV.ren, SV.renC, SV.renB, SV.renA, ren_ints, ren_strs, ren_pl, ren_svs, SV.v.injEq, Value.int.injEq, Body.ints.injEq, SV.ptr.injEq, SV.sl.injEq, Value.string.injEq, Value.bool.injEq, List.map_cons, List.map_nil, forall_const, Nat.reduceLT, Nat.lt_add_one, imp_self, true_and, and_true, and_self, ob_some, get_mk, lk_cons, ↓reduceIte, Nat.reduceEqDiff, ne_eq, not_true_eq_false, not_false_eq_true, Nat.one_ne_zero, Nat.zero_ne_one, Nat.succ_ne_self, Nat.reduceAdd, Bool.false_eq_true, false_implies, implies_true, reduceCtorEq, w2, Nat.sub_self, List.take_zero, List.append_nil]
    · intro c hc
      simp -implicitDefEqProofs only [go_sem]
      refine condK_bb (fun d => ?_) (fun d => ?_)
      · have d1 : 1 ≤ c := by have := of_decide_eq_true d; omega
        have w3 : IntKind.i64.wrap (8 * ((c : Int) - 1)) = ((8 * (c - 1) : Nat) : Int) := by rw [wrap_i64 (by omega) (by omega)]; omega
        have s2 : ishr .i64 (y : Int) ((8 * (c - 1) : Nat) : Int) = ((y / 256 ^ (c - 1) : Nat) : Int) := by rw [ishr_i (by omega), pow256]
        have w4 : IntKind.u8.wrap ((y / 256 ^ (c - 1) : Nat) : Int) = ((y / 256 ^ (c - 1) % 256 : Nat) : Int) := by rw [wrap_u8]; omega
        have w5 : IntKind.i64.wrap ((c : Int) - 1 - 1) = ((c - 1 : Nat) : Int) - 1 := by rw [wrap_i64 (by omega) (by omega)]; omega
        have ht : bs ++ (be y k).take (k - (c - 1)) = (bs ++ (be y k).take (k - c)) ++ [((y / 256 ^ (c - 1) % 256 : Nat) : Int)] := by
          rw [show k - (c - 1) = (k - c) + 1 by omega, List.take_add_one, be_get (by omega), show k - 1 - (k - c) = c - 1 by omega, List.append_assoc]; rfl
        have hlen : (bs ++ (be y k).take (k - c)).length ≤ 1099511627784 := by rw [List.length_append, List.length_take]; omega
        generalize bs ++ (be y k).take (k - c) = cur at hlen ht
        simp -implicitDefEqProofs only [go_sem, d, w3, s2, w4, w5]
        refine ⟨by omega, by omega, by omega, ?_⟩
        refine kLoop_mk (c - 1) (by omega) (by omega) ?_
        refine sub_mk [(3, 5)] rfl rfl rfl ?_
        simp only [tmSub, hpSub, objSub, eqTm, eqHp, rn, lk, SV.ren, SV.renC, SV.renB, SV.renA, ren_ints, ren_strs, ren_pl, ren_svs, SV.v.injEq, Value.int.injEq, Body.ints.injEq, SV.ptr.injEq, SV.sl.injEq, Value.string.injEq, Value.bool.injEq, List.map_cons, List.map_nil, forall_const, Nat.reduceLT, Nat.lt_add_one, imp_self, true_and, and_true, and_self, ob_some, get_mk, lk_cons, ↓reduceIte, Nat.reduceEqDiff, ne_eq, not_true_eq_false, not_false_eq_true, Nat.one_ne_zero, Nat.zero_ne_one, Nat.succ_ne_self, Nat.reduceAdd, Bool.false_eq_true, false_implies, implies_true, reduceCtorEq, w5, ht, List.length_append, List.length_singleton]
      · have d1 : c = 0 := by have := of_decide_eq_false d; omega
        subst d1
        have ht : (be y k).take (k - 0) = be y k := List.take_of_length_le (by rw [be_len]; exact Nat.le_refl _)
        simp -implicitDefEqProofs only [go_sem, d, ht]
        refine sub_mk [] rfl rfl rfl ?_
        simp only [tmSub, hpSub, objSub, eqTm, eqHp, rn, lk, SV.ren, SV.renC, SV.renB, SV.renA, ren_ints, ren_strs, ren_pl, ren_svs, SV.v.injEq, Value.int.injEq, Body.ints.injEq, SV.ptr.injEq, SV.sl.injEq, Value.string.injEq, Value.bool.injEq, List.map_cons, List.map_nil, forall_const, Nat.reduceLT, Nat.lt_add_one, imp_self, true_and, and_true, and_self, ob_some, get_mk, lk_cons, ↓reduceIte, Nat.reduceEqDiff, ne_eq, not_true_eq_false, not_false_eq_true, Nat.one_ne_zero, Nat.zero_ne_one, Nat.succ_ne_self, Nat.reduceAdd, Bool.false_eq_true, false_implies, implies_true, reduceCtorEq]
  · simp -implicitDefEqProofs only [go_sem, c, w1, s1]
    refine loop_fam (fun (c : Nat) => c ≤ k) (fun c => ⟨[(0, .ptr 1 0), (1, .v (.int .i64 y)), (2, .v (.int .i64 ((c : Int) - 1)))], ⟨[(1, some ⟨true, .sv [.sl 3 0 (bs ++ (be y k).take (k - c)).length 1, .v (.bool bad)]⟩), (3, some ⟨true, .ints .u8 (bs ++ (be y k).take (k - c))⟩)], x⟩, 4⟩) (fun c => c) k (Nat.le_refl _) ?_ ?_
    · refine sub_mk [(3, 2)] rfl rfl rfl ?_
      simp only [tmSub, hpSub, objSub, eqTm, eqHp, rn, lk, SV.ren, SV.renC, SV.renB, SV.renA, ren_ints, ren_strs, ren_pl, ren_svs, SV.v.injEq, Value.int.injEq, Body.ints.injEq, SV.ptr.injEq, SV.sl.injEq, Value.string.injEq, Value.bool.injEq, List.map_cons, List.map_nil, forall_const, Nat.reduceLT, Nat.lt_add_one, imp_self, true_and, and_true, and_self, ob_some, get_mk, lk_cons, ↓reduceIte, Nat.reduceEqDiff, ne_eq, not_true_eq_false, not_false_eq_true, Nat.one_ne_zero, Nat.zero_ne_one, Nat.succ_ne_self, Nat.reduceAdd, Bool.false_eq_true, false_implies, implies_true, reduceCtorEq, w2, Nat.sub_self, List.take_zero, List.append_nil]
    · intro c hc
      simp -implicitDefEqProofs only [go_sem]
      refine condK_bb (fun d => ?_) (fun d => ?_)
      · have d1 : 1 ≤ c := by have := of_decide_eq_true d; omega
        have w3 : IntKind.i64.wrap (8 * ((c : Int) - 1)) = ((8 * (c - 1) : Nat) : Int) := by rw [wrap_i64 (by omega) (by omega)]; omega
        have s2 : ishr .i64 (y : Int) ((8 * (c - 1) : Nat) : Int) = ((y / 256 ^ (c - 1) : Nat) : Int) := by rw [ishr_i (by omega), pow256]
        have w4 : IntKind.u8.wrap ((y / 256 ^ (c - 1) : Nat) : Int) = ((y / 256 ^ (c - 1) % 256 : Nat) : Int) := by rw [wrap_u8]; omega
        have w5 : IntKind.i64.wrap ((c : Int) - 1 - 1) = ((c - 1 : Nat) : Int) - 1 := by rw [wrap_i64 (by omega) (by omega)]; omega
        have ht : bs ++ (be y k).take (k - (c - 1)) = (bs ++ (be y k).take (k - c)) ++ [((y / 256 ^ (c - 1) % 256 : Nat) : Int)] := by
          rw [show k - (c - 1) = (k - c) + 1 by omega, List.take_add_one, be_get (by omega), show k - 1 - (k - c) = c - 1 by omega, List.append_assoc]; rfl
        have hlen : (bs ++ (be y k).take (k - c)).length ≤ 1099511627784 := by rw [List.length_append, List.length_take]; omega
        generalize bs ++ (be y k).take (k - c) = cur at hlen ht
        simp -implicitDefEqProofs only [go_sem, d, w3, s2, w4, w5]
        refine ⟨by omega, by omega, by omega, ?_⟩
        refine kLoop_mk (c - 1) (by omega) (by omega) ?_
        refine sub_mk [(3, 5)] rfl rfl rfl ?_
        simp only [tmSub, hpSub, objSub, eqTm, eqHp, rn, lk, SV.ren, SV.renC, SV.renB, SV.renA, ren_ints, ren_strs, ren_pl, ren_svs, SV.v.injEq, Value.int.injEq, Body.ints.injEq, SV.ptr.injEq, SV.sl.injEq, Value.string.injEq, Value.bool.injEq, List.map_cons, List.map_nil, forall_const, Nat.reduceLT, Nat.lt_add_one, imp_self, true_and, and_true, and_self, ob_some, get_mk, lk_cons, ↓reduceIte, Nat.reduceEqDiff, ne_eq, not_true_eq_false, not_false_eq_true, Nat.one_ne_zero, Nat.zero_ne_one, Nat.succ_ne_self, Nat.reduceAdd, Bool.false_eq_true, false_implies, implies_true, reduceCtorEq, w5, ht, List.length_append, List.length_singleton]
      · have d1 : c = 0 := by have := of_decide_eq_false d; omega
        subst d1
        have ht : (be y k).take (k - 0) = be y k := List.take_of_length_le (by rw [be_len]; exact Nat.le_refl _)
        simp -implicitDefEqProofs only [go_sem, d, ht]
        refine sub_mk [] rfl rfl rfl ?_
        simp only [tmSub, hpSub, objSub, eqTm, eqHp, rn, lk, SV.ren, SV.renC, SV.renB, SV.renA, ren_ints, ren_strs, ren_pl, ren_svs, SV.v.injEq, Value.int.injEq, Body.ints.injEq, SV.ptr.injEq, SV.sl.injEq, Value.string.injEq, Value.bool.injEq, List.map_cons, List.map_nil, forall_const, Nat.reduceLT, Nat.lt_add_one, imp_self, true_and, and_true, and_self, ob_some, get_mk, lk_cons, ↓reduceIte, Nat.reduceEqDiff, ne_eq, not_true_eq_false, not_false_eq_true, Nat.one_ne_zero, Nat.zero_ne_one, Nat.succ_ne_self, Nat.reduceAdd, Bool.false_eq_true, false_implies, implies_true, reduceCtorEq]
theorem wNum0W {y k : Nat} {bs : List Int} {bad : Bool} (hk : k ≤ 8) (hy : y < 9223372036854775808) (hf : k < 8 → y < 256 ^ k) (hb : bs.length ≤ 1099511627776) (h0 : bs = []) :
    fnVC CT mWNumber [.ptr 1 0, .v (.int .i64 y), .v (.int .i64 k)] ⟨[(1, some ⟨true, .sv [.sl 0 0 0 1, .v (.bool bad)]⟩)], x⟩ 2 fun v H' n' => Sub 2 ⟨[(0, .tup [])], ⟨[(1, some (wrO 2 (be y k).length bad)), (2, some ⟨true, .ints .u8 (be y k)⟩)], x⟩, 3⟩ ⟨[(0, v)], H', n'⟩ := by
  unfold mWNumber wrO
  have g1 : decide ((y : Int) < 0) = false := decide_eq_false (by omega)
  have w1 : IntKind.i64.wrap (8 * (k : Int)) = ((8 * k : Nat) : Int) := by rw [wrap_i64 (by omega) (by omega)]; omega
  have s1 : ishr .i64 (y : Int) ((8 * k : Nat) : Int) = ((y / 256 ^ k : Nat) : Int) := by rw [ishr_i (by omega), pow256]
  have w2 : IntKind.i64.wrap ((k : Int) - 1) = (k : Int) - 1 := wrap_i64 (by omega) (by omega)
  have hz : k < 8 → decide (((y / 256 ^ k : Nat) : Int) = 0) = true := fun h => decide_eq_true (by rw [Nat.div_eq_of_lt (hf h)]; rfl)
  simp -implicitDefEqProofs only [↓fnVC, initTm]
  simp -implicitDefEqProofs only [go_sem, g1]
  refine condK_bb (fun c => ?_) (fun c => ?_)
  · have h1 := hz (by have := of_decide_eq_true c; omega)
    simp -implicitDefEqProofs only [go_sem, c, w1, s1, h1]
    refine ⟨by omega, ?_⟩
    refine loop_fam (fun (c : Nat) => c ≤ k) (fun c => ⟨[(0, .ptr 1 0), (1, .v (.int .i64 y)), (2, .v (.int .i64 ((c : Int) - 1)))], ⟨[(1, some ⟨true, .sv [.sl 2 0 (bs ++ (be y k).take (k - c)).length 1, .v (.bool bad)]⟩), (2, some ⟨true, .ints .u8 (bs ++ (be y k).take (k - c))⟩)], x⟩, 3⟩) (fun c => c) k (Nat.le_refl _) ?_ ?_
    · subst h0
      refine sub_mk [(2, 0)] rfl rfl rfl ?_
      simp only [tmSub, hpSub, objSub, eqTm, eqHp, rn, lk, SV.ren, SV.renC, SV.renB, SV.renA, ren_ints, ren_strs, ren_pl, ren_svs, SV.v.injEq, Value.int.injEq, Body.ints.injEq, SV.ptr.injEq, SV.sl.injEq, Value.string.injEq, Value.bool.injEq, List.map_cons, List.map_nil, forall_const, Nat.reduceLT, Nat.lt_add_one, imp_self, true_and, and_true, and_self, ob_some, get_mk, lk_cons, ↓reduceIte, Nat.reduceEqDiff, ne_eq, not_true_eq_false, not_false_eq_true, Nat.one_ne_zero, Nat.zero_ne_one, Nat.succ_ne_self, Nat.reduceAdd, Bool.false_eq_true, false_implies, implies_true, reduceCtorEq, w2, Nat.sub_self, List.take_zero, List.append_nil, List.length_nil]
      rfl
    · intro c hc
      simp -implicitDefEqProofs only [go_sem]
      refine condK_bb (fun d => ?_) (fun d => ?_)
      · have d1 : 1 ≤ c := by have := of_decide_eq_true d; omega
        have w3 : IntKind.i64.wrap (8 * ((c : Int) - 1)) = ((8 * (c - 1) : Nat) : Int) := by rw [wrap_i64 (by omega) (by omega)]; omega
        have s2 : ishr .i64 (y : Int) ((8 * (c - 1) : Nat) : Int) = ((y / 256 ^ (c - 1) : Nat) : Int) := by rw [ishr_i (by omega), pow256]
        have w4 : IntKind.u8.wrap ((y / 256 ^ (c - 1) : Nat) : Int) = ((y / 256 ^ (c - 1) % 256 : Nat) : Int) := by rw [wrap_u8]; omega
        have w5 : IntKind.i64.wrap ((c : Int) - 1 - 1) = ((c - 1 : Nat) : Int) - 1 := by rw [wrap_i64 (by omega) (by omega)]; omega
        have ht : bs ++ (be y k).take (k - (c - 1)) = (bs ++ (be y k).take (k - c)) ++ [((y / 256 ^ (c - 1) % 256 : Nat) : Int)] := by
          rw [show k - (c - 1) = (k - c) + 1 by omega, List.take_add_one, be_get (by omega), show k - 1 - (k - c) = c - 1 by omega, List.append_assoc]; rfl
        have hlen : (bs ++ (be y k).take (k - c)).length ≤ 1099511627784 := by rw [List.length_append, List.length_take]; omega
        generalize bs ++ (be y k).take (k - c) = cur at hlen ht
        simp -implicitDefEqProofs only [go_sem, d, w3, s2, w4, w5]
        refine ⟨by omega, by omega, by omega, ?_⟩
        refine kLoop_mk (c - 1) (by omega) (by omega) ?_
        refine sub_mk [(2, 4)] rfl rfl rfl ?_
        simp only [tmSub, hpSub, objSub, eqTm, eqHp, rn, lk, SV.ren, SV.renC, SV.renB, SV.renA, ren_ints, ren_strs, ren_pl, ren_svs, SV.v.injEq, Value.int.injEq, Body.ints.injEq, SV.ptr.injEq, SV.sl.injEq, Value.string.injEq, Value.bool.injEq, List.map_cons, List.map_nil, forall_const, Nat.reduceLT, Nat.lt_add_one, imp_self, true_and, and_true, and_self, ob_some, get_mk, lk_cons, ↓reduceIte, Nat.reduceEqDiff, ne_eq, not_true_eq_false, not_false_eq_true, Nat.one_ne_zero, Nat.zero_ne_one, Nat.succ_ne_self, Nat.reduceAdd, Bool.false_eq_true, false_implies, implies_true, reduceCtorEq, w5, ht, List.length_append, List.length_singleton]
      · have d1 : c = 0 := by have := of_decide_eq_false d; omega
        subst d1
        have ht : (be y k).take (k - 0) = be y k := List.take_of_length_le (by rw [be_len]; exact Nat.le_refl _)
        simp -implicitDefEqProofs only [go_sem, d, ht]
        refine sub_mk [] rfl rfl rfl ?_
        simp only [tmSub, hpSub, objSub, eqTm, eqHp, rn, lk, SV.ren, SV.renC, SV.renB, SV.renA, ren_ints, ren_strs, ren_pl, ren_svs, SV.v.injEq, Value.int.injEq, Body.ints.injEq, SV.ptr.injEq, SV.sl.injEq, Value.string.injEq, Value.bool.injEq, List.map_cons, List.map_nil, forall_const, Nat.reduceLT, Nat.lt_add_one, imp_self, true_and, and_true, and_self, ob_some, get_mk, lk_cons, ↓reduceIte, Nat.reduceEqDiff, ne_eq, not_true_eq_false, not_false_eq_true, Nat.one_ne_zero, Nat.zero_ne_one, Nat.succ_ne_self, Nat.reduceAdd, Bool.false_eq_true, false_implies, implies_true, reduceCtorEq, h0, List.nil_append]
  · simp -implicitDefEqProofs only [go_sem, c, w1, s1]
    refine loop_fam (fun (c : Nat) => c ≤ k) (fun c => ⟨[(0, .ptr 1 0), (1, .v (.int .i64 y)), (2, .v (.int .i64 ((c : Int) - 1)))], ⟨[(1, some ⟨true, .sv [.sl 2 0 (bs ++ (be y k).take (k - c)).length 1, .v (.bool bad)]⟩), (2, some ⟨true, .ints .u8 (bs ++ (be y k).take (k - c))⟩)], x⟩, 3⟩) (fun c => c) k (Nat.le_refl _) ?_ ?_
    · subst h0
      refine sub_mk [(2, 0)] rfl rfl rfl ?_
      simp only [tmSub, hpSub, objSub, eqTm, eqHp, rn, lk, SV.ren, SV.renC, SV.renB, SV.renA, ren_ints, ren_strs, ren_pl, ren_svs, SV.v.injEq, Value.int.injEq, Body.ints.injEq, SV.ptr.injEq, SV.sl.injEq, Value.string.injEq, Value.bool.injEq, List.map_cons, List.map_nil, forall_const, Nat.reduceLT, Nat.lt_add_one, imp_self, true_and, and_true, and_self, ob_some, get_mk, lk_cons, ↓reduceIte, Nat.reduceEqDiff, ne_eq, not_true_eq_false, not_false_eq_true, Nat.one_ne_zero, Nat.zero_ne_one, Nat.succ_ne_self, Nat.reduceAdd, Bool.false_eq_true, false_implies, implies_true, reduceCtorEq, w2, Nat.sub_self, List.take_zero, List.append_nil, List.length_nil]
      rfl
    · intro c hc
      simp -implicitDefEqProofs only [go_sem]
      refine condK_bb (fun d => ?_) (fun d => ?_)
      · have d1 : 1 ≤ c := by have := of_decide_eq_true d; omega
        have w3 : IntKind.i64.wrap (8 * ((c : Int) - 1)) = ((8 * (c - 1) : Nat) : Int) := by rw [wrap_i64 (by omega) (by omega)]; omega
        have s2 : ishr .i64 (y : Int) ((8 * (c - 1) : Nat) : Int) = ((y / 256 ^ (c - 1) : Nat) : Int) := by rw [ishr_i (by omega), pow256]
        have w4 : IntKind.u8.wrap ((y / 256 ^ (c - 1) : Nat) : Int) = ((y / 256 ^ (c - 1) % 256 : Nat) : Int) := by rw [wrap_u8]; omega
        have w5 : IntKind.i64.wrap ((c : Int) - 1 - 1) = ((c - 1 : Nat) : Int) - 1 := by rw [wrap_i64 (by omega) (by omega)]; omega
        have ht : bs ++ (be y k).take (k - (c - 1)) = (bs ++ (be y k).take (k - c)) ++ [((y / 256 ^ (c - 1) % 256 : Nat) : Int)] := by
          rw [show k - (c - 1) = (k - c) + 1 by omega, List.take_add_one, be_get (by omega), show k - 1 - (k - c) = c - 1 by omega, List.append_assoc]; rfl
        have hlen : (bs ++ (be y k).take (k - c)).length ≤ 1099511627784 := by rw [List.length_append, List.length_take]; omega
        generalize bs ++ (be y k).take (k - c) = cur at hlen ht
        simp -implicitDefEqProofs only [go_sem, d, w3, s2, w4, w5]
        refine ⟨by omega, by omega, by omega, ?_⟩
        refine kLoop_mk (c - 1) (by omega) (by omega) ?_
        refine sub_mk [(2, 4)] rfl rfl rfl ?_
        simp only [tmSub, hpSub, objSub, eqTm, eqHp, rn, lk, SV.ren, SV.renC, SV.renB, SV.renA, ren_ints, ren_strs, ren_pl, ren_svs, SV.v.injEq, Value.int.injEq, Body.ints.injEq, SV.ptr.injEq, SV.sl.injEq, Value.string.injEq, Value.bool.injEq, List.map_cons, List.map_nil, forall_const, Nat.reduceLT, Nat.lt_add_one, imp_self, true_and, and_true, and_self, ob_some, get_mk, lk_cons, ↓reduceIte, Nat.reduceEqDiff, ne_eq, not_true_eq_false, not_false_eq_true, Nat.one_ne_zero, Nat.zero_ne_one, Nat.succ_ne_self, Nat.reduceAdd, Bool.false_eq_true, false_implies, implies_true, reduceCtorEq, w5, ht, List.length_append, List.length_singleton]
      · have d1 : c = 0 := by have := of_decide_eq_false d; omega
        subst d1
        have ht : (be y k).take (k - 0) = be y k := List.take_of_length_le (by rw [be_len]; exact Nat.le_refl _)
        simp -implicitDefEqProofs only [go_sem, d, ht]
        refine sub_mk [] rfl rfl rfl ?_
        simp only [tmSub, hpSub, objSub, eqTm, eqHp, rn, lk, SV.ren, SV.renC, SV.renB, SV.renA, ren_ints, ren_strs, ren_pl, ren_svs, SV.v.injEq, Value.int.injEq, Body.ints.injEq, SV.ptr.injEq, SV.sl.injEq, Value.string.injEq, Value.bool.injEq, List.map_cons, List.map_nil, forall_const, Nat.reduceLT, Nat.lt_add_one, imp_self, true_and, and_true, and_self, ob_some, get_mk, lk_cons, ↓reduceIte, Nat.reduceEqDiff, ne_eq, not_true_eq_false, not_false_eq_true, Nat.one_ne_zero, Nat.zero_ne_one, Nat.succ_ne_self, Nat.reduceAdd, Bool.false_eq_true, false_implies, implies_true, reduceCtorEq, h0, List.nil_append]
theorem wBytesS {r l i : Nat} {bs : List Int} {bad : Bool} (hg : H.get i = some (wrO r l bad)) (hr : H.get r = some ⟨true, .ints .u8 bs⟩) (hr0 : r ≠ 0) (hl : l = bs.length) :
    SpecAt Tryz.prog nWBytes [.ptr i 0] H n (if bad then .tup [.v (.string ⟨#[]⟩), .v (.int .i64 1)] else .tup [.v (.string (tx bs)), .v (.int .i64 0)]) H n := okT.pure tWBytes (by
  unfold mWBytes
  unfold wrO at hg
  simp -implicitDefEqProofs only [↓fnVC, initTm]
  cases bad with
  | true =>
    simp -implicitDefEqProofs only [go_sem, hg]
  | false =>
    simp -implicitDefEqProofs only [go_sem, hg, hr, hl]
    rw [if_neg hr0]; trivial)
variable {H : Hp} {n : Nat} {x : Nat → Option SO}
theorem wNumS {i r y k : Nat} {bs : List Int} {bad : Bool} (hg : H.get i = some (wrO r bs.length bad)) (hr : H.get r = some ⟨true, .ints .u8 bs⟩) (hi : 0 < i ∧ i < 1000) (hr1 : 0 < r ∧ r < 1000) (hne : i ≠ r) (hn : n + 1 ≤ 1000)
    (hk : k ≤ 8) (hy : y < 9223372036854775808) (hf : k < 8 → y < 256 ^ k) (hb : bs.length ≤ 1099511627776) :
    SpecAt Tryz.prog nWNumber [.ptr i 0, .v (.int .i64 y), .v (.int .i64 k)] H n (.tup []) ⟨(i, some (wrO n (bs ++ be y k).length bad)) :: (r, none) :: (n, some ⟨true, .ints .u8 (bs ++ be y k)⟩) :: H.l, H.x⟩ (n + 1) := by
  have := lift (n := n) (okT.spec tWNumber (wNumW (x := H.x) hk hy hf hb)) [(1, i), (2, r)] rfl rfl rfl (by omega) rfl rfl
    ⟨sub_wr rfl hi.1 hi.2 hg rfl, sub_wr rfl hr1.1 hr1.2 hr rfl, trivial⟩ (by simp [apartB, apart1, rn, lk, hne, Ne.symm hne]) (by simp [wrNZ, rn, lk]; omega) (by omega)
  exact this
theorem wNum0S {i y k : Nat} {bad : Bool} (hg : H.get i = some ⟨true, .sv [.sl 0 0 0 1, .v (.bool bad)]⟩) (hi : 0 < i ∧ i < 1000) (hn : n + 1 ≤ 1000)
    (hk : k ≤ 8) (hy : y < 9223372036854775808) (hf : k < 8 → y < 256 ^ k) :
    SpecAt Tryz.prog nWNumber [.ptr i 0, .v (.int .i64 y), .v (.int .i64 k)] H n (.tup []) ⟨(i, some (wrO n (be y k).length bad)) :: (n, some ⟨true, .ints .u8 (be y k)⟩) :: H.l, H.x⟩ (n + 1) := by
  have := lift (n := n) (okT.spec tWNumber (wNum0W (x := H.x) (bs := []) hk hy hf (by decide) rfl)) [(1, i)] rfl rfl rfl (by omega) rfl rfl
    ⟨sub_wr rfl hi.1 hi.2 hg rfl, trivial⟩ (by simp [apartB, apart1, rn, lk]) (by simp [wrNZ, rn, lk]; omega) (by omega)
  exact this
theorem be_bytes {y k : Nat} : ∀ b ∈ be y k, 0 ≤ b ∧ b ≤ 255 := by
  intro b hb
  obtain ⟨j, _, rfl⟩ := List.mem_map.1 hb
  omega
theorem ishl_one {k : Nat} (hk : k < 8) : ishl .i64 1 ((8 * k : Nat) : Int) = ((256 ^ k : Nat) : Int) := by
  unfold ishl
  have hm : min ((8 * k : Nat) : Int).toNat IntKind.i64.bits = 8 * k := by show min ((8 * k : Nat) : Int).toNat 64 = _; omega
  have hp : 256 ^ k ≤ 256 ^ 7 := Nat.pow_le_pow_right (by decide) (by omega)
  have h7 : (256 : Nat) ^ 7 = 72057594037927936 := by decide
  have hc : (1 : Int) * 2 ^ (8 * k) = ((256 ^ k : Nat) : Int) := by rw [← pow256, Int.one_mul, Int.natCast_pow]; rfl
  rw [hm, hc]
  generalize 256 ^ k = q at hp
  rw [wrap_i64 (by omega) (by omega)]
variable {H : Hp} {n : Nat} {x : Nat → Option SO}
variable {H : Hp} {n : Nat} {x : Nat → Option SO}
def rdO (s : ByteArray) (e : Int) : SO := ⟨true, .sv [.v (.string s), .v (.int .i64 e)]⟩
theorem readW {s : ByteArray} : fnVC CT mPRead [.v (.string s)] ⟨[], x⟩ 1 fun v H' n' => Sub 1 ⟨[(0, .ptr 1 0)], ⟨[(1, some (rdO s 0))], x⟩, 2⟩ ⟨[(0, v)], H', n'⟩ := by
  unfold mPRead rdO
  simp -implicitDefEqProofs only [↓fnVC, initTm]
  simp -implicitDefEqProofs only [go_sem]
  refine sub_mk [] rfl rfl rfl ?_
  simp only [tmSub, hpSub, objSub, eqTm, eqHp, rn, lk, SV.ren, SV.renC, SV.renB, SV.renA, ren_ints, ren_strs, ren_pl, ren_svs, SV.v.injEq, Value.int.injEq, Body.ints.injEq, SV.ptr.injEq, SV.sl.injEq, Value.string.injEq, Value.bool.injEq, List.map_cons, List.map_nil, forall_const, Nat.reduceLT, Nat.lt_add_one, imp_self, true_and, and_true, and_self, ob_some, get_mk, lk_cons, ↓reduceIte, Nat.reduceEqDiff, ne_eq, not_true_eq_false, not_false_eq_true, Nat.one_ne_zero, Nat.zero_ne_one, Nat.succ_ne_self, Nat.reduceAdd, Bool.false_eq_true, false_implies, implies_true, reduceCtorEq]
  rfl
theorem errS {s : ByteArray} {e : Int} {i : Nat} (hg : H.get i = some (rdO s e)) : SpecAt Tryz.prog nRErr [.ptr i 0] H n (.v (.int .i64 e)) H n := okT.pure tRErr (by
  unfold mRErr
  unfold rdO at hg
  simp -implicitDefEqProofs only [↓fnVC, initTm]
  simp -implicitDefEqProofs only [go_sem, hg])
def rawE (s : ByteArray) (e : Int) (k : Nat) : Int := if e ≠ 0 then e else if s.size < k then 2 else 0
def rawS (s : ByteArray) (e : Int) (k : Nat) : ByteArray := if e ≠ 0 ∨ s.size < k then s else s.extract k s.size
def rawT (s : ByteArray) (e : Int) (k : Nat) : ByteArray := if e ≠ 0 ∨ s.size < k then ⟨#[]⟩ else s.extract 0 k
theorem rawW {s : ByteArray} {e : Int} {k : Nat} (hk : k ≤ 1048576) : fnVC CT mRRaw [.ptr 1 0, .v (.int .i64 k)] ⟨[(1, some (rdO s e))], x⟩ 2 fun v H' n' => Sub 2 ⟨[(0, .v (.string (rawT s e k)))], ⟨[(1, some (rdO (rawS s e k) (rawE s e k)))], x⟩, 2⟩ ⟨[(0, v)], H', n'⟩ := by
  unfold mRRaw
  have g1 : decide ((k : Int) < 0) = false := decide_eq_false (by omega)
  simp -implicitDefEqProofs only [↓fnVC, initTm]
  simp -implicitDefEqProofs only [go_sem]
  refine at_call tRErr (errS (i := 1) (by rfl)) ?_
  by_cases he : e = 0
  · subst he
    have g0 : decide ((0 : Int) = 0) = true := rfl
    by_cases hs : s.size < k
    · have g2 : decide ((k : Int) > (s.size : Int)) = true := decide_eq_true (by omega)
      have r1 : rawT s 0 k = ⟨#[]⟩ := by unfold rawT; rw [if_pos (.inr hs)]
      have r2 : rawS s 0 k = s := by unfold rawS; rw [if_pos (.inr hs)]
      have r3 : rawE s 0 k = 2 := by unfold rawE; rw [if_neg (by simp), if_pos hs]
      simp -implicitDefEqProofs only [go_sem, g0, g1, g2, rdO]
      rw [r1, r2, r3]
      refine sub_mk [] rfl rfl rfl ?_
      simp only [tmSub, hpSub, objSub, eqTm, eqHp, rn, lk, SV.ren, SV.renC, SV.renB, SV.renA, ren_ints, ren_strs, ren_pl, ren_svs, SV.v.injEq, Value.int.injEq, Body.ints.injEq, SV.ptr.injEq, SV.sl.injEq, Value.string.injEq, Value.bool.injEq, List.map_cons, List.map_nil, forall_const, Nat.reduceLT, Nat.lt_add_one, imp_self, true_and, and_true, and_self, ob_some, get_mk, lk_cons, ↓reduceIte, Nat.reduceEqDiff, ne_eq, not_true_eq_false, not_false_eq_true, Nat.one_ne_zero, Nat.zero_ne_one, Nat.succ_ne_self, Nat.reduceAdd, Bool.false_eq_true, false_implies, implies_true, reduceCtorEq]
    · have g2 : decide ((k : Int) > (s.size : Int)) = false := decide_eq_false (by omega)
      have r1 : rawT s 0 k = s.extract 0 k := by unfold rawT; rw [if_neg (by simp; omega)]
      have r2 : rawS s 0 k = s.extract k s.size := by unfold rawS; rw [if_neg (by simp; omega)]
      have r3 : rawE s 0 k = 0 := by unfold rawE; rw [if_neg (by simp), if_neg hs]
      simp -implicitDefEqProofs only [go_sem, g0, g1, g2, rdO]
      rw [r1, r2, r3]
      refine ⟨⟨by omega, by omega⟩, ⟨by omega, by omega, by omega⟩, ?_⟩
      refine sub_mk [] rfl rfl rfl ?_
      simp only [tmSub, hpSub, objSub, eqTm, eqHp, rn, lk, SV.ren, SV.renC, SV.renB, SV.renA, ren_ints, ren_strs, ren_pl, ren_svs, SV.v.injEq, Value.int.injEq, Body.ints.injEq, SV.ptr.injEq, SV.sl.injEq, Value.string.injEq, Value.bool.injEq, List.map_cons, List.map_nil, forall_const, Nat.reduceLT, Nat.lt_add_one, imp_self, true_and, and_true, and_self, ob_some, get_mk, lk_cons, ↓reduceIte, Nat.reduceEqDiff, ne_eq, not_true_eq_false, not_false_eq_true, Nat.one_ne_zero, Nat.zero_ne_one, Nat.succ_ne_self, Nat.reduceAdd, Bool.false_eq_true, false_implies, implies_true, reduceCtorEq]
  · have g0 : decide (e = 0) = false := decide_eq_false he
    have r1 : rawT s e k = ⟨#[]⟩ := by unfold rawT; rw [if_pos (.inl he)]
    have r2 : rawS s e k = s := by unfold rawS; rw [if_pos (.inl he)]
    have r3 : rawE s e k = e := by unfold rawE; rw [if_pos he]
    simp -implicitDefEqProofs only [go_sem, g0, rdO]
    rw [r1, r2, r3]
    refine sub_mk [] rfl rfl rfl ?_
    simp only [tmSub, hpSub, objSub, eqTm, eqHp, rn, lk, SV.ren, SV.renC, SV.renB, SV.renA, ren_ints, ren_strs, ren_pl, ren_svs, SV.v.injEq, Value.int.injEq, Body.ints.injEq, SV.ptr.injEq, SV.sl.injEq, Value.string.injEq, Value.bool.injEq, List.map_cons, List.map_nil, forall_const, Nat.reduceLT, Nat.lt_add_one, imp_self, true_and, and_true, and_self, ob_some, get_mk, lk_cons, ↓reduceIte, Nat.reduceEqDiff, ne_eq, not_true_eq_false, not_false_eq_true, Nat.one_ne_zero, Nat.zero_ne_one, Nat.succ_ne_self, Nat.reduceAdd, Bool.false_eq_true, false_implies, implies_true, reduceCtorEq]
theorem rawSp {s : ByteArray} {e : Int} {k i : Nat} (hg : H.get i = some (rdO s e)) (hi : 0 < i ∧ i < 1000) (hk : k ≤ 1048576) :
    SpecAt Tryz.prog nRRaw [.ptr i 0, .v (.int .i64 k)] H n (.v (.string (rawT s e k))) ⟨(i, some (rdO (rawS s e k) (rawE s e k))) :: H.l, H.x⟩ n := by
  have := lift (n := n) (okT.spec tRRaw (rawW (x := H.x) (s := s) (e := e) hk)) [(1, i)] rfl rfl rfl (by omega) rfl rfl
    ⟨sub_wr rfl hi.1 hi.2 hg rfl, trivial⟩ (by simp [apartB, apart1, rn, lk]) (by simp [wrNZ, rn, lk]; omega) (by omega)
  exact this
def failE (e f : Int) : Int := if e = 0 then f else e
variable {H : Hp} {n : Nat} {x : Nat → Option SO}
def nbs (t : ByteArray) : List Nat := t.data.toList.map (·.toNat)
def nvl (l : List Nat) : Nat := l.foldl (fun a b => a * 256 + b) 0
def num (t : ByteArray) : Nat := nvl (nbs t)
theorem nbs_len {t : ByteArray} : (nbs t).length = t.size := by unfold nbs; rw [List.length_map]; rfl
theorem nbs_lt {t : ByteArray} : ∀ b ∈ nbs t, b < 256 := by
  intro b hb
  obtain ⟨c, _, rfl⟩ := List.mem_map.1 hb
  exact c.toNat_lt
theorem nvl_snoc {l : List Nat} {b : Nat} : nvl (l ++ [b]) = nvl l * 256 + b := by simp [nvl, List.foldl_append]
theorem bts_nbs {t : ByteArray} : bts t = (nbs t).map (fun b : Nat => (b : Int)) := by unfold bts nbs; rw [List.map_map]; rfl
theorem nvl_bound {l : List Nat} (h : ∀ b ∈ l, b < 256) : ∀ {j}, j ≤ l.length → nvl (l.take j) < 256 ^ j
  | 0, _ => by simp [nvl]
  | j + 1, hj => by
    have ih := nvl_bound h (j := j) (by omega)
    have hb := h (l[j]'(by omega)) (List.getElem_mem _)
    rw [List.take_succ_eq_append_getElem (by omega), nvl_snoc, Nat.pow_succ]; omega
theorem nvl_small {l : List Nat} (h : ∀ b ∈ l, b < 256) (h0 : l.getD 0 0 < 128) : ∀ {j}, j ≤ l.length → 1 ≤ j → nvl (l.take j) < 128 * 256 ^ (j - 1)
  | 1, hj, _ => by
    match l, hj, h0 with
    | b :: r, _, h0 => simpa [nvl] using h0
  | j + 2, hj, _ => by
    have ih := nvl_small h h0 (j := j + 1) (by omega) (by omega)
    have hb := h (l[j + 1]'(by omega)) (List.getElem_mem _)
    rw [List.take_succ_eq_append_getElem (by omega), nvl_snoc, show j + 2 - 1 = (j + 1 - 1) + 1 by omega, Nat.pow_succ]
    have : j + 1 - 1 = j := by omega
    rw [this] at ih ⊢
    omega
theorem ior_byte {a b : Nat} (ha : a < 36028797018963968) (hb : b < 256) : ior .i64 ((a * 256 : Nat) : Int) (b : Int) = ((a * 256 + b : Nat) : Int) := by
  show IntKind.i64.wrap ((BitVec.ofInt 64 ((a * 256 : Nat) : Int) ||| BitVec.ofInt 64 (b : Int)).toNat : Nat) = _
  have e : (BitVec.ofInt 64 ((a * 256 : Nat) : Int) ||| BitVec.ofInt 64 (b : Int)).toNat = a * 256 + b := by
    rw [BitVec.ofInt_natCast, BitVec.ofInt_natCast, BitVec.toNat_or, BitVec.toNat_ofNat, BitVec.toNat_ofNat, Nat.mod_eq_of_lt (by omega), Nat.mod_eq_of_lt (by omega)]
    have := Nat.shiftLeft_add_eq_or_of_lt (i := 8) (b := b) (by omega) a
    rw [Nat.shiftLeft_eq, show 2 ^ 8 = 256 from rfl] at this
    omega
  rw [e, wrap_i64 (by omega) (by omega)]
theorem ishl_8 {a : Nat} (ha : a < 36028797018963968) : ishl .i64 (a : Int) 8 = ((a * 256 : Nat) : Int) := by
  unfold ishl
  have hm : min (8 : Int).toNat IntKind.i64.bits = 8 := by decide
  rw [hm, show (2 : Int) ^ 8 = 256 from rfl, wrap_i64 (by omega) (by omega)]; omega
def numOK (t : ByteArray) : Prop := t.size ≤ 7 ∨ (t.size = 8 ∧ (nbs t).getD 0 0 < 128)
theorem numOK.lt {t : ByteArray} (h : numOK t) {j : Nat} (hj : j < t.size) : nvl ((nbs t).take j) < 36028797018963968 := by
  rcases h with h | ⟨h, h0⟩
  · have := nvl_bound (l := nbs t) nbs_lt (j := j) (by rw [nbs_len]; omega)
    have h6 : 256 ^ j ≤ 256 ^ 6 := Nat.pow_le_pow_right (by decide) (by omega)
    have : (256 : Nat) ^ 6 = 281474976710656 := by decide
    omega
  · by_cases hj0 : j = 0
    · subst hj0; simp [nvl]
    · have := nvl_small (l := nbs t) nbs_lt h0 (j := j) (by rw [nbs_len]; omega) (by omega)
      have h6 : 256 ^ (j - 1) ≤ 256 ^ 6 := Nat.pow_le_pow_right (by decide) (by omega)
      have : (256 : Nat) ^ 6 = 281474976710656 := by decide
      omega
theorem bts_getD {t : ByteArray} {j : Nat} (hj : j < t.size) : (bts t).getD j 0 = (((nbs t).getD j 0 : Nat) : Int) := by
  have hl := nbs_len (t := t)
  rw [bts_nbs, List.getD_eq_getElem?_getD, List.getElem?_map, List.getD_eq_getElem?_getD, List.getElem?_eq_getElem (by omega)]; rfl
theorem num_step {t : ByteArray} {j : Nat} (hj : j < t.size) : nvl ((nbs t).take (j + 1)) = nvl ((nbs t).take j) * 256 + (nbs t).getD j 0 := by
  have hl := nbs_len (t := t)
  rw [List.take_succ_eq_append_getElem (by omega), nvl_snoc, List.getD_eq_getElem?_getD, List.getElem?_eq_getElem (by omega)]; rfl
theorem nbs_get_lt {t : ByteArray} {j : Nat} (hj : j < t.size) : (nbs t).getD j 0 < 256 := by
  have hl := nbs_len (t := t)
  rw [List.getD_eq_getElem?_getD, List.getElem?_eq_getElem (by omega)]; exact nbs_lt _ (List.getElem_mem _)
theorem numW {s : ByteArray} {e : Int} {k : Nat} (hk : k ≤ 8) (hok : numOK (rawT s e k)) : fnVC CT mRNumber [.ptr 1 0, .v (.int .i64 k)] ⟨[(1, some (rdO s e))], x⟩ 2 fun v H' n' => Sub 2 ⟨[(0, .v (.int .i64 (num (rawT s e k) : Nat)))], ⟨[(1, some (rdO (rawS s e k) (rawE s e k)))], x⟩, 2⟩ ⟨[(0, v)], H', n'⟩ := by
  unfold mRNumber
  simp -implicitDefEqProofs only [↓fnVC, initTm]
  simp -implicitDefEqProofs only [go_sem]
  refine at_call tRRaw (rawSp (i := 1) (k := k) (by rfl) (by decide) (by omega)) ?_
  generalize hT : rawT s e k = T at hok ⊢
  have hsz : T.size ≤ 8 := by rcases hok with h | h <;> omega
  simp -implicitDefEqProofs only [go_sem]
  refine ⟨by omega, ?_⟩
  refine loop_fam (fun (j : Nat) => j ≤ T.size) (fun j => ⟨[(5, .v (.int .i64 (nvl ((nbs T).take j) : Nat))), (11, .sl 2 0 T.size 1), (12, .v (.int .i64 (T.size : Nat))), (13, .v (.int .i64 j))], ⟨[(1, some (rdO (rawS s e k) (rawE s e k))), (2, some ⟨true, .ints .u8 (bts T)⟩)], x⟩, 3⟩) (fun j => T.size - j) 0 (Nat.zero_le _) ?_ ?_
  · refine sub_mk [] rfl rfl rfl ?_
    simp only [tmSub, hpSub, objSub, eqTm, eqHp, rn, lk, SV.ren, SV.renC, SV.renB, SV.renA, ren_ints, ren_strs, ren_pl, ren_svs, SV.v.injEq, Value.int.injEq, Body.ints.injEq, SV.ptr.injEq, SV.sl.injEq, Value.string.injEq, Value.bool.injEq, List.map_cons, List.map_nil, forall_const, Nat.reduceLT, Nat.lt_add_one, imp_self, true_and, and_true, and_self, ob_some, get_mk, lk_cons, ↓reduceIte, Nat.reduceEqDiff, ne_eq, not_true_eq_false, not_false_eq_true, Nat.one_ne_zero, Nat.zero_ne_one, Nat.succ_ne_self, Nat.reduceAdd, Bool.false_eq_true, false_implies, implies_true, reduceCtorEq]
    exact ⟨⟨rfl, rfl⟩, rfl⟩
  · intro j hj
    simp -implicitDefEqProofs only [go_sem]
    refine condK_bb (fun c => ?_) (fun c => ?_)
    · have c1 : j < T.size := by have := of_decide_eq_true c; omega
      have hb := bts_getD c1
      have hlt := nbs_get_lt c1
      have hv := hok.lt c1
      have w1 := ishl_8 hv
      have w2 : IntKind.i64.wrap (((nbs T).getD j 0 : Nat) : Int) = (((nbs T).getD j 0 : Nat) : Int) := wrap_i64 (by omega) (by omega)
      have w3 := ior_byte hv hlt
      have w4 : IntKind.i64.wrap ((j : Int) + 1) = ((j + 1 : Nat) : Int) := by rw [wrap_i64 (by omega) (by omega)]; omega
      have hs := num_step c1
      simp -implicitDefEqProofs only [go_sem, c, hb, w1, w2, w3, w4]
      refine ⟨⟨by omega, by omega⟩, by rw [bts_len]; exact c1, ?_⟩
      refine kLoop_mk (j + 1) (by omega) (by omega) ?_
      refine sub_mk [] rfl rfl rfl ?_
      simp only [tmSub, hpSub, objSub, eqTm, eqHp, rn, lk, SV.ren, SV.renC, SV.renB, SV.renA, ren_ints, ren_strs, ren_pl, ren_svs, SV.v.injEq, Value.int.injEq, Body.ints.injEq, SV.ptr.injEq, SV.sl.injEq, Value.string.injEq, Value.bool.injEq, List.map_cons, List.map_nil, forall_const, Nat.reduceLT, Nat.lt_add_one, imp_self, true_and, and_true, and_self, ob_some, get_mk, lk_cons, ↓reduceIte, Nat.reduceEqDiff, ne_eq, not_true_eq_false, not_false_eq_true, Nat.one_ne_zero, Nat.zero_ne_one, Nat.succ_ne_self, Nat.reduceAdd, Bool.false_eq_true, false_implies, implies_true, reduceCtorEq, w4, hs]
      rfl
    · have c1 : j = T.size := by have := of_decide_eq_false c; omega
      subst c1
      have hn : nvl ((nbs T).take T.size) = num T := by unfold num; rw [List.take_of_length_le (by rw [nbs_len]; exact Nat.le_refl _)]
      simp -implicitDefEqProofs only [go_sem, c]
      rw [hn]
      refine sub_mk [] rfl rfl rfl ?_
      simp only [tmSub, hpSub, objSub, eqTm, eqHp, rn, lk, SV.ren, SV.renC, SV.renB, SV.renA, ren_ints, ren_strs, ren_pl, ren_svs, SV.v.injEq, Value.int.injEq, Body.ints.injEq, SV.ptr.injEq, SV.sl.injEq, Value.string.injEq, Value.bool.injEq, List.map_cons, List.map_nil, forall_const, Nat.reduceLT, Nat.lt_add_one, imp_self, true_and, and_true, and_self, ob_some, get_mk, lk_cons, ↓reduceIte, Nat.reduceEqDiff, ne_eq, not_true_eq_false, not_false_eq_true, Nat.one_ne_zero, Nat.zero_ne_one, Nat.succ_ne_self, Nat.reduceAdd, Bool.false_eq_true, false_implies, implies_true, reduceCtorEq]
      rfl
theorem numSp {s : ByteArray} {e : Int} {k i : Nat} (hg : H.get i = some (rdO s e)) (hi : 0 < i ∧ i < 1000) (hk : k ≤ 8) (hok : numOK (rawT s e k)) :
    SpecAt Tryz.prog nRNumber [.ptr i 0, .v (.int .i64 k)] H n (.v (.int .i64 (num (rawT s e k) : Nat))) ⟨(i, some (rdO (rawS s e k) (rawE s e k))) :: H.l, H.x⟩ n := by
  have := lift (n := n) (okT.spec tRNumber (numW (x := H.x) (s := s) (e := e) hk hok)) [(1, i)] rfl rfl rfl (by omega) rfl rfl
    ⟨sub_wr rfl hi.1 hi.2 hg rfl, trivial⟩ (by simp [apartB, apart1, rn, lk]) (by simp [wrNZ, rn, lk]; omega) (by omega)
  exact this
def preE (s : ByteArray) (e : Int) : Int := if e = 0 ∧ 8 ≤ s.size ∧ 128 ≤ (nbs s).getD 0 0 then 3 else e
end
end Go.Sx
/- Trees, at this program. -/
set_option linter.unusedVariables false
set_option linter.unusedSimpArgs false
set_option maxRecDepth 100000
namespace Go.Sx
open Go.Proofs
variable {H : Hp} {n : Nat} {x : Nat → Option SO}
theorem seq_ne {a b : ByteArray} (h : a ≠ b) : seq a b = false := by
  unfold seq
  rw [ByteArray.toList_eq, ByteArray.toList_eq, beq_eq_false_iff_ne]
  intro e
  obtain ⟨⟨p⟩⟩ := a
  obtain ⟨⟨q⟩⟩ := b
  simp at e
  subst e
  exact h rfl
variable {H : Hp} {n : Nat} {x : Nat → Option SO}
theorem tx_bts (s : ByteArray) : tx (bts s) = s := by
  obtain ⟨⟨l⟩⟩ := s
  simp [tx, bts, Function.comp_def]
theorem bts_ext (s : ByteArray) (a b : Nat) : bts (s.extract a b) = ((bts s).drop a).take (b - a) := by
  simp [bts, ByteArray.data_extract, List.extract_eq_take_drop, List.map_take, List.map_drop]
variable {H : Hp} {n : Nat} {x : Nat → Option SO}
theorem tx_app (l m : List Int) : tx (l ++ m) = tx l ++ tx m := by
  unfold tx
  rw [List.map_append]
  apply ByteArray.ext
  simp
variable {H : Hp} {n : Nat} {x : Nat → Option SO}
theorem rawT_size {s : ByteArray} {e : Int} {k : Nat} : (rawT s e k).size ≤ k := by
  unfold rawT
  split
  · exact Nat.zero_le _
  · rw [ByteArray.size_extract]; omega
theorem ext_ext {s : ByteArray} {k a b : Nat} (h : k + b ≤ s.size) : (s.extract k s.size).extract a b = s.extract (k + a) (k + b) := by
  have hb : ∀ {p q : ByteArray}, p.data = q.data → p = q := fun h => ByteArray.ext h
  apply hb
  simp only [ByteArray.data_extract, Array.extract_extract]
  congr 1
  omega
theorem rd_at {s : ByteArray} {k w : Nat} (h : k + w ≤ s.size) : rawS (s.extract k s.size) 0 w = s.extract (k + w) s.size ∧ rawE (s.extract k s.size) 0 w = 0 ∧ rawT (s.extract k s.size) 0 w = s.extract k (k + w) := by
  have hz : (s.extract k s.size).size = s.size - k := by rw [ByteArray.size_extract]; omega
  refine ⟨?_, ?_, ?_⟩
  · unfold rawS; rw [if_neg (by omega), hz, ext_ext (by omega)]; congr 1; omega
  · unfold rawE; rw [if_neg (by omega), if_neg (by omega)]
  · unfold rawT; rw [if_neg (by omega), ext_ext h]; rfl
theorem ext_all (s : ByteArray) : s.extract 0 s.size = s := by
  apply ByteArray.ext
  simp
theorem preadS {s : ByteArray} (hn : n + 1 ≤ 1000) : SpecAt Tryz.prog nPRead [.v (.string s)] H n (.ptr n 0) ⟨(n, some (rdO s 0)) :: H.l, H.x⟩ (n + 1) := by
  have := lift (n := n) (okT.spec tPRead (readW (x := H.x) (s := s))) [] rfl rfl rfl (by omega) rfl rfl trivial rfl rfl (by omega)
  exact this
variable {H : Hp} {n : Nat} {x : Nat → Option SO}
theorem bts_inj {s t : ByteArray} (h : bts s = bts t) : s = t := by
  have e : s.data.toList = t.data.toList := by
    unfold bts at h
    refine List.map_inj_right (f := fun b : UInt8 => (b.toNat : Int)) (fun a b hab => ?_) |>.1 h
    have : a.toNat = b.toNat := by exact_mod_cast hab
    exact UInt8.toNat_inj.1 this
  cases s; cases t
  congr 1
  exact Array.toList_inj.1 e
theorem nbs_of_bts {t : ByteArray} {l : List Nat} (h : bts t = l.map (fun b : Nat => (b : Int))) : nbs t = l := by
  have h2 := bts_nbs (t := t)
  rw [h] at h2
  exact (List.map_inj_right (f := fun b : Nat => (b : Int)) (fun a b hab => by exact_mod_cast hab)).1 h2.symm
def beN (y k : Nat) : List Nat := (List.range k).map fun j => y / 256 ^ (k - 1 - j) % 256
theorem be_beN {y k : Nat} : be y k = (beN y k).map fun b : Nat => (b : Int) := by unfold be beN; rw [List.map_map]; rfl
theorem beN_get {y k j : Nat} (h : j < k) : (beN y k)[j]? = some (y / 256 ^ (k - 1 - j) % 256) := by
  unfold beN; rw [List.getElem?_map, List.getElem?_range h]; rfl
theorem beN_len {y k : Nat} : (beN y k).length = k := by simp [beN]
theorem nvl_be {y k : Nat} (hy : y < 256 ^ k) : ∀ {j}, j ≤ k → nvl ((beN y k).take j) = y / 256 ^ (k - j)
  | 0, _ => by simp [nvl, Nat.div_eq_of_lt hy]
  | j + 1, h => by
    have hg := beN_get (y := y) (k := k) (j := j) (by omega)
    rw [List.take_add_one, hg]
    show nvl ((beN y k).take j ++ [_]) = _
    rw [nvl_snoc, nvl_be hy (j := j) (by omega), show k - j = (k - 1 - j) + 1 by omega, Nat.pow_succ, ← Nat.div_div_eq_div_mul, show k - (j + 1) = k - 1 - j by omega]
    omega
theorem num_be {t : ByteArray} {y k : Nat} (h : bts t = be y k) (hy : y < 256 ^ k) : num t = y := by
  have e : nbs t = beN y k := nbs_of_bts (by rw [h, be_beN])
  unfold num
  rw [e]
  have := nvl_be hy (j := k) (Nat.le_refl _)
  rw [List.take_of_length_le (by rw [beN_len]; exact Nat.le_refl _), Nat.sub_self, Nat.pow_zero, Nat.div_one] at this
  exact this
end Go.Sx

/- Trees, at this program. -/
set_option linter.unusedVariables false
set_option linter.unusedSimpArgs false
set_option maxRecDepth 100000
namespace Go.Sx
attribute [local go_sem ↓] bind_mk intsB_mk strsB_mk svB_mk fnVC ob_some vc_skip vc_exit vc_ret vc_seq vc_block kSeq_normal kSeq_exit kSeq_ret kBlock_normal kBlock_exit kBlock_ret vc_reg vc_regD vc_cond condK_true condK_false vc_loop kLoop_exit kLoop_ret kRoll_normal kRoll_exit kRoll_ret vcOps_nil vcOps_cons gd_bool gd_undef put_some put_none vcT_fin vcT_pure vcT_act vcT_acts vcT_stop stab_none stab_some stabM_nil stabM_cons stabO_ld stabO_ldn stabO_slP stabO_b2s fldOf_ai fldOf_agg fldOf_ait fldOf_aggt intsOf_nil intsOf_cons strsOf_nil strsOf_cons c_omap ob_if lk_nil lk_cons ev_t ev_k z_mov z_pick z_bin z_binB z_binP z_un z_r2s z_conv z_s2b z_b2s z_mkM z_luM z_upM z_lenM lenMk_mp lenMk_nil plsOf_v z_delM asM_so plV_v plV_agg mpOf_mp mpOf_nil mpUp_mp asM_mp luV_ok luV_v z_allocT aggOf_mk z_boxT z_alloc z_bld z_bldI z_rowI z_rowS z_ld z_ldn z_st z_stn asN_ptr asN_fn z_nilck z_fld z_fadr z_idxA z_idxP z_idxS z_idxV z_slS z_slL z_slP z_mk z_lenS z_lenL z_app appC_ints appC_pl appC_sv appC_strs isS_strs loose_ints loose_pl loose_sv z_slM z_callv callvK_fn callvK_f callvK_yl vc_rangeF rfEnd_eq rfGo_none rfGo_ret rfGo_exit yGo_mk yEnd_n yEnd_r yEnd_e yRdy_mk yMid_n putPs_nil putPs_cons leaf_v leaf_ptr leaf_sl leaf_yl leaf_mp z_appS z_appST z_appZ z_cpyS z_mkfn reps_int reps_str z_rowV z_slnil nilK_zero z_cpy z_call asT_tup z_extT z_box boxOf_ai boxOf_agg boxOf_int boxOf_str boxOf_bool boxOf_ptr boxOf_sl sbin_int sbin_str sbinB_mk sbinP_nn sbinP_pn sbinP_np i_add i_sub i_mul i_quo i_rem i_and i_or i_xor i_andNot i_shl i_shr i_eql i_neq i_lss i_leq i_gtr i_geq st_add st_eql st_neq st_lss st_leq st_gtr st_geq bo_eql bo_neq pt_eql pt_neq un_neg un_xor un_not asI_mk asB_mk asS_mk asP_mk asSl_mk asBy_mk bnd_none bnd_some get_mk hput_mk hdel_mk kill_eq wrOf_eq rowOf_eq rsvs_0 rsvs_1 rsvs_2 rsvs_3 rsv_t rsv_c1 rsv_cn nt_v nt_ptr nt_sl nt_agg nt_ai get_ints get_strs get_pl get_sv getN_ints getN_sv set_ints set_strs set_sv setN_ints setN_sv part_ints part_strs part_sv cat_ints cat_strs cat_sv over_ints over_strs over_sv ones_ints ones_strs evs_nil evs_cons condK_eqt condK_eqf det_callP V_ns V_nn V_gs V_gn obC_mk fresh_ev freshT_ev freshR_ev setN_plagg setN_intsv setN_svai setN_svagg over_intsv set_pl setN_pl setN_plai getN_pl getN_strs part_pl cat_pl over_pl over_plints z_mm
attribute [local go_sem] initTm ne_eq not_true_eq_false not_false_eq_true true_and and_true List.length_cons List.length_nil Int.toNat_natCast Nat.add_zero Nat.zero_add Nat.mul_one List.getElem?_cons_zero List.drop_zero List.take_length List.take_succ_cons List.take_zero List.take_nil List.drop_succ_cons Option.map_some Nat.le_refl implies_true List.getElem?_cons_succ decide_true decide_false Bool.not_true Bool.not_false beq_self_eq_true Nat.succ_ne_self Nat.one_ne_zero Nat.zero_ne_one vk_mk hk_mk nk_mk tok_eq plsOf_map intsOf_map bodyOf_pl bodyOf_ints bodyOf_strs bodyOf_sv part_aggv part_agg part_ai part_int part_str part_bool part_sl part_ptr part_nil numsOf_map u_int u_str u_bool u_pnil u_sl u_ptr u_oci u_ocs evq_nil evq_cons fillS_nil fillS_cons u_ocb ones_pl cells_sv cells_ints cells_strs cells_pl smms_nil smms_cons smm_min smm_max plsOf_nil List.nil_append List.all_cons List.all_nil Bool.and_self Bool.true_and Bool.and_true zws_len zw_len zi_len List.set_cons_zero List.set_cons_succ List.flatMap_cons List.flatMap_nil List.append_nil
attribute [local go_sem_proc] Nat.reduceEqDiff Nat.reduceAdd Nat.reduceMul Nat.reduceLT Nat.reduceLeDiff Nat.reduceSub Int.reduceToNat Int.reduceLE Int.reduceLT reduceCtorEq Int.reduceEq Int.reduceGT Int.reduceGE Int.reduceNeg
attribute [local go_sem_proc ↓] reduceIte
section
open Go.Proofs
variable {H : Hp} {n : Nat} {x : Nat → Option SO}
theorem rdKS {f : Nat} {m : MFn} (t : trFn Tryz.prog f = some m) {k : Nat} {s : ByteArray} {e : Int} {i : Nat} (hm : ∀ x, fnVC CT m [.ptr 1 0] ⟨[(1, some (rdO s e))], x⟩ 2 fun v H' n' => Sub 2 ⟨[(0, .v (.int .i64 (num (rawT s e k) : Nat)))], ⟨[(1, some (rdO (rawS s e k) (rawE s e k)))], x⟩, 2⟩ ⟨[(0, v)], H', n'⟩)
    (hg : H.get i = some (rdO s e)) (hi : 0 < i ∧ i < 1000) :
    SpecAt Tryz.prog f [.ptr i 0] H n (.v (.int .i64 (num (rawT s e k) : Nat))) ⟨(i, some (rdO (rawS s e k) (rawE s e k))) :: H.l, H.x⟩ n := by
  have := lift (n := n) (okT.spec t (hm H.x)) [(1, i)] rfl rfl rfl (by omega) rfl rfl
    ⟨sub_wr rfl hi.1 hi.2 hg rfl, trivial⟩ (by simp [apartB, apart1, rn, lk]) (by simp [wrNZ, rn, lk]; omega) (by omega)
  exact this
theorem numOK7 {s : ByteArray} {e : Int} {k : Nat} (h : k ≤ 7) : numOK (rawT s e k) := .inl (Nat.le_trans rawT_size h)
theorem fourS {s : ByteArray} {e : Int} {i : Nat} (hg : H.get i = some (rdO s e)) (hi : 0 < i ∧ i < 1000) :
    SpecAt Tryz.prog nRFour [.ptr i 0] H n (.v (.int .i64 (num (rawT s e 4) : Nat))) ⟨(i, some (rdO (rawS s e 4) (rawE s e 4))) :: H.l, H.x⟩ n := rdKS tRFour (by
  intro x
  unfold mRFour
  simp -implicitDefEqProofs only [↓fnVC, initTm]
  simp -implicitDefEqProofs only [go_sem]
  refine at_call tRNumber (numSp (i := 1) (s := s) (e := e) (k := 4) (by rfl) (by decide) (by decide) (numOK7 (by decide))) ?_
  simp -implicitDefEqProofs only [go_sem]
  refine sub_mk [] rfl rfl rfl ?_
  simp only [tmSub, hpSub, objSub, eqTm, eqHp, rn, lk, SV.ren, SV.renC, SV.renB, SV.renA, ren_ints, ren_strs, ren_pl, ren_svs, SV.v.injEq, Value.int.injEq, Body.ints.injEq, SV.ptr.injEq, SV.sl.injEq, Value.string.injEq, Value.bool.injEq, List.map_cons, List.map_nil, forall_const, Nat.reduceLT, Nat.lt_add_one, imp_self, true_and, and_true, and_self, ob_some, get_mk, lk_cons, ↓reduceIte, Nat.reduceEqDiff, ne_eq, not_true_eq_false, not_false_eq_true, Nat.one_ne_zero, Nat.zero_ne_one, Nat.succ_ne_self, Nat.reduceAdd, Bool.false_eq_true, false_implies, implies_true, reduceCtorEq, rdO]) hg hi
theorem twoS {s : ByteArray} {e : Int} {i : Nat} (hg : H.get i = some (rdO s e)) (hi : 0 < i ∧ i < 1000) :
    SpecAt Tryz.prog nRTwo [.ptr i 0] H n (.v (.int .i64 (num (rawT s e 2) : Nat))) ⟨(i, some (rdO (rawS s e 2) (rawE s e 2))) :: H.l, H.x⟩ n := rdKS tRTwo (by
  intro x
  unfold mRTwo
  simp -implicitDefEqProofs only [↓fnVC, initTm]
  simp -implicitDefEqProofs only [go_sem]
  refine at_call tRNumber (numSp (i := 1) (s := s) (e := e) (k := 2) (by rfl) (by decide) (by decide) (numOK7 (by decide))) ?_
  simp -implicitDefEqProofs only [go_sem]
  refine sub_mk [] rfl rfl rfl ?_
  simp only [tmSub, hpSub, objSub, eqTm, eqHp, rn, lk, SV.ren, SV.renC, SV.renB, SV.renA, ren_ints, ren_strs, ren_pl, ren_svs, SV.v.injEq, Value.int.injEq, Body.ints.injEq, SV.ptr.injEq, SV.sl.injEq, Value.string.injEq, Value.bool.injEq, List.map_cons, List.map_nil, forall_const, Nat.reduceLT, Nat.lt_add_one, imp_self, true_and, and_true, and_self, ob_some, get_mk, lk_cons, ↓reduceIte, Nat.reduceEqDiff, ne_eq, not_true_eq_false, not_false_eq_true, Nat.one_ne_zero, Nat.zero_ne_one, Nat.succ_ne_self, Nat.reduceAdd, Bool.false_eq_true, false_implies, implies_true, reduceCtorEq, rdO]) hg hi
theorem bts_app {a b : ByteArray} : bts (a ++ b) = bts a ++ bts b := by simp [bts]
theorem bts_bytes {a : ByteArray} : ∀ y ∈ bts a, 0 ≤ y ∧ y ≤ 255 := by
  intro y hy
  unfold bts at hy
  obtain ⟨b, _, rfl⟩ := List.mem_map.1 hy
  have := b.toNat_lt
  exact ⟨by omega, by omega⟩
theorem ba_nil {a : ByteArray} : (⟨#[]⟩ : ByteArray) ++ a = a := by apply ByteArray.ext; simp
theorem ba_zero {a : ByteArray} (h : a.size = 0) : a = ⟨#[]⟩ := by
  apply ByteArray.ext
  exact Array.eq_empty_of_size_eq_zero h
theorem loopU_fam {C : Tab} {base : Nat} {α : Type} (p : α → Prop) (I : α → St) (μ : α → Nat) (a0 : α) {b : MC} {s : St} {K : Ex → St → Prop} (h0 : p a0) (hs : Sub base (I a0) s)
    (hr : ∀ a, p a → vc C base b (I a) (kLoop base p I μ a K)) : LoopU base (vc C base b) 0 s K := by
  refine ⟨{a // p a}, fun a => I a.1, fun a => μ a.1, ⟨⟨a0, h0⟩, hs⟩, fun a => ?_⟩
  have := hr a.1 a.2
  refine vc_mono (fun e s' h => ?_) this
  cases e with
  | normal =>
    obtain ⟨a', h1, h2, h3⟩ := h
    exact ⟨⟨a', h1⟩, h3, h2⟩
  | exit j => exact h
  | ret => exact h
variable {H : Hp} {n : Nat} {x : Nat → Option SO}
theorem seq_emp {s : ByteArray} (h : s.size = 0) : seq s ⟨#[]⟩ = true := by rw [ba_zero h]; exact seq_self _
theorem seq_nemp {s : ByteArray} (h : ¬s.size = 0) : seq s ⟨#[]⟩ = false := seq_ne fun e => h (by rw [e]; rfl)
theorem ex_size {s : ByteArray} {a b : Nat} : (s.extract a b).size = min b s.size - a := ByteArray.size_extract
variable {H : Hp} {n : Nat} {x : Nat → Option SO}
theorem wKS {f : Nat} {m : MFn} {bs ys : List Int} {i r : Nat} (t : trFn Tryz.prog f = some m) {a : SV} (ha : ∀ π, a.ren π = a) (hlt : ltT 3 a = true)
    (hm : ∀ x, fnVC CT m [.ptr 1 0, a] ⟨[(1, some (wrO 2 bs.length false)), (2, some ⟨true, .ints .u8 bs⟩)], x⟩ 3 fun v H' n' => Sub 3 ⟨[(0, .tup [])], ⟨[(1, some (wrO 3 (bs ++ ys).length false)), (2, none), (3, some ⟨true, .ints .u8 (bs ++ ys)⟩)], x⟩, 4⟩ ⟨[(0, v)], H', n'⟩)
    (hg : H.get i = some (wrO r bs.length false)) (hr : H.get r = some ⟨true, .ints .u8 bs⟩) (hi : 0 < i ∧ i < 1000) (hr1 : 0 < r ∧ r < 1000) (hne : i ≠ r) (hn : n + 1 ≤ 1000) :
    SpecAt Tryz.prog f [.ptr i 0, a] H n (.tup []) ⟨(i, some (wrO n (bs ++ ys).length false)) :: (r, none) :: (n, some ⟨true, .ints .u8 (bs ++ ys)⟩) :: H.l, H.x⟩ (n + 1) := by
  have := lift (n := n) (okT.spec t (hm H.x)) [(1, i), (2, r)] rfl rfl (by simp [ltT, ltB, ltC, ltA, idOK] at hlt ⊢; exact hlt) (by omega) rfl rfl
    ⟨sub_wr rfl hi.1 hi.2 hg rfl, sub_wr rfl hr1.1 hr1.2 hr rfl, trivial⟩ (by simp [apartB, apart1, rn, lk, hne, Ne.symm hne]) (by simp [wrNZ, rn, lk]; omega) (by omega)
  rw [List.map_cons, List.map_cons, List.map_nil, ha] at this
  exact this
theorem wFourS {i r y : Nat} {bs : List Int} (hy : y < 4294967296) (hb : bs.length ≤ 1099511627776) (hg : H.get i = some (wrO r bs.length false)) (hr : H.get r = some ⟨true, .ints .u8 bs⟩) (hi : 0 < i ∧ i < 1000) (hr1 : 0 < r ∧ r < 1000) (hne : i ≠ r) (hn : n + 1 ≤ 1000) :
    SpecAt Tryz.prog nWFour [.ptr i 0, .v (.int .i64 y)] H n (.tup []) ⟨(i, some (wrO n (bs ++ be y 4).length false)) :: (r, none) :: (n, some ⟨true, .ints .u8 (bs ++ be y 4)⟩) :: H.l, H.x⟩ (n + 1) := wKS tWFour (fun _ => rfl) rfl (by
  intro x
  unfold mWFour
  simp -implicitDefEqProofs only [↓fnVC, initTm]
  simp -implicitDefEqProofs only [go_sem]
  refine at_call tWNumber (wNumS (i := 1) (r := 2) (k := 4) (y := y) (bs := bs) (bad := false) (by rfl) (by rfl) (by decide) (by decide) (by decide) (by decide) (by decide) (by omega) (fun _ => hy) hb) ?_
  simp -implicitDefEqProofs only [go_sem]
  refine sub_mk [] rfl rfl rfl ?_
  simp only [tmSub, hpSub, objSub, eqTm, eqHp, rn, lk, SV.ren, SV.renC, SV.renB, SV.renA, ren_ints, ren_strs, ren_pl, ren_svs, SV.v.injEq, Value.int.injEq, Body.ints.injEq, SV.ptr.injEq, SV.sl.injEq, Value.string.injEq, Value.bool.injEq, List.map_cons, List.map_nil, forall_const, Nat.reduceLT, Nat.lt_add_one, imp_self, true_and, and_true, and_self, ob_some, get_mk, lk_cons, ↓reduceIte, Nat.reduceEqDiff, ne_eq, not_true_eq_false, not_false_eq_true, Nat.one_ne_zero, Nat.zero_ne_one, Nat.succ_ne_self, Nat.reduceAdd, Bool.false_eq_true, false_implies, implies_true, reduceCtorEq, wrO]) hg hr hi hr1 hne hn
theorem wTextS {i r : Nat} {s : ByteArray} {bs : List Int} (hs : s.size < 65536) (hb : bs.length ≤ 1000000000) (hg : H.get i = some (wrO r bs.length false)) (hr : H.get r = some ⟨true, .ints .u8 bs⟩) (hi : 0 < i ∧ i < 1000) (hr1 : 0 < r ∧ r < 1000) (hne : i ≠ r) (hn : n + 1 ≤ 1000) :
    SpecAt Tryz.prog nWText [.ptr i 0, .v (.string s)] H n (.tup []) ⟨(i, some (wrO n (bs ++ (be s.size 2 ++ bts s)).length false)) :: (r, none) :: (n, some ⟨true, .ints .u8 (bs ++ (be s.size 2 ++ bts s))⟩) :: H.l, H.x⟩ (n + 1) := wKS tWText (fun _ => rfl) rfl (by
  intro x
  unfold mWText
  simp -implicitDefEqProofs only [↓fnVC, initTm]
  unfold wrO
  simp -implicitDefEqProofs only [go_sem]
  refine at_call tWNumber (wNumS (i := 1) (r := 2) (k := 2) (y := s.size) (bs := bs) (bad := false) (by rfl) (by rfl) (by decide) (by decide) (by decide) (by decide) (by decide) (by omega) (fun _ => hs) (by omega)) ?_
  unfold wrO
  simp -implicitDefEqProofs only [go_sem]
  refine ⟨by rw [List.length_append, be_len]; omega, ?_⟩
  refine sub_mk [(3, 4)] rfl rfl rfl ?_
  simp only [tmSub, hpSub, objSub, eqTm, eqHp, rn, lk, SV.ren, SV.renC, SV.renB, SV.renA, ren_ints, ren_strs, ren_pl, ren_svs, SV.v.injEq, Value.int.injEq, Body.ints.injEq, SV.ptr.injEq, SV.sl.injEq, Value.string.injEq, Value.bool.injEq, List.map_cons, List.map_nil, forall_const, Nat.reduceLT, Nat.lt_add_one, imp_self, true_and, and_true, and_self, ob_some, get_mk, lk_cons, ↓reduceIte, Nat.reduceEqDiff, ne_eq, not_true_eq_false, not_false_eq_true, Nat.one_ne_zero, Nat.zero_ne_one, Nat.succ_ne_self, Nat.reduceAdd, Bool.false_eq_true, false_implies, implies_true, reduceCtorEq]
  rw [← List.append_assoc, List.length_append (bs := bts s), bts_len]
  repeat' (first | rfl | apply And.intro)) hg hr hi hr1 hne hn
theorem ex_l {a b : ByteArray} {i j : Nat} (h : j ≤ a.size) : (a ++ b).extract i j = a.extract i j := by
  apply bts_inj
  rw [bts_ext, bts_ext, bts_app]
  have hl := bts_len a
  by_cases c : i ≤ j
  · rw [List.drop_append_of_le_length (by omega), List.take_append_of_le_length (by rw [List.length_drop]; omega)]
  · rw [show j - i = 0 by omega]; rfl
theorem ex_r {a b : ByteArray} {k : Nat} (h : a.size = k) : (a ++ b).extract k (a ++ b).size = b := by
  apply bts_inj
  rw [bts_ext, bts_app]
  have hl := bts_len a
  rw [List.drop_left' (by omega), List.take_of_length_le (by rw [bts_len, ByteArray.size_append]; omega)]
theorem ex_a {a b : ByteArray} {k : Nat} (h : a.size = k) : (a ++ b).extract 0 k = a := by
  rw [ex_l (by omega), ← h, ext_all]
theorem app_nil {a : ByteArray} : a ++ (⟨#[]⟩ : ByteArray) = a := by apply ByteArray.ext; simp
end
end Go.Sx