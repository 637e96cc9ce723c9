/- Cells: a copy is written. -/
import Derived.Test.YtaggkccjgnkloaaGreatCelA
import Derived.Test.YtaggkccjgnkloaaGreatLA
import Derived.Sort.Walk0

set_option linter.unusedVariables false
set_option linter.unusedSimpArgs false
set_option maxRecDepth 100000
namespace Go.Sx
attribute [local go_sem ↓] bind_mk intsB_mk strsB_mk svB_mk fnVC ob_some vc_skip vc_exit vc_ret vc_seq vc_block kSeq_normal kSeq_exit kSeq_ret kBlock_normal kBlock_exit kBlock_ret vc_reg vc_regD vc_cond condK_true condK_false vc_loop kLoop_exit kLoop_ret kRoll_normal kRoll_exit kRoll_ret vcOps_nil vcOps_cons gd_bool gd_undef put_some put_none vcT_fin vcT_pure vcT_act vcT_acts vcT_stop stab_none stab_some stabM_nil stabM_cons stabO_ld stabO_ldn stabO_slP stabO_b2s fldOf_ai fldOf_agg fldOf_ait fldOf_aggt intsOf_nil intsOf_cons strsOf_nil strsOf_cons c_omap ob_if lk_nil lk_cons ev_t ev_k z_mov z_pick z_bin z_binB z_binP z_un z_r2s z_conv z_s2b z_b2s z_mkM z_luM z_upM z_lenM lenMk_mp lenMk_nil plsOf_v z_delM asM_so plV_v plV_agg mpOf_mp mpOf_nil mpUp_mp asM_mp luV_ok luV_v z_allocT aggOf_mk z_boxT z_alloc z_bld z_bldI z_rowI z_rowS z_ld z_ldn z_st z_stn asN_ptr asN_fn z_nilck z_fld z_fadr z_idxA z_idxP z_idxS z_idxV z_slS z_slL z_slP z_mk z_lenS z_lenL z_app appC_ints appC_pl appC_sv appC_strs isS_strs loose_ints loose_pl loose_sv z_slM z_callv callvK_fn callvK_f callvK_yl vc_rangeF rfEnd_eq rfGo_none rfGo_ret rfGo_exit yGo_mk yEnd_n yEnd_r yEnd_e yRdy_mk yMid_n putPs_nil putPs_cons leaf_v leaf_ptr leaf_sl leaf_yl leaf_mp z_appS z_appST z_appZ z_cpyS z_mkfn reps_int reps_str z_rowV z_slnil nilK_zero z_cpy z_call asT_tup z_extT z_box boxOf_ai boxOf_agg boxOf_int boxOf_str boxOf_bool boxOf_ptr boxOf_sl sbin_int sbin_str sbinB_mk sbinP_nn sbinP_pn sbinP_np i_add i_sub i_mul i_quo i_rem i_and i_or i_xor i_andNot i_shl i_shr i_eql i_neq i_lss i_leq i_gtr i_geq st_add st_eql st_neq st_lss st_leq st_gtr st_geq bo_eql bo_neq pt_eql pt_neq un_neg un_xor un_not asI_mk asB_mk asS_mk asP_mk asSl_mk asBy_mk bnd_none bnd_some get_mk hput_mk hdel_mk kill_eq wrOf_eq rowOf_eq rsvs_0 rsvs_1 rsvs_2 rsvs_3 rsv_t rsv_c1 rsv_cn nt_v nt_ptr nt_sl nt_agg nt_ai get_ints get_strs get_pl get_sv getN_ints getN_sv set_ints set_strs set_sv setN_ints setN_sv part_ints part_strs part_sv cat_ints cat_strs cat_sv over_ints over_strs over_sv ones_ints ones_strs evs_nil evs_cons condK_eqt condK_eqf det_callP V_ns V_nn V_gs V_gn obC_mk fresh_ev freshT_ev freshR_ev setN_plagg setN_intsv setN_svai setN_svagg over_intsv set_pl setN_pl setN_plai getN_pl getN_strs part_pl cat_pl over_pl over_plints z_mm
attribute [local go_sem] initTm ne_eq not_true_eq_false not_false_eq_true true_and and_true List.length_cons List.length_nil Int.toNat_natCast Nat.add_zero Nat.zero_add Nat.mul_one List.getElem?_cons_zero List.drop_zero List.take_length List.take_succ_cons List.take_zero List.take_nil List.drop_succ_cons Option.map_some Nat.le_refl implies_true List.getElem?_cons_succ decide_true decide_false Bool.not_true Bool.not_false beq_self_eq_true Nat.succ_ne_self Nat.one_ne_zero Nat.zero_ne_one vk_mk hk_mk nk_mk tok_eq plsOf_map intsOf_map bodyOf_pl bodyOf_ints bodyOf_strs bodyOf_sv part_aggv part_agg part_ai part_int part_str part_bool part_sl part_ptr part_nil numsOf_map u_int u_str u_bool u_pnil u_sl u_ptr u_oci u_ocs evq_nil evq_cons fillS_nil fillS_cons u_ocb ones_pl cells_sv cells_ints cells_strs cells_pl smms_nil smms_cons smm_min smm_max plsOf_nil List.nil_append List.all_cons List.all_nil Bool.and_self Bool.true_and Bool.and_true zws_len zw_len zi_len List.set_cons_zero List.set_cons_succ List.flatMap_cons List.flatMap_nil List.append_nil
attribute [local go_sem_proc] Nat.reduceEqDiff Nat.reduceAdd Nat.reduceMul Nat.reduceLT Nat.reduceLeDiff Nat.reduceSub Int.reduceToNat Int.reduceLE Int.reduceLT reduceCtorEq Int.reduceEq Int.reduceGT Int.reduceGE Int.reduceNeg
attribute [local go_sem_proc ↓] reduceIte
section
open Go.Proofs
variable {H : Hp} {n : Nat} {x : Nat → Option SO} {i : Nat} {d d' : Fd}
def ceD (C : Ce) (d : Fd) (x : Nat → Option SO) : Hp := ⟨[(1, some ⟨true, cellB C 2 6 7⟩), (2, some ⟨true, devB d 8 9 10⟩), (3, none), (4, none), (5, none), (6, some ⟨true, .mp (.map C.now)⟩), (7, some ⟨true, .mp (.map C.was)⟩), (8, some ⟨true, secB d.seen⟩), (9, some ⟨true, secB d.safe⟩), (10, some ⟨true, .pl (prow d.pend)⟩)], x⟩
theorem spl2 {a b c e : SV} : splice (splice [a, b] 0 [c]) 1 [e] = [c, e] := rfl
theorem spl2' {a b c e : SV} : splice [a, b] 0 [c, e] = [c, e] := rfl
theorem spl2m {a b : SV} {u v : Value} : splice [a, b] 0 (List.map SV.v [u, v]) = [.v u, .v v] := rfl
theorem spl21 {a b c : SV} : splice [a, b] 1 [c] = [a, c] := rfl
theorem cws_no {at_ : Int} {I : ByteArray} {p : Int × Fd} (h : p.1 ≠ 0) : ∀ j, cws at_ I p j = p
  | 0 => rfl
  | j + 1 => by
    show thn (cws at_ I p j) _ = p
    rw [cws_no h j]; exact thn_no h
theorem slW_1 {at_ : Int} {I Q : ByteArray} (h : (wrT d at_ ⟨#[]⟩).1 ≠ 0) : slW at_ Q I d = wrT d at_ ⟨#[]⟩ := by
  have e1 : p1 at_ d = wrT d at_ ⟨#[]⟩ := thn_no h
  have e2 : ∀ j, pC at_ I d j = wrT d at_ ⟨#[]⟩ := fun j => by unfold pC; rw [e1]; exact cws_no h j
  unfold slW p3 p2
  rw [e2, thn_no h, thn_no h, thn_no h]
theorem slW_2 {at_ : Int} {I Q : ByteArray} (h : (p1 at_ d).1 ≠ 0) : slW at_ Q I d = p1 at_ d := by
  have e2 : ∀ j, pC at_ I d j = p1 at_ d := fun j => cws_no h j
  unfold slW p3 p2
  rw [e2, thn_no h, thn_no h, thn_no h]
theorem cws_add {at_ : Int} {I : ByteArray} {p : Int × Fd} {j : Nat} (h : (cws at_ I p j).1 ≠ 0) : ∀ k, cws at_ I p (j + k) = cws at_ I p j
  | 0 => rfl
  | k + 1 => by
    show thn (cws at_ I p (j + k)) _ = _
    rw [cws_add h k]; exact thn_no h
theorem slW_3 {at_ : Int} {I Q : ByteArray} {j : Nat} (hj : j ≤ nCh I) (h : (pC at_ I d j).1 ≠ 0) : slW at_ Q I d = pC at_ I d j := by
  have e2 : pC at_ I d (nCh I) = pC at_ I d j := by
    obtain ⟨k, hk⟩ : ∃ k, nCh I = j + k := ⟨nCh I - j, by omega⟩
    rw [hk]; exact cws_add h k
  unfold slW p3 p2
  rw [e2, thn_no h, thn_no h, thn_no h]
theorem slW_4 {at_ : Int} {I Q : ByteArray} (h : (p2 at_ I d).1 ≠ 0) : slW at_ Q I d = p2 at_ I d := by
  unfold slW p3
  rw [thn_no h, thn_no h]
theorem slW_5 {at_ : Int} {I Q : ByteArray} (h : (p3 at_ Q I d).1 ≠ 0) : slW at_ Q I d = p3 at_ Q I d := thn_no h
set_option maxHeartbeats 2000000 in
theorem cwriteW {C : Ce} {first m t : Nat} {I Q : ByteArray} (hP : Pl d m t) (ht : t + 1000 < 1000000) (hI0 : 0 < I.size) (hI : I.size ≤ 8192) (hQ0 : 0 < Q.size) (hQ : Q.size ≤ 64) (hf : first ≤ 1000000) :
    fnVC CT mCwrite [.ptr 1 0, .v (.int .i64 first), .v (.string I), .v (.string Q)] (ceH C d x) 8 fun v H' n' => Sub 8 ⟨[(0, .v (.int .i64 (slW first Q I d).1))], ceD C (slW first Q I d).2 x, 11⟩ ⟨[(0, v)], H', n'⟩ := by
  unfold mCwrite
  rw [show ceH C d x = ⟨ceL C d, x⟩ from rfl]
  unfold ceL devL cellB
  have w1 : IntKind.i64.wrap ((first : Int) + 1) = ((first + 1 : Nat) : Int) := by rw [wrap_i64 (by omega) (by omega)]; omega
  simp -implicitDefEqProofs only [↓fnVC, initTm]
  simp -implicitDefEqProofs only [go_sem, w1, spl2, List.cons_append]
  refine loop_roll 4 ?_
  rw [LoopU_succ]
  have f0 : decide ((0 : Int) < ((3 : Nat) : Int)) = true := rfl
  have f1 : decide ((1 : Int) < ((3 : Nat) : Int)) = true := rfl
  have f2 : decide ((2 : Int) < ((3 : Nat) : Int)) = true := rfl
  have f3 : decide ((3 : Int) < ((3 : Nat) : Int)) = false := rfl
  have g0 : IntKind.i64.wrap (0 + 1) = 1 := rfl
  have g1 : IntKind.i64.wrap (1 + 1) = 2 := rfl
  have g2 : IntKind.i64.wrap (2 + 1) = 3 := rfl
  have nil0 : (⟨#[]⟩ : ByteArray).extract 0 0 = ⟨#[]⟩ := ba_zero (by rw [ex_size]; rfl)
  simp -implicitDefEqProofs only [go_sem, f0, spl2, spl2']
  refine ⟨by decide, ?_⟩
  simp -implicitDefEqProofs only [go_sem, spl2m]
  have nsz : min ((#[] : Array UInt8).size : Int) 64 = ((0 : Nat) : Int) := rfl
  have nil1 : (⟨#[]⟩ : ByteArray).extract 0 (#[] : Array UInt8).size = ⟨#[]⟩ := ba_zero (by rw [ex_size]; rfl)
  have emp : seq (⟨#[]⟩ : ByteArray) ⟨#[]⟩ = true := seq_self _
  refine loop_roll 1 ?_
  rw [LoopU_succ]
  simp -implicitDefEqProofs only [go_sem, spl2m, nsz, nil0]
  refine ⟨⟨by decide, by decide⟩, ?_⟩
  obtain ⟨⟨e1, d1⟩, hq1⟩ : ∃ q, wrT d first ⟨#[]⟩ = q := ⟨_, rfl⟩
  have hP1 : Pl d1 m (t + 1) := by have := wrT_pl (k := first) (s := ⟨#[]⟩) hP (by omega); rw [hq1] at this; exact this
  refine at_call tFWrite (wrTS (i := 2) (a := 3) (b := 4) (c := 5) ⟨by rfl, by rfl, by rfl, by rfl, by decide⟩ hP (by omega) (by decide) hq1) ?_
  by_cases x1 : e1 = 0
  rotate_left
  · have b1 : decide (e1 = 0) = false := decide_eq_false x1
    simp -implicitDefEqProofs only [go_sem, b1]
    rw [show slW first Q I d = (e1, d1) from (slW_1 (by rw [hq1]; exact x1)).trans hq1]
    unfold ceD cellB
    refine sub_mk [(8, 10), (9, 11), (10, 12)] rfl rfl rfl ?_
    simp only [tmSub, hpSub, objSub, eqTm, eqHp, rn, lk, SV.ren, SV.renC, SV.renB, SV.renA, ren_ints, ren_strs, ren_pl, ren_svs, SV.v.injEq, Value.int.injEq, Body.ints.injEq, SV.ptr.injEq, SV.sl.injEq, Value.string.injEq, Value.bool.injEq, List.map_cons, List.map_nil, forall_const, Nat.reduceLT, Nat.lt_add_one, imp_self, true_and, and_true, and_self, ob_some, get_mk, lk_cons, ↓reduceIte, Nat.reduceEqDiff, ne_eq, not_true_eq_false, not_false_eq_true, Nat.one_ne_zero, Nat.zero_ne_one, Nat.succ_ne_self, Nat.reduceAdd, Bool.false_eq_true, false_implies, implies_true, reduceCtorEq]
    repeat' (first | rfl | apply And.intro)
  have b1 : decide (e1 = 0) = true := decide_eq_true x1
  simp -implicitDefEqProofs only [go_sem, b1, nil1, emp, spl21]
  refine ⟨⟨by decide, by decide, by decide⟩, ?_⟩
  obtain ⟨⟨e2, d2⟩, hq2⟩ : ∃ q, baT d1 = q := ⟨_, rfl⟩
  have hP2 : Pl d2 m (t + 2) := by have := baT_pl hP1 (by omega); rw [hq2] at this; exact this
  refine at_call tFBarrier (baTS (i := 2) (a := 10) (b := 11) (c := 12) ⟨by rfl, by rfl, by rfl, by rfl, by decide⟩ hP1 (by omega) (by decide) hq2) ?_
  have hp1 : p1 first d = (e2, d2) := by unfold p1; rw [thn_ok (by rw [hq1]; exact x1), hq1]; exact hq2
  by_cases x2 : e2 = 0
  rotate_left
  · have b2 : decide (e2 = 0) = false := decide_eq_false x2
    simp -implicitDefEqProofs only [go_sem, b2]
    rw [show slW first Q I d = (e2, d2) from (slW_2 (by rw [hp1]; exact x2)).trans hp1]
    unfold ceD cellB
    refine sub_mk [(8, 13), (9, 14), (10, 15)] rfl rfl rfl ?_
    simp only [tmSub, hpSub, objSub, eqTm, eqHp, rn, lk, SV.ren, SV.renC, SV.renB, SV.renA, ren_ints, ren_strs, ren_pl, ren_svs, SV.v.injEq, Value.int.injEq, Body.ints.injEq, SV.ptr.injEq, SV.sl.injEq, Value.string.injEq, Value.bool.injEq, List.map_cons, List.map_nil, forall_const, Nat.reduceLT, Nat.lt_add_one, imp_self, true_and, and_true, and_self, ob_some, get_mk, lk_cons, ↓reduceIte, Nat.reduceEqDiff, ne_eq, not_true_eq_false, not_false_eq_true, Nat.one_ne_zero, Nat.zero_ne_one, Nat.succ_ne_self, Nat.reduceAdd, Bool.false_eq_true, false_implies, implies_true, reduceCtorEq]
    repeat' (first | rfl | apply And.intro)
  have b2 : decide (e2 = 0) = true := decide_eq_true x2
  simp -implicitDefEqProofs only [go_sem, b2, g0]
  rw [LoopU_succ]
  simp -implicitDefEqProofs only [go_sem, f1, spl2']
  refine ⟨by decide, ?_⟩
  simp -implicitDefEqProofs only [go_sem, spl2m, g0]
  refine loop_fam (fun (q : Nat × Fd) => pC first I d q.1 = (0, q.2) ∧ q.1 < nCh I ∧ Pl q.2 m (t + 2 + q.1))
    (fun q => ⟨[(0, .ptr 1 0), (10, .ptr 16 0), (11, .v (.int .i64 ((first : Int) + 1 + q.1))), (24, .sl 8 0 3 2), (25, .v (.int .i64 (3 : Nat))), (26, .v (.int .i64 1))],
      ⟨[(1, some ⟨true, cellB C 2 6 7⟩), (2, some ⟨true, devB q.2 13 14 15⟩), (6, some ⟨true, .mp (.map C.now)⟩), (7, some ⟨true, .mp (.map C.was)⟩), (8, some ⟨true, .pl [.int .i64 first, .string ⟨#[]⟩, .int .i64 (first + 1 : Nat), .string I, .int .i64 first, .string Q]⟩), (13, some ⟨true, secB q.2.seen⟩), (14, some ⟨true, secB q.2.safe⟩), (15, some ⟨true, .pl (prow q.2.pend)⟩), (16, some ⟨true, .sv [.v (.int .i64 (first + 1 : Nat)), .v (.string (I.extract (64 * q.1) I.size))]⟩)], x⟩, 17⟩)
    (fun q => nCh I - q.1) (0, d2) ⟨by show p1 first d = _; rw [hp1, x2], nCh_lt.2 (by omega), hP2⟩ ?_ ?_
  · have hII : I.extract (64 * 0) I.size = I := ext_all I
    unfold cellB
    refine sub_mk [] rfl rfl rfl ?_
    simp only [tmSub, hpSub, objSub, eqTm, eqHp, rn, lk, SV.ren, SV.renC, SV.renB, SV.renA, ren_ints, ren_strs, ren_pl, ren_svs, SV.v.injEq, Value.int.injEq, Body.ints.injEq, SV.ptr.injEq, SV.sl.injEq, Value.string.injEq, Value.bool.injEq, List.map_cons, List.map_nil, forall_const, Nat.reduceLT, Nat.lt_add_one, imp_self, true_and, and_true, and_self, ob_some, get_mk, lk_cons, ↓reduceIte, Nat.reduceEqDiff, ne_eq, not_true_eq_false, not_false_eq_true, Nat.one_ne_zero, Nat.zero_ne_one, Nat.succ_ne_self, Nat.reduceAdd, Bool.false_eq_true, false_implies, implies_true, reduceCtorEq]
    rw [hII]
    refine ⟨by omega, ?_⟩
    repeat' (first | rfl | apply And.intro)
  rintro ⟨j, dj⟩ ⟨hpj, hj, hPj⟩
  have hpj : pC first I d j = (0, dj) := hpj
  have hj : j < nCh I := hj
  have hPj : Pl dj m (t + 2 + j) := hPj
  have hj64 := nCh_lt.1 hj
  have hnc := nCh_le hI
  have hrz : (I.extract (64 * j) I.size).size = I.size - 64 * j := by rw [ex_size]; omega
  have mn : min (((I.extract (64 * j) I.size).size : Nat) : Int) 64 = ((min (I.size - 64 * j) 64 : Nat) : Int) := by rw [hrz]; omega
  have ml : min (I.size - 64 * j) 64 ≤ I.size - 64 * j := Nat.min_le_left _ _
  have hchk : (I.extract (64 * j) I.size).extract 0 (min (I.size - 64 * j) 64) = chk I j := by
    rw [ext_ext (by omega)]
    unfold chk
    congr 1
    omega
  have hrest : (I.extract (64 * j) I.size).extract (min (I.size - 64 * j) 64) (I.extract (64 * j) I.size).size = I.extract (64 * (j + 1)) I.size := by
    rw [hrz, ext_ext (by omega)]
    by_cases c : 64 * (j + 1) ≤ I.size
    · congr 1 <;> omega
    · have z1 : I.extract (64 * (j + 1)) I.size = ⟨#[]⟩ := ba_zero (by rw [ex_size]; omega)
      have z2 : I.extract (64 * j + min (I.size - 64 * j) 64) (64 * j + (I.size - 64 * j)) = ⟨#[]⟩ := ba_zero (by rw [ex_size]; omega)
      rw [z1, z2]
  have hpn : pC first I d (j + 1) = wrT dj ((first : Int) + 1 + j) (chk I j) := by
    have hpj2 : cws first I (p1 first d) j = (0, dj) := hpj
    show thn (cws first I (p1 first d) j) (fun d => wrT d ((first : Int) + 1 + j) (chk I j)) = _
    rw [hpj2]
    exact thn_ok rfl
  have wj : IntKind.i64.wrap ((first : Int) + 1 + (j : Int) + 1) = (first : Int) + 1 + ((j + 1 : Nat) : Int) := by rw [wrap_i64 (by omega) (by omega)]; omega
  unfold cellB
  simp -implicitDefEqProofs only [go_sem, mn, hchk]
  refine ⟨⟨by omega, by omega⟩, ?_⟩
  obtain ⟨⟨e3, d3⟩, hq3⟩ : ∃ q, wrT dj ((first : Int) + 1 + j) (chk I j) = q := ⟨_, rfl⟩
  have hP3 : Pl d3 m (t + 2 + (j + 1)) := by have := wrT_pl (k := (first : Int) + 1 + j) (s := chk I j) hPj (by omega); rw [hq3] at this; exact this
  refine at_call tFWrite (wrTS (i := 2) (a := 13) (b := 14) (c := 15) ⟨by rfl, by rfl, by rfl, by rfl, by decide⟩ hPj (by omega) (by decide) hq3) ?_
  rw [hq3] at hpn
  by_cases x3 : e3 = 0
  rotate_left
  · have b3 : decide (e3 = 0) = false := decide_eq_false x3
    simp -implicitDefEqProofs only [go_sem, b3]
    rw [show slW first Q I d = (e3, d3) from (slW_3 (j := j + 1) (by omega) (by rw [hpn]; exact x3)).trans hpn]
    unfold ceD cellB
    refine sub_mk [(8, 17), (9, 18), (10, 19)] rfl rfl rfl ?_
    simp only [tmSub, hpSub, objSub, eqTm, eqHp, rn, lk, SV.ren, SV.renC, SV.renB, SV.renA, ren_ints, ren_strs, ren_pl, ren_svs, SV.v.injEq, Value.int.injEq, Body.ints.injEq, SV.ptr.injEq, SV.sl.injEq, Value.string.injEq, Value.bool.injEq, List.map_cons, List.map_nil, forall_const, Nat.reduceLT, Nat.lt_add_one, imp_self, true_and, and_true, and_self, ob_some, get_mk, lk_cons, ↓reduceIte, Nat.reduceEqDiff, ne_eq, not_true_eq_false, not_false_eq_true, Nat.one_ne_zero, Nat.zero_ne_one, Nat.succ_ne_self, Nat.reduceAdd, Bool.false_eq_true, false_implies, implies_true, reduceCtorEq]
    repeat' (first | rfl | apply And.intro)
  have b3 : decide (e3 = 0) = true := decide_eq_true x3
  simp -implicitDefEqProofs only [go_sem, b3, hrest, spl21]
  refine ⟨⟨by omega, by omega, by omega⟩, ?_⟩
  simp -implicitDefEqProofs only [go_sem, b3, hrest, spl21]
  by_cases x4 : 64 * (j + 1) < I.size
  · have hl : seq (I.extract (64 * (j + 1)) I.size) ⟨#[]⟩ = false := seq_nemp (by rw [ex_size]; omega)
    simp -implicitDefEqProofs only [go_sem, hl, wj]
    refine kLoop_mk (j + 1, d3) ⟨by rw [hpn, x3], nCh_lt.2 x4, hP3⟩ (by show nCh I - (j + 1) < nCh I - j; omega) ?_
    refine sub_mk [(13, 17), (14, 18), (15, 19)] rfl rfl rfl ?_
    simp only [tmSub, hpSub, objSub, eqTm, eqHp, rn, lk, SV.ren, SV.renC, SV.renB, SV.renA, ren_ints, ren_strs, ren_pl, ren_svs, SV.v.injEq, Value.int.injEq, Body.ints.injEq, SV.ptr.injEq, SV.sl.injEq, Value.string.injEq, Value.bool.injEq, List.map_cons, List.map_nil, forall_const, Nat.reduceLT, Nat.lt_add_one, imp_self, true_and, and_true, and_self, ob_some, get_mk, lk_cons, ↓reduceIte, Nat.reduceEqDiff, ne_eq, not_true_eq_false, not_false_eq_true, Nat.one_ne_zero, Nat.zero_ne_one, Nat.succ_ne_self, Nat.reduceAdd, Bool.false_eq_true, false_implies, implies_true, reduceCtorEq]
    repeat' (first | rfl | apply And.intro)
  have hl : seq (I.extract (64 * (j + 1)) I.size) ⟨#[]⟩ = true := seq_emp (by rw [ex_size]; omega)
  have hjn : j + 1 = nCh I := by
    have h1 : ¬j + 1 < nCh I := fun h => x4 (nCh_lt.1 h)
    omega
  simp -implicitDefEqProofs only [go_sem, hl]
  obtain ⟨⟨e4, d4⟩, hq4⟩ : ∃ q, baT d3 = q := ⟨_, rfl⟩
  have hP4 : Pl d4 m (t + 2 + (j + 1) + 1) := by have := baT_pl hP3 (by omega); rw [hq4] at this; exact this
  refine at_call tFBarrier (baTS (i := 2) (a := 17) (b := 18) (c := 19) ⟨by rfl, by rfl, by rfl, by rfl, by decide⟩ hP3 (by omega) (by decide) hq4) ?_
  have hp2 : p2 first I d = (e4, d4) := by
    unfold p2
    rw [← hjn, hpn, x3]
    exact hq4
  by_cases x5 : e4 = 0
  rotate_left
  · have b5 : decide (e4 = 0) = false := decide_eq_false x5
    simp -implicitDefEqProofs only [go_sem, b5]
    rw [show slW first Q I d = (e4, d4) from (slW_4 (by rw [hp2]; exact x5)).trans hp2]
    unfold ceD cellB
    refine sub_mk [(8, 20), (9, 21), (10, 22)] rfl rfl rfl ?_
    simp only [tmSub, hpSub, objSub, eqTm, eqHp, rn, lk, SV.ren, SV.renC, SV.renB, SV.renA, ren_ints, ren_strs, ren_pl, ren_svs, SV.v.injEq, Value.int.injEq, Body.ints.injEq, SV.ptr.injEq, SV.sl.injEq, Value.string.injEq, Value.bool.injEq, List.map_cons, List.map_nil, forall_const, Nat.reduceLT, Nat.lt_add_one, imp_self, true_and, and_true, and_self, ob_some, get_mk, lk_cons, ↓reduceIte, Nat.reduceEqDiff, ne_eq, not_true_eq_false, not_false_eq_true, Nat.one_ne_zero, Nat.zero_ne_one, Nat.succ_ne_self, Nat.reduceAdd, Bool.false_eq_true, false_implies, implies_true, reduceCtorEq]
    repeat' (first | rfl | apply And.intro)
  have b5 : decide (e4 = 0) = true := decide_eq_true x5
  simp -implicitDefEqProofs only [go_sem, b5, g1]
  rw [LoopU_succ]
  simp -implicitDefEqProofs only [go_sem, f2, spl2']
  refine ⟨by decide, ?_⟩
  have hQn : min ((Q.size : Nat) : Int) 64 = ((Q.size : Nat) : Int) := by omega
  have hQe : Q.extract 0 Q.size = Q := ext_all Q
  have hQz : seq (Q.extract Q.size Q.size) ⟨#[]⟩ = true := seq_emp (by rw [ex_size]; omega)
  simp -implicitDefEqProofs only [go_sem, spl2m, g1]
  refine loop_roll 1 ?_
  rw [LoopU_succ]
  simp -implicitDefEqProofs only [go_sem, spl2m, hQn, hQe]
  refine ⟨⟨by omega, by omega⟩, ?_⟩
  obtain ⟨⟨e5, d5⟩, hq5⟩ : ∃ q, wrT d4 first Q = q := ⟨_, rfl⟩
  have hP5 : Pl d5 m (t + 2 + (j + 1) + 1 + 1) := by have := wrT_pl (k := first) (s := Q) hP4 (by omega); rw [hq5] at this; exact this
  refine at_call tFWrite (wrTS (i := 2) (a := 20) (b := 21) (c := 22) ⟨by rfl, by rfl, by rfl, by rfl, by decide⟩ hP4 (by omega) (by decide) hq5) ?_
  have hp3 : p3 first Q I d = (e5, d5) := by unfold p3; rw [hp2, x5]; exact hq5
  by_cases x6 : e5 = 0
  rotate_left
  · have b6 : decide (e5 = 0) = false := decide_eq_false x6
    simp -implicitDefEqProofs only [go_sem, b6]
    rw [show slW first Q I d = (e5, d5) from (slW_5 (by rw [hp3]; exact x6)).trans hp3]
    unfold ceD cellB
    refine sub_mk [(8, 24), (9, 25), (10, 26)] rfl rfl rfl ?_
    simp only [tmSub, hpSub, objSub, eqTm, eqHp, rn, lk, SV.ren, SV.renC, SV.renB, SV.renA, ren_ints, ren_strs, ren_pl, ren_svs, SV.v.injEq, Value.int.injEq, Body.ints.injEq, SV.ptr.injEq, SV.sl.injEq, Value.string.injEq, Value.bool.injEq, List.map_cons, List.map_nil, forall_const, Nat.reduceLT, Nat.lt_add_one, imp_self, true_and, and_true, and_self, ob_some, get_mk, lk_cons, ↓reduceIte, Nat.reduceEqDiff, ne_eq, not_true_eq_false, not_false_eq_true, Nat.one_ne_zero, Nat.zero_ne_one, Nat.succ_ne_self, Nat.reduceAdd, Bool.false_eq_true, false_implies, implies_true, reduceCtorEq]
    repeat' (first | rfl | apply And.intro)
  have b6 : decide (e5 = 0) = true := decide_eq_true x6
  simp -implicitDefEqProofs only [go_sem, b6, spl21]
  refine ⟨⟨by omega, by omega, by omega⟩, ?_⟩
  simp -implicitDefEqProofs only [go_sem, b6, hQz, spl21]
  obtain ⟨⟨e6, d6⟩, hq6⟩ : ∃ q, baT d5 = q := ⟨_, rfl⟩
  refine at_call tFBarrier (baTS (i := 2) (a := 24) (b := 25) (c := 26) ⟨by rfl, by rfl, by rfl, by rfl, by decide⟩ hP5 (by omega) (by decide) hq6) ?_
  have hsl : slW first Q I d = (e6, d6) := by unfold slW; rw [hp3, x6]; exact hq6
  rw [hsl]
  by_cases x7 : e6 = 0
  rotate_left
  · have b7 : decide (e6 = 0) = false := decide_eq_false x7
    simp -implicitDefEqProofs only [go_sem, b7]
    unfold ceD cellB
    refine sub_mk [(8, 27), (9, 28), (10, 29)] rfl rfl rfl ?_
    simp only [tmSub, hpSub, objSub, eqTm, eqHp, rn, lk, SV.ren, SV.renC, SV.renB, SV.renA, ren_ints, ren_strs, ren_pl, ren_svs, SV.v.injEq, Value.int.injEq, Body.ints.injEq, SV.ptr.injEq, SV.sl.injEq, Value.string.injEq, Value.bool.injEq, List.map_cons, List.map_nil, forall_const, Nat.reduceLT, Nat.lt_add_one, imp_self, true_and, and_true, and_self, ob_some, get_mk, lk_cons, ↓reduceIte, Nat.reduceEqDiff, ne_eq, not_true_eq_false, not_false_eq_true, Nat.one_ne_zero, Nat.zero_ne_one, Nat.succ_ne_self, Nat.reduceAdd, Bool.false_eq_true, false_implies, implies_true, reduceCtorEq]
    repeat' (first | rfl | apply And.intro)
  have b7 : decide (e6 = 0) = true := decide_eq_true x7
  simp -implicitDefEqProofs only [go_sem, b7, g2]
  rw [LoopU_succ]
  simp -implicitDefEqProofs only [go_sem, f3]
  rw [x7]
  unfold ceD cellB
  refine sub_mk [(8, 27), (9, 28), (10, 29)] rfl rfl rfl ?_
  simp only [tmSub, hpSub, objSub, eqTm, eqHp, rn, lk, SV.ren, SV.renC, SV.renB, SV.renA, ren_ints, ren_strs, ren_pl, ren_svs, SV.v.injEq, Value.int.injEq, Body.ints.injEq, SV.ptr.injEq, SV.sl.injEq, Value.string.injEq, Value.bool.injEq, List.map_cons, List.map_nil, forall_const, Nat.reduceLT, Nat.lt_add_one, imp_self, true_and, and_true, and_self, ob_some, get_mk, lk_cons, ↓reduceIte, Nat.reduceEqDiff, ne_eq, not_true_eq_false, not_false_eq_true, Nat.one_ne_zero, Nat.zero_ne_one, Nat.succ_ne_self, Nat.reduceAdd, Bool.false_eq_true, false_implies, implies_true, reduceCtorEq]
  repeat' (first | rfl | apply And.intro)
end
section
/- Cells: at any heap; Commit. -/
set_option linter.unusedVariables false
set_option linter.unusedSimpArgs false
set_option maxRecDepth 100000
open Go.Proofs
variable {H : Hp} {n : Nat} {x : Nat → Option SO} {i D a b c M W : Nat} {d d' : Fd} {C C' : Ce}
def ceP (i D a b c M W : Nat) : List (Nat × Nat) := [(1, i), (2, D), (3, a), (4, b), (5, c), (6, M), (7, W)]
structure CellAt (H : Hp) (C : Ce) (d : Fd) (i D a b c M W : Nat) : Prop where
  gi : H.get i = some ⟨true, cellB C D M W⟩
  gD : H.get D = some ⟨true, devB d a b c⟩
  ga : H.get a = some ⟨true, secB d.seen⟩
  gb : H.get b = some ⟨true, secB d.safe⟩
  gc : H.get c = some ⟨true, .pl (prow d.pend)⟩
  gM : H.get M = some ⟨true, .mp (.map C.now)⟩
  gW : H.get W = some ⟨true, .mp (.map C.was)⟩
  ne : ([i, D, a, b, c, M, W].all fun k => decide (0 < k ∧ k < 1000)) = true
  ap : apartB (ceP i D a b c M W) (ceL C d) (ceL C d) = true
  nz : wrNZ (ceP i D a b c M W) (ceL C d) = true
theorem CellAt.sub (h : CellAt H C d i D a b c M W) : hpSub (ceP i D a b c M W) H (ceL C d) := by
  obtain ⟨g1, g2, g3, g4, g5, g6, g7, hp, _, _⟩ := h
  simp at hp
  exact ⟨sub_wr rfl hp.1.1 hp.1.2 g1 rfl, sub_wr rfl hp.2.1.1 hp.2.1.2 g2 rfl, sub_wr rfl hp.2.2.1.1 hp.2.2.1.2 g3 rfl, sub_wr rfl hp.2.2.2.1.1 hp.2.2.2.1.2 g4 rfl, sub_wr rfl hp.2.2.2.2.1.1 hp.2.2.2.2.1.2 g5 rfl, sub_wr rfl hp.2.2.2.2.2.1.1 hp.2.2.2.2.2.1.2 g6 rfl, sub_wr rfl hp.2.2.2.2.2.2.1 hp.2.2.2.2.2.2.2 g7 rfl, trivial⟩
theorem putS {name text : ByteArray} (h : CellAt H C d i D a b c M W) (hE : Es C.now) :
    SpecAt Tryz.prog nCPut [.ptr i 0, .v (.string name), .v (.string text)] H n (.v (.int .i64 (putE C.now name text)))
      ⟨(i, some ⟨true, cellB C D M W⟩) :: (D, some ⟨true, devB d a b c⟩) :: (a, some ⟨true, secB d.seen⟩) :: (b, some ⟨true, secB d.safe⟩) :: (c, some ⟨true, .pl (prow d.pend)⟩) :: (M, some ⟨true, .mp (.map (putEs C.now name text))⟩) :: (W, some ⟨true, .mp (.map C.was)⟩) :: H.l, H.x⟩ n := by
  have := lift (n := n) (okT.spec tCPut (putW (x := H.x) (d := d) (C := C) (name := name) (text := text) hE)) (ceP i D a b c M W) rfl rfl rfl (by omega) rfl rfl h.sub h.ap h.nz (by omega)
  exact this
theorem dropS {name : ByteArray} (h : CellAt H C d i D a b c M W) (hE : Es C.now) :
    SpecAt Tryz.prog nCDrop [.ptr i 0, .v (.string name)] H n (.v (.bool (luS C.now name).isSome))
      ⟨(i, some ⟨true, cellB C D M W⟩) :: (D, some ⟨true, devB d a b c⟩) :: (a, some ⟨true, secB d.seen⟩) :: (b, some ⟨true, secB d.safe⟩) :: (c, some ⟨true, .pl (prow d.pend)⟩) :: (M, some ⟨true, .mp (.map (dlS C.now name))⟩) :: (W, some ⟨true, .mp (.map C.was)⟩) :: H.l, H.x⟩ n := by
  have := lift (n := n) (okT.spec tCDrop (dropW (x := H.x) (d := d) (C := C) (name := name) hE)) (ceP i D a b c M W) rfl rfl rfl (by omega) rfl rfl h.sub h.ap h.nz (by omega)
  exact this
theorem cwriteS {first m t : Nat} {I Q : ByteArray} (h : CellAt H C d i D a b c M W) (hP : Pl d m t) (ht : t + 1000 < 1000000) (hI0 : 0 < I.size) (hI : I.size ≤ 8192) (hQ0 : 0 < Q.size) (hQ : Q.size ≤ 64) (hf : first ≤ 1000000) (hn : n + 3 ≤ 1000) {e : Int} (hq : slW first Q I d = (e, d')) :
    SpecAt Tryz.prog nCwrite [.ptr i 0, .v (.int .i64 first), .v (.string I), .v (.string Q)] H n (.v (.int .i64 e))
      ⟨(i, some ⟨true, cellB C D M W⟩) :: (D, some ⟨true, devB d' n (n + 1) (n + 1 + 1)⟩) :: (a, none) :: (b, none) :: (c, none) :: (M, some ⟨true, .mp (.map C.now)⟩) :: (W, some ⟨true, .mp (.map C.was)⟩) :: (n, some ⟨true, secB d'.seen⟩) :: (n + 1, some ⟨true, secB d'.safe⟩) :: (n + 1 + 1, some ⟨true, .pl (prow d'.pend)⟩) :: H.l, H.x⟩ (n + 3) := by
  have e1 : (slW first Q I d).1 = e := by rw [hq]
  have e2 : (slW first Q I d).2 = d' := by rw [hq]
  subst e1; subst e2
  have := lift (n := n) (okT.spec tCwrite (cwriteW (x := H.x) (C := C) hP ht hI0 hI hQ0 hQ hf)) (ceP i D a b c M W) rfl rfl rfl (by omega) rfl rfl h.sub h.ap h.nz (by omega)
  exact this
theorem bytesS {es : List (Value × Value)} {s : SO} (hg : H.get i = some s) (hb : s.b = .mp (.map es)) (hi : 0 < i) (h : Es es) : SpecAt Tryz.prog ncbytes [.mp i] H n (.v (.string (encB es))) H n := by
  have := lift_ro (n := n) (okT.spec tcbytes (bytesW (x := H.x) h)) [(1, i)] rfl rfl rfl (by omega) rfl rfl ⟨sub_ro rfl hi hg hb, trivial⟩ (by simp [apartB, apart1, rn, lk]) (by simp [wrNZ, rn, lk]) rfl
  exact this
def hdC (k z : Nat) : ByteArray := tx (be k 8 ++ be z 4 ++ be k 8)
theorem hdC_size {k z : Nat} : (hdC k z).size = 20 := by unfold hdC; rw [tx_sz]; simp only [List.length_append, be_len]
theorem encB_pos {es : List (Value × Value)} : 0 < (encB es).size := by
  unfold encB
  rw [tx_sz]
  have : ∀ j, 2 ≤ (encL es j).length := by
    intro j
    induction j with
    | zero => unfold encL; rw [be_len]; exact Nat.le_refl _
    | succ j ih => unfold encL; simp only [List.length_append]; omega
  have := this es.length
  omega
def ceTo (C : Ce) : Nat := C.base + (1 - C.last) * C.half
def coQ (C : Ce) (d : Fd) : Int × Fd := slW (ceTo C) (hdC (C.num + 1) (encB C.now).size) (encB C.now) d
def coR (C : Ce) (d : Fd) : Int × Ce × Fd :=
  if C.dead then (7, C, d) else if 64 * (C.half - 1) < (encB C.now).size then (4, C, d)
  else if (coQ C d).1 ≠ 0 then ((coQ C d).1, { C with dead := true }, (coQ C d).2) else (0, { C with last := 1 - C.last, num := C.num + 1, was := C.now }, (coQ C d).2)
structure Ce.ok (C : Ce) : Prop where
  now : Es C.now
  was : Es C.was
  half : 2 ≤ C.half ∧ C.half ≤ 129
  base : C.base ≤ 4096
  last : C.last ≤ 1
  num : C.num < 1000000000000
def ceK (C : Ce) (d : Fd) (x : Nat → Option SO) : Hp := ⟨[(1, some ⟨true, cellB C 2 6 11⟩), (2, some ⟨true, devB d 8 9 10⟩), (3, none), (4, none), (5, none), (6, some ⟨true, .mp (.map C.now)⟩), (7, none), (8, some ⟨true, secB d.seen⟩), (9, some ⟨true, secB d.safe⟩), (10, some ⟨true, .pl (prow d.pend)⟩), (11, some ⟨true, .mp (.map C.was)⟩)], x⟩
set_option maxHeartbeats 2000000 in
theorem commitW {m t : Nat} (hC : C.ok) (hP : Pl d m t) (ht : t + 1000 < 1000000) : fnVC CT mCCommit [.ptr 1 0] (ceH C d x) 8 fun v H' n' => Sub 8 ⟨[(0, .v (.int .i64 (coR C d).1))], ceK (coR C d).2.1 (coR C d).2.2 x, 12⟩ ⟨[(0, v)], H', n'⟩ := by
  obtain ⟨hE, hW, ⟨hh1, hh2⟩, hbs, hla, hnu⟩ := hC
  unfold mCCommit
  rw [show ceH C d x = ⟨ceL C d, x⟩ from rfl]
  unfold ceL devL cellB
  simp -implicitDefEqProofs only [↓fnVC, initTm]
  by_cases c1 : C.dead = true
  · rw [c1]
    simp -implicitDefEqProofs only [go_sem]
    rw [show coR C d = (7, C, d) from if_pos c1]
    unfold ceK cellB
    refine sub_mk [(8, 3), (9, 4), (10, 5), (11, 7)] rfl rfl rfl ?_
    simp only [tmSub, hpSub, objSub, eqTm, eqHp, rn, lk, SV.ren, SV.renC, SV.renB, SV.renA, ren_ints, ren_strs, ren_pl, ren_svs, SV.v.injEq, Value.int.injEq, Body.ints.injEq, SV.ptr.injEq, SV.sl.injEq, Value.string.injEq, Value.bool.injEq, List.map_cons, List.map_nil, forall_const, Nat.reduceLT, Nat.lt_add_one, imp_self, true_and, and_true, and_self, ob_some, get_mk, lk_cons, ↓reduceIte, Nat.reduceEqDiff, ne_eq, not_true_eq_false, not_false_eq_true, Nat.one_ne_zero, Nat.zero_ne_one, Nat.succ_ne_self, Nat.reduceAdd, Bool.false_eq_true, false_implies, implies_true, reduceCtorEq]
    rw [c1]
    repeat' (first | rfl | apply And.intro)
  have c1' : C.dead = false := by simpa using c1
  rw [c1']
  simp -implicitDefEqProofs only [go_sem]
  refine at_call tcbytes (bytesS (i := 6) (by rfl) rfl (by decide) hE) ?_
  simp -implicitDefEqProofs only [go_sem]
  refine in_call mixT tCroom ?_
  unfold mCroom
  simp -implicitDefEqProofs only [↓fnVC, initTm]
  have w1 : IntKind.i64.wrap ((C.half : Int) - 1) = ((C.half - 1 : Nat) : Int) := by rw [wrap_i64 (by omega) (by omega)]; omega
  have w2 : IntKind.i64.wrap (64 * ((C.half - 1 : Nat) : Int)) = ((64 * (C.half - 1) : Nat) : Int) := by rw [wrap_i64 (by omega) (by omega)]; omega
  simp -implicitDefEqProofs only [go_sem, w1, w2]
  by_cases c2 : 64 * (C.half - 1) < (encB C.now).size
  · have b2 : decide (((encB C.now).size : Int) > ((64 * (C.half - 1) : Nat) : Int)) = true := decide_eq_true (by omega)
    simp -implicitDefEqProofs only [go_sem, b2]
    rw [show coR C d = (4, C, d) by unfold coR; rw [if_neg c1, if_pos c2]]
    unfold ceK cellB
    refine sub_mk [(8, 3), (9, 4), (10, 5), (11, 7)] rfl rfl rfl ?_
    simp only [tmSub, hpSub, objSub, eqTm, eqHp, rn, lk, SV.ren, SV.renC, SV.renB, SV.renA, ren_ints, ren_strs, ren_pl, ren_svs, SV.v.injEq, Value.int.injEq, Body.ints.injEq, SV.ptr.injEq, SV.sl.injEq, Value.string.injEq, Value.bool.injEq, List.map_cons, List.map_nil, forall_const, Nat.reduceLT, Nat.lt_add_one, imp_self, true_and, and_true, and_self, ob_some, get_mk, lk_cons, ↓reduceIte, Nat.reduceEqDiff, ne_eq, not_true_eq_false, not_false_eq_true, Nat.one_ne_zero, Nat.zero_ne_one, Nat.succ_ne_self, Nat.reduceAdd, Bool.false_eq_true, false_implies, implies_true, reduceCtorEq]
    rw [c1']
    repeat' (first | rfl | apply And.intro)
  have b2 : decide (((encB C.now).size : Int) > ((64 * (C.half - 1) : Nat) : Int)) = false := decide_eq_false (by omega)
  have b3 : decide ((C.num : Int) ≥ 9223372036854775806) = false := decide_eq_false (by omega)
  have w3 : IntKind.i64.wrap (1 - (C.last : Int)) = ((1 - C.last : Nat) : Int) := by rw [wrap_i64 (by omega) (by omega)]; omega
  have w4 : IntKind.i64.wrap ((C.num : Int) + 1) = ((C.num + 1 : Nat) : Int) := by rw [wrap_i64 (by omega) (by omega)]; omega
  simp -implicitDefEqProofs only [go_sem, b2, b3, w3, w4]
  have hsz : (encB C.now).size < 4294967296 := by omega
  generalize hs : encB C.now = sB at *
  refine in_call mixT tWEight ?_
  unfold mWEight
  simp -implicitDefEqProofs only [↓fnVC, initTm]
  simp -implicitDefEqProofs only [go_sem]
  refine at_call tWNumber (wNum0S (i := 8) (k := 8) (y := C.num + 1) (by rfl) (by decide) (by decide) (by decide) (by omega) (fun h => absurd h (by decide))) ?_
  simp -implicitDefEqProofs only [go_sem]
  refine at_call tWFour (wFourS (i := 8) (r := 9) (y := sB.size) (bs := be (C.num + 1) 8) hsz (by rw [be_len]; decide) (by rfl) (by rfl) (by decide) (by decide) (by decide) (by decide)) ?_
  simp -implicitDefEqProofs only [go_sem, w4]
  refine in_call mixT tWEight ?_
  unfold mWEight
  simp -implicitDefEqProofs only [↓fnVC, initTm]
  simp -implicitDefEqProofs only [go_sem]
  refine at_call tWNumber (wNumS (i := 8) (r := 10) (k := 8) (y := C.num + 1) (bs := be (C.num + 1) 8 ++ be sB.size 4) (bad := false) (by rfl) (by rfl) (by decide) (by decide) (by decide) (by decide) (by decide) (by omega) (fun h => absurd h (by decide)) (by rw [List.length_append, be_len, be_len]; decide)) ?_
  simp -implicitDefEqProofs only [go_sem]
  refine at_call tWBytes (wBytesS (i := 8) (r := 11) (bs := be (C.num + 1) 8 ++ be sB.size 4 ++ be (C.num + 1) 8) (bad := false) (by rfl) (by rfl) (by decide) rfl) ?_
  rw [if_neg Bool.false_ne_true, show tx (be (C.num + 1) 8 ++ be sB.size 4 ++ be (C.num + 1) 8) = hdC (C.num + 1) sB.size from rfl]
  simp -implicitDefEqProofs only [go_sem]
  refine in_call mixT tCfirst ?_
  unfold mCfirst
  simp -implicitDefEqProofs only [↓fnVC, initTm]
  have hm : (1 - C.last) * C.half ≤ 129 := by
    have : 1 - C.last ≤ 1 := by omega
    calc (1 - C.last) * C.half ≤ 1 * C.half := Nat.mul_le_mul_right _ this
      _ ≤ 129 := by omega
  have w5 : IntKind.i64.wrap (((1 - C.last : Nat) : Int) * (C.half : Int)) = (((1 - C.last) * C.half : Nat) : Int) := by
    rw [← Int.natCast_mul]; exact wrap_i64 (by omega) (by omega)
  have w6 : IntKind.i64.wrap ((C.base : Int) + (((1 - C.last) * C.half : Nat) : Int)) = ((ceTo C : Nat) : Int) := by
    unfold ceTo; rw [wrap_i64 (by omega) (by omega)]; omega
  have hto : ceTo C ≤ 1000000 := by unfold ceTo; omega
  simp -implicitDefEqProofs only [go_sem, w5, w6]
  have hq0 : coQ C d = slW (ceTo C) (hdC (C.num + 1) sB.size) sB d := by unfold coQ; rw [hs]
  obtain ⟨⟨e, d'⟩, hq⟩ : ∃ q, slW (ceTo C) (hdC (C.num + 1) sB.size) sB d = q := ⟨_, rfl⟩
  rw [hq] at hq0
  refine at_call tCwrite (cwriteS (i := 1) (D := 2) (a := 3) (b := 4) (c := 5) (M := 6) (W := 7) (C := { C with dead := false }) ⟨by rfl, by rfl, by rfl, by rfl, by rfl, by rfl, by rfl, by decide, rfl, rfl⟩ hP ht (by rw [← hs]; exact encB_pos) (by omega) (by rw [hdC_size]; decide) (by rw [hdC_size]; decide) hto (by decide) hq) ?_
  by_cases c3 : e = 0
  · have b4 : decide (e = 0) = true := decide_eq_true c3
    unfold cellB
    simp -implicitDefEqProofs only [go_sem, b4]
    refine at_ext (enters_mk Tryz.func39 rfl rfl) (cloneT (i := 6) (by rfl) rfl (by decide)) ?_
    simp -implicitDefEqProofs only [go_sem, b4, w4]
    refine ⟨rfl, ?_⟩
    rw [show coR C d = (0, { C with last := 1 - C.last, num := C.num + 1, was := C.now }, d') by unfold coR; rw [if_neg c1, hs, if_neg c2, hq0, if_neg (fun h => h c3)]]
    unfold ceK cellB
    refine sub_mk [(8, 12), (9, 13), (10, 14), (11, 15)] rfl rfl rfl ?_
    simp only [tmSub, hpSub, objSub, eqTm, eqHp, rn, lk, SV.ren, SV.renC, SV.renB, SV.renA, ren_ints, ren_strs, ren_pl, ren_svs, SV.v.injEq, Value.int.injEq, Body.ints.injEq, SV.ptr.injEq, SV.sl.injEq, Value.string.injEq, Value.bool.injEq, List.map_cons, List.map_nil, forall_const, Nat.reduceLT, Nat.lt_add_one, imp_self, true_and, and_true, and_self, ob_some, get_mk, lk_cons, ↓reduceIte, Nat.reduceEqDiff, ne_eq, not_true_eq_false, not_false_eq_true, Nat.one_ne_zero, Nat.zero_ne_one, Nat.succ_ne_self, Nat.reduceAdd, Bool.false_eq_true, false_implies, implies_true, reduceCtorEq]
    rw [c1']
    repeat' (first | rfl | apply And.intro)
  · have b4 : decide (e = 0) = false := decide_eq_false c3
    unfold cellB
    simp -implicitDefEqProofs only [go_sem, b4]
    rw [show coR C d = (e, { C with dead := true }, d') by unfold coR; rw [if_neg c1, hs, if_neg c2, hq0, if_pos c3]]
    unfold ceK cellB
    refine sub_mk [(8, 12), (9, 13), (10, 14), (11, 7)] rfl rfl rfl ?_
    simp only [tmSub, hpSub, objSub, eqTm, eqHp, rn, lk, SV.ren, SV.renC, SV.renB, SV.renA, ren_ints, ren_strs, ren_pl, ren_svs, SV.v.injEq, Value.int.injEq, Body.ints.injEq, SV.ptr.injEq, SV.sl.injEq, Value.string.injEq, Value.bool.injEq, List.map_cons, List.map_nil, forall_const, Nat.reduceLT, Nat.lt_add_one, imp_self, true_and, and_true, and_self, ob_some, get_mk, lk_cons, ↓reduceIte, Nat.reduceEqDiff, ne_eq, not_true_eq_false, not_false_eq_true, Nat.one_ne_zero, Nat.zero_ne_one, Nat.succ_ne_self, Nat.reduceAdd, Bool.false_eq_true, false_implies, implies_true, reduceCtorEq]
    repeat' (first | rfl | apply And.intro)
end
section
/- Trees, at this program. -/
set_option linter.unusedVariables false
set_option linter.unusedSimpArgs false
set_option maxRecDepth 100000
open Go.Proofs
variable {H : Hp} {n : Nat} {x : Nat → Option SO}
theorem leftS {s : ByteArray} {e : Int} {i : Nat} (hg : H.get i = some (rdO s e)) : SpecAt Tryz.prog nRLeft [.ptr i 0] H n (.v (.int .i64 (s.size : Nat))) H n := okT.pure tRLeft (by
  unfold mRLeft
  unfold rdO at hg
  simp -implicitDefEqProofs only [↓fnVC, initTm]
  simp -implicitDefEqProofs only [go_sem, hg])
theorem failW {s : ByteArray} {e f : Int} : fnVC CT mRFail [.ptr 1 0, .v (.int .i64 f)] ⟨[(1, some (rdO s e))], x⟩ 2 fun v H' n' => Sub 2 ⟨[(0, .tup [])], ⟨[(1, some (rdO s (failE e f)))], x⟩, 2⟩ ⟨[(0, v)], H', n'⟩ := by
  unfold mRFail
  simp -implicitDefEqProofs only [↓fnVC, initTm]
  simp -implicitDefEqProofs only [go_sem]
  refine at_call tRErr (errS (i := 1) (by rfl)) ?_
  unfold failE
  by_cases he : e = 0
  · have g0 : decide (e = 0) = true := decide_eq_true he
    rw [if_pos he]
    simp -implicitDefEqProofs only [go_sem, g0, rdO]
    refine sub_mk [] rfl rfl rfl ?_
    simp only [tmSub, hpSub, objSub, eqTm, eqHp, rn, lk, SV.ren, SV.renC, SV.renB, SV.renA, ren_ints, ren_strs, ren_pl, ren_svs, SV.v.injEq, Value.int.injEq, Body.ints.injEq, SV.ptr.injEq, SV.sl.injEq, Value.string.injEq, Value.bool.injEq, List.map_cons, List.map_nil, forall_const, Nat.reduceLT, Nat.lt_add_one, imp_self, true_and, and_true, and_self, ob_some, get_mk, lk_cons, ↓reduceIte, Nat.reduceEqDiff, ne_eq, not_true_eq_false, not_false_eq_true, Nat.one_ne_zero, Nat.zero_ne_one, Nat.succ_ne_self, Nat.reduceAdd, Bool.false_eq_true, false_implies, implies_true, reduceCtorEq]
  · have g0 : decide (e = 0) = false := decide_eq_false he
    rw [if_neg he]
    simp -implicitDefEqProofs only [go_sem, g0, rdO]
    refine sub_mk [] rfl rfl rfl ?_
    simp only [tmSub, hpSub, objSub, eqTm, eqHp, rn, lk, SV.ren, SV.renC, SV.renB, SV.renA, ren_ints, ren_strs, ren_pl, ren_svs, SV.v.injEq, Value.int.injEq, Body.ints.injEq, SV.ptr.injEq, SV.sl.injEq, Value.string.injEq, Value.bool.injEq, List.map_cons, List.map_nil, forall_const, Nat.reduceLT, Nat.lt_add_one, imp_self, true_and, and_true, and_self, ob_some, get_mk, lk_cons, ↓reduceIte, Nat.reduceEqDiff, ne_eq, not_true_eq_false, not_false_eq_true, Nat.one_ne_zero, Nat.zero_ne_one, Nat.succ_ne_self, Nat.reduceAdd, Bool.false_eq_true, false_implies, implies_true, reduceCtorEq]
theorem failSp {s : ByteArray} {e f : Int} {i : Nat} (hg : H.get i = some (rdO s e)) (hi : 0 < i ∧ i < 1000) :
    SpecAt Tryz.prog nRFail [.ptr i 0, .v (.int .i64 f)] H n (.tup []) ⟨(i, some (rdO s (failE e f))) :: H.l, H.x⟩ n := by
  have := lift (n := n) (okT.spec tRFail (failW (x := H.x) (s := s) (e := e) (f := f))) [(1, i)] rfl rfl rfl (by omega) rfl rfl
    ⟨sub_wr rfl hi.1 hi.2 hg rfl, trivial⟩ (by simp [apartB, apart1, rn, lk]) (by simp [wrNZ, rn, lk]; omega) (by omega)
  exact this
variable {H : Hp} {n : Nat} {x : Nat → Option SO}
theorem eight_ok {s : ByteArray} {e : Int} : numOK (rawT s (preE s e) 8) := by
  unfold rawT
  by_cases h : preE s e ≠ 0 ∨ s.size < 8
  · rw [if_pos h]; exact .inl (by decide)
  · rw [if_neg h]
    have h1 : preE s e = 0 := by
      by_cases h0 : preE s e = 0
      · exact h0
      · exact absurd (.inl h0) h
    have h2 : 8 ≤ s.size := by omega
    have h3 : (nbs s).getD 0 0 < 128 := by
      unfold preE at h1
      split at h1
      · omega
      · rename_i hn
        by_cases h4 : 128 ≤ (nbs s).getD 0 0
        · exact absurd ⟨h1, h2, h4⟩ hn
        · omega
    refine .inr ⟨by rw [ByteArray.size_extract]; omega, ?_⟩
    have e1 : nbs (s.extract 0 8) = (nbs s).take 8 := by
      unfold nbs; simp [ByteArray.data_extract, List.extract_eq_take_drop, List.map_take]
    rw [e1, List.getD_eq_getElem?_getD, List.getElem?_take, if_pos (by decide), ← List.getD_eq_getElem?_getD]; exact h3
theorem eightSp {s : ByteArray} {e : Int} {i : Nat} (hg : H.get i = some (rdO s e)) (hi : 0 < i ∧ i < 1000) :
    SpecAt Tryz.prog nREight [.ptr i 0] H n (.v (.int .i64 (num (rawT s (preE s e) 8) : Nat))) ⟨(i, some (rdO (rawS s (preE s e) 8) (rawE s (preE s e) 8))) :: H.l, H.x⟩ n := by
  have := lift (n := n) (okT.spec tREight (args := [.ptr 1 0]) (H := ⟨[(1, some (rdO s e))], H.x⟩) (n := 2) (v := .v (.int .i64 (num (rawT s (preE s e) 8) : Nat))) (H' := ⟨[(1, some (rdO (rawS s (preE s e) 8) (rawE s (preE s e) 8)))], H.x⟩) (n' := 2) (by
    have hok := eight_ok (s := s) (e := e)
    unfold mREight
    simp -implicitDefEqProofs only [↓fnVC, initTm]
    simp -implicitDefEqProofs only [go_sem]
    refine at_call tRLeft (leftS (i := 1) (by rfl)) ?_
    by_cases h8 : 8 ≤ s.size
    · have g0 : decide ((s.size : Int) ≥ 8) = true := decide_eq_true (by omega)
      have hb := bts_getD (t := s) (j := 0) (by omega)
      by_cases h128 : 128 ≤ (nbs s).getD 0 0
      · have g1 : decide ((((nbs s).getD 0 0 : Nat) : Int) > 127) = true := decide_eq_true (by omega)
        have hE : failE e 3 = preE s e := by
          unfold failE preE
          by_cases h0 : e = 0
          · rw [if_pos h0, if_pos ⟨h0, h8, h128⟩]
          · rw [if_neg h0, if_neg (fun h => h0 h.1)]
        simp -implicitDefEqProofs only [go_sem, g0, rdO, hb, g1]
        refine ⟨by omega, ?_⟩
        refine at_call tRFail (failSp (i := 1) (s := s) (e := e) (f := 3) (by rfl) (by decide)) ?_
        rw [hE]
        simp -implicitDefEqProofs only [go_sem]
        refine at_call tRNumber (numSp (i := 1) (k := 8) (s := s) (e := preE s e) (by rfl) (by decide) (by decide) hok) ?_
        simp -implicitDefEqProofs only [go_sem]
        refine sub_mk [] rfl rfl rfl ?_
        simp only [tmSub, hpSub, objSub, eqTm, eqHp, rn, lk, SV.ren, SV.renC, SV.renB, SV.renA, ren_ints, ren_strs, ren_pl, ren_svs, SV.v.injEq, Value.int.injEq, Body.ints.injEq, SV.ptr.injEq, SV.sl.injEq, Value.string.injEq, Value.bool.injEq, List.map_cons, List.map_nil, forall_const, Nat.reduceLT, Nat.lt_add_one, imp_self, true_and, and_true, and_self, ob_some, get_mk, lk_cons, ↓reduceIte, Nat.reduceEqDiff, ne_eq, not_true_eq_false, not_false_eq_true, Nat.one_ne_zero, Nat.zero_ne_one, Nat.succ_ne_self, Nat.reduceAdd, Bool.false_eq_true, false_implies, implies_true, reduceCtorEq]
        rfl
      · have g1 : decide ((((nbs s).getD 0 0 : Nat) : Int) > 127) = false := decide_eq_false (by omega)
        have hE : preE s e = e := by unfold preE; rw [if_neg (fun h => h128 h.2.2)]
        rw [hE] at hok ⊢
        simp -implicitDefEqProofs only [go_sem, g0, rdO, hb, g1]
        refine ⟨by omega, ?_⟩
        refine at_call tRNumber (numSp (i := 1) (k := 8) (s := s) (e := e) (by rfl) (by decide) (by decide) hok) ?_
        simp -implicitDefEqProofs only [go_sem]
        refine sub_mk [] rfl rfl rfl ?_
        simp only [tmSub, hpSub, objSub, eqTm, eqHp, rn, lk, SV.ren, SV.renC, SV.renB, SV.renA, ren_ints, ren_strs, ren_pl, ren_svs, SV.v.injEq, Value.int.injEq, Body.ints.injEq, SV.ptr.injEq, SV.sl.injEq, Value.string.injEq, Value.bool.injEq, List.map_cons, List.map_nil, forall_const, Nat.reduceLT, Nat.lt_add_one, imp_self, true_and, and_true, and_self, ob_some, get_mk, lk_cons, ↓reduceIte, Nat.reduceEqDiff, ne_eq, not_true_eq_false, not_false_eq_true, Nat.one_ne_zero, Nat.zero_ne_one, Nat.succ_ne_self, Nat.reduceAdd, Bool.false_eq_true, false_implies, implies_true, reduceCtorEq, rdO]
    · have g0 : decide ((s.size : Int) ≥ 8) = false := decide_eq_false (by omega)
      have hE : preE s e = e := by unfold preE; rw [if_neg (fun h => h8 h.2.1)]
      rw [hE] at hok ⊢
      simp -implicitDefEqProofs only [go_sem, g0]
      refine at_call tRNumber (numSp (i := 1) (k := 8) (by rfl) (by decide) (by decide) hok) ?_
      simp -implicitDefEqProofs only [go_sem]
      refine sub_mk [] rfl rfl rfl ?_
      simp only [tmSub, hpSub, objSub, eqTm, eqHp, rn, lk, SV.ren, SV.renC, SV.renB, SV.renA, ren_ints, ren_strs, ren_pl, ren_svs, SV.v.injEq, Value.int.injEq, Body.ints.injEq, SV.ptr.injEq, SV.sl.injEq, Value.string.injEq, Value.bool.injEq, List.map_cons, List.map_nil, forall_const, Nat.reduceLT, Nat.lt_add_one, imp_self, true_and, and_true, and_self, ob_some, get_mk, lk_cons, ↓reduceIte, Nat.reduceEqDiff, ne_eq, not_true_eq_false, not_false_eq_true, Nat.one_ne_zero, Nat.zero_ne_one, Nat.succ_ne_self, Nat.reduceAdd, Bool.false_eq_true, false_implies, implies_true, reduceCtorEq]
      rfl)) [(1, i)] rfl rfl rfl (by omega) rfl rfl
    ⟨sub_wr rfl hi.1 hi.2 hg rfl, trivial⟩ (by simp [apartB, apart1, rn, lk]) (by simp [wrNZ, rn, lk]; omega) (by omega)
  exact this
end
section
/- Cells: readers. -/
set_option linter.unusedVariables false
set_option linter.unusedSimpArgs false
set_option maxRecDepth 100000
open Go.Proofs
variable {H : Hp} {n : Nat} {x : Nat → Option SO} {i : Nat}
theorem rdOS {f : Nat} {m : MFn} {args : List SV} {v : SV} {s s' : ByteArray} {e e' : Int} (t : trFn Tryz.prog f = some m) (ha : ∀ π, args.map (SV.ren π) = args) (hlt : args.all (ltT 2) = true) (hv : ∀ π, v.ren π = v)
    (hm : ∀ x, fnVC CT m (.ptr 1 0 :: args) ⟨[(1, some (rdO s e))], x⟩ 2 fun w H' n' => Sub 2 ⟨[(0, v)], ⟨[(1, some (rdO s' e'))], x⟩, 2⟩ ⟨[(0, w)], H', n'⟩)
    (hg : H.get i = some (rdO s e)) (hi : 0 < i ∧ i < 1000) : SpecAt Tryz.prog f (.ptr i 0 :: args) H n v ⟨(i, some (rdO s' e')) :: H.l, H.x⟩ n := by
  have := lift (n := n) (okT.spec t (hm H.x)) [(1, i)] rfl rfl (by rw [List.all_cons, hlt]; rfl) (by omega) rfl rfl
    ⟨sub_wr rfl hi.1 hi.2 hg rfl, trivial⟩ (by simp [apartB, apart1, rn, lk]) (by simp [wrNZ, rn, lk]; omega) (by omega)
  rw [hv, List.map_cons, ha] at this
  exact this
theorem textS {nm rest : ByteArray} {most : Nat} (hn : nm.size ≤ most) (hm : most ≤ 65535) (hg : H.get i = some (rdO (tx (be nm.size 2) ++ (nm ++ rest)) 0)) (hi : 0 < i ∧ i < 1000) :
    SpecAt Tryz.prog nRText [.ptr i 0, .v (.int .i64 most)] H n (.v (.string nm)) ⟨(i, some (rdO rest 0)) :: H.l, H.x⟩ n := rdOS tRText (fun _ => rfl) rfl (fun _ => rfl) (by
  intro x
  have hA : (tx (be nm.size 2)).size = 2 := by rw [tx_sz, be_len]
  have hb : bts (tx (be nm.size 2)) = be nm.size 2 := btx be_bytes
  have hnum : num (tx (be nm.size 2)) = nm.size := num_be hb (by omega)
  have hz : (tx (be nm.size 2) ++ (nm ++ rest)).size = 2 + (nm.size + rest.size) := by rw [ByteArray.size_append, ByteArray.size_append, hA]
  have hz2 : (nm ++ rest).size = nm.size + rest.size := ByteArray.size_append
  have r1 : rawT (tx (be nm.size 2) ++ (nm ++ rest)) 0 2 = tx (be nm.size 2) := by unfold rawT; rw [if_neg (by omega)]; exact ex_a hA
  have r2 : rawS (tx (be nm.size 2) ++ (nm ++ rest)) 0 2 = nm ++ rest := by unfold rawS; rw [if_neg (by omega)]; exact ex_r hA
  have r3 : rawE (tx (be nm.size 2) ++ (nm ++ rest)) 0 2 = 0 := by unfold rawE; rw [if_neg (by omega), if_neg (by omega)]
  have q1 : rawT (nm ++ rest) 0 nm.size = nm := by unfold rawT; rw [if_neg (by omega)]; exact ex_a rfl
  have q2 : rawS (nm ++ rest) 0 nm.size = rest := by unfold rawS; rw [if_neg (by omega)]; exact ex_r rfl
  have q3 : rawE (nm ++ rest) 0 nm.size = 0 := by unfold rawE; rw [if_neg (by omega), if_neg (by omega)]
  unfold mRText
  simp -implicitDefEqProofs only [↓fnVC, initTm]
  simp -implicitDefEqProofs only [go_sem]
  refine at_call tRErr (errS (s := tx (be nm.size 2) ++ (nm ++ rest)) (e := 0) (by rfl)) ?_
  unfold rdO
  simp -implicitDefEqProofs only [go_sem]
  refine at_call tRTwo (twoS (i := 1) (s := tx (be nm.size 2) ++ (nm ++ rest)) (e := 0) (by rfl) (by decide)) ?_
  rw [r1, r2, r3, hnum]
  have mx : max (most : Int) 0 = (most : Int) := by omega
  have b1 : decide ((nm.size : Int) > (most : Int)) = false := decide_eq_false (by omega)
  simp -implicitDefEqProofs only [go_sem, mx, b1]
  refine at_call tRRaw (rawSp (i := 1) (s := nm ++ rest) (e := 0) (k := nm.size) (by rfl) (by decide) (by omega)) ?_
  rw [q1, q2, q3]
  unfold rdO
  simp -implicitDefEqProofs only [go_sem]
  refine sub_mk [] rfl rfl rfl ?_
  simp only [tmSub, hpSub, objSub, eqTm, eqHp, rn, lk, SV.ren, SV.renC, SV.renB, SV.renA, ren_ints, ren_strs, ren_pl, ren_svs, SV.v.injEq, Value.int.injEq, Body.ints.injEq, SV.ptr.injEq, SV.sl.injEq, Value.string.injEq, Value.bool.injEq, List.map_cons, List.map_nil, forall_const, Nat.reduceLT, Nat.lt_add_one, imp_self, true_and, and_true, and_self, ob_some, get_mk, lk_cons, ↓reduceIte, Nat.reduceEqDiff, ne_eq, not_true_eq_false, not_false_eq_true, Nat.one_ne_zero, Nat.zero_ne_one, Nat.succ_ne_self, Nat.reduceAdd, Bool.false_eq_true, false_implies, implies_true, reduceCtorEq]) hg hi
theorem endS0 (hg : H.get i = some (rdO ⟨#[]⟩ 0)) (hi : 0 < i ∧ i < 1000) : SpecAt Tryz.prog nREnd [.ptr i 0] H n (.v (.int .i64 0)) ⟨(i, some (rdO ⟨#[]⟩ 0)) :: H.l, H.x⟩ n := rdOS (args := []) tREnd (fun _ => rfl) rfl (fun _ => rfl) (by
  intro x
  unfold mREnd
  simp -implicitDefEqProofs only [↓fnVC, initTm]
  unfold rdO
  simp -implicitDefEqProofs only [go_sem]
  refine in_call mixT tRLeft ?_
  unfold mRLeft
  simp -implicitDefEqProofs only [↓fnVC, initTm]
  simp -implicitDefEqProofs only [go_sem]
  have b1 : decide (((#[] : Array UInt8).size : Int) > 0) = false := rfl
  simp -implicitDefEqProofs only [go_sem, b1]
  refine at_call tRErr (errS (s := ⟨#[]⟩) (e := 0) (by rfl)) ?_
  simp -implicitDefEqProofs only [go_sem]
  refine sub_mk [] rfl rfl rfl ?_
  simp only [tmSub, hpSub, objSub, eqTm, eqHp, rn, lk, SV.ren, SV.renC, SV.renB, SV.renA, ren_ints, ren_strs, ren_pl, ren_svs, SV.v.injEq, Value.int.injEq, Body.ints.injEq, SV.ptr.injEq, SV.sl.injEq, Value.string.injEq, Value.bool.injEq, List.map_cons, List.map_nil, forall_const, Nat.reduceLT, Nat.lt_add_one, imp_self, true_and, and_true, and_self, ob_some, get_mk, lk_cons, ↓reduceIte, Nat.reduceEqDiff, ne_eq, not_true_eq_false, not_false_eq_true, Nat.one_ne_zero, Nat.zero_ne_one, Nat.succ_ne_self, Nat.reduceAdd, Bool.false_eq_true, false_implies, implies_true, reduceCtorEq]) hg hi
end
end Go.Sx
/- Cells: names rise. -/
set_option linter.unusedVariables false
set_option linter.unusedSimpArgs false
set_option maxRecDepth 100000
namespace Go.Sx
open Go.Proofs
theorem srtL {es : List (Value × Value)} : (srtK es).map (fun s => s.data.toList) = (es.map keyB).mergeSort fun x y => decide (x ≤ y) := by
  unfold srtK
  rw [List.map_map]
  exact List.map_id _
theorem srt_pw {es : List (Value × Value)} : ((srtK es).map fun s => s.data.toList).Pairwise (· ≤ ·) := by
  rw [srtL]
  have := List.pairwise_mergeSort (le := fun x y : List UInt8 => decide (x ≤ y)) (fun a b c h1 h2 => by
    simp only [decide_eq_true_eq] at h1 h2 ⊢; exact List.le_trans h1 h2) (fun a b => by
    rcases List.le_total a b with h | h
    · simp [h]
    · simp [h]) (es.map keyB)
  exact this.imp fun h => of_decide_eq_true h
theorem srt_nd {es : List (Value × Value)} (h : (es.map keyB).Nodup) : (srtK es).Nodup := by
  have : ((srtK es).map fun s => s.data.toList).Nodup := by
    rw [srtL]
    exact (List.mergeSort_perm _ _).nodup_iff.2 h
  exact List.Pairwise.imp (fun h e => h (by rw [e])) (List.pairwise_map.1 this)
theorem sle_ff {s t : ByteArray} (h : t.data.toList ≤ s.data.toList) (hn : s ≠ t) : sle s t = false := by
  unfold sle
  rw [bytesLess_eq]
  have h1 : s.toList = s.data.toList := Go.Lib.toList_data s
  have h2 : t.toList = t.data.toList := Go.Lib.toList_data t
  rw [h1, h2]
  have h3 : decide (s.data.toList < t.data.toList) = false := decide_eq_false (List.not_lt.2 h)
  rw [h3, Bool.false_or]
  refine Bool.eq_false_iff.2 fun e => hn ?_
  have e := eq_of_beq e
  exact ByteArray.ext (Array.toList_inj.1 e)
theorem sle_emp {s : ByteArray} (h : s.size ≠ 0) : sle s ⟨#[]⟩ = false :=
  sle_ff (s := s) (t := ⟨#[]⟩) (List.nil_le _) (fun e => h (by rw [e]; rfl))
theorem nm_get {es : List (Value × Value)} {j : Nat} (h : j < es.length) : (srtK es)[j]? = some (nmAt es j) := by
  unfold nmAt
  rw [List.getD_eq_getElem?_getD, List.getElem?_eq_getElem (by rw [srtK_len]; exact h)]
  rfl
theorem nm_le {es : List (Value × Value)} {i j : Nat} (hij : i < j) (h : j < es.length) : (nmAt es i).data.toList ≤ (nmAt es j).data.toList := by
  have hp := srt_pw (es := es)
  rw [List.pairwise_iff_getElem] at hp
  have := hp i j (by rw [List.length_map, srtK_len]; omega) (by rw [List.length_map, srtK_len]; omega) hij
  rw [List.getElem_map, List.getElem_map] at this
  have e1 : (srtK es)[i]'(by rw [srtK_len]; omega) = nmAt es i := by
    have := nm_get (es := es) (j := i) (by omega); rw [List.getElem?_eq_getElem (by rw [srtK_len]; omega)] at this; exact Option.some.inj this
  have e2 : (srtK es)[j]'(by rw [srtK_len]; omega) = nmAt es j := by
    have := nm_get (es := es) h; rw [List.getElem?_eq_getElem (by rw [srtK_len]; omega)] at this; exact Option.some.inj this
  rw [e1, e2] at this
  exact this
theorem nm_ne {es : List (Value × Value)} (hn : (es.map keyB).Nodup) {i j : Nat} (hij : i < j) (h : j < es.length) : nmAt es j ≠ nmAt es i := by
  have hp := srt_nd hn
  unfold List.Nodup at hp
  rw [List.pairwise_iff_getElem] at hp
  have := hp i j (by rw [srtK_len]; omega) (by rw [srtK_len]; omega) hij
  have e1 : (srtK es)[i]'(by rw [srtK_len]; omega) = nmAt es i := by
    have := nm_get (es := es) (j := i) (by omega); rw [List.getElem?_eq_getElem (by rw [srtK_len]; omega)] at this; exact Option.some.inj this
  have e2 : (srtK es)[j]'(by rw [srtK_len]; omega) = nmAt es j := by
    have := nm_get (es := es) h; rw [List.getElem?_eq_getElem (by rw [srtK_len]; omega)] at this; exact Option.some.inj this
  rw [e1, e2] at this
  exact fun e => this e.symm
theorem Es.nmpos {es : List (Value × Value)} (h : Es es) {j : Nat} (hj : j < es.length) : (nmAt es j).size ≠ 0 := by
  intro e
  have hm := srtK_mem (nmAt_mem hj)
  obtain ⟨e', he', hk'⟩ := List.mem_map.1 hm
  refine h.ne e' he' ?_
  rw [hk', ba_zero e]
theorem Es.sle_ff {es : List (Value × Value)} (h : Es es) {j : Nat} (hj : j < es.length) : sle (nmAt es j) (if j = 0 then ⟨#[]⟩ else nmAt es (j - 1)) = false := by
  by_cases h0 : j = 0
  · rw [if_pos h0]; exact sle_emp (h.nmpos hj)
  · rw [if_neg h0]; exact Sx.sle_ff (nm_le (by omega) hj) (nm_ne h.nd (by omega) hj)
theorem up_new {f : ByteArray → Value} {s : ByteArray} {y : Value} : ∀ {l : List ByteArray}, s ∉ l → upS (l.map fun nm => (.string nm, f nm)) s y = (l.map fun nm => (.string nm, f nm)) ++ [(.string s, y)]
  | [], _ => rfl
  | t :: l, h => by
    have h1 : t ≠ s := fun e => h (by rw [e]; exact List.mem_cons_self ..)
    have h2 : s ∉ l := fun e => h (List.mem_cons_of_mem _ e)
    rw [List.map_cons]
    unfold upS
    rw [if_neg (by unfold keyIs; rw [decide_eq_true_eq]; exact h1), up_new h2]
    rfl
def srtE (es : List (Value × Value)) : List (Value × Value) := (srtK es).map fun nm => (.string nm, .agg ⟨[.string (tOf es nm)]⟩)
theorem srtE_up {es : List (Value × Value)} (h : (es.map keyB).Nodup) {j : Nat} (hj : j < es.length) :
    upS ((srtE es).take j) (nmAt es j) (.agg ⟨[.string (tOf es (nmAt es j))]⟩) = (srtE es).take (j + 1) := by
  have hn : nmAt es j ∉ (srtK es).take j := by
    intro hm
    obtain ⟨i, hi, e⟩ := List.getElem_of_mem hm
    rw [List.length_take] at hi
    rw [List.getElem_take] at e
    have e1 : (srtK es)[i]'(by omega) = nmAt es i := by
      have := nm_get (es := es) (j := i) (by omega); rw [List.getElem?_eq_getElem (by omega)] at this; exact Option.some.inj this
    rw [e1] at e
    exact nm_ne h (by omega) hj e.symm
  unfold srtE
  rw [← List.map_take, up_new hn, ← List.map_take, List.take_add_one, nm_get hj]
  simp
theorem srtE_keys {es : List (Value × Value)} {j : Nat} : keysS ((srtE es).take j) = true := by
  unfold keysS srtE
  rw [List.all_eq_true]
  intro e he
  obtain ⟨nm, _, rfl⟩ := List.mem_map.1 (List.mem_of_mem_take he)
  rfl
theorem srtE_len {es : List (Value × Value)} : (srtE es).length = es.length := by unfold srtE; rw [List.length_map, srtK_len]
end Go.Sx

/- Cells: a content is read. -/
set_option linter.unusedVariables false
set_option linter.unusedSimpArgs false
set_option maxRecDepth 100000
namespace Go.Sx
attribute [local go_sem ↓] bind_mk intsB_mk strsB_mk svB_mk fnVC ob_some vc_skip vc_exit vc_ret vc_seq vc_block kSeq_normal kSeq_exit kSeq_ret kBlock_normal kBlock_exit kBlock_ret vc_reg vc_regD vc_cond condK_true condK_false vc_loop kLoop_exit kLoop_ret kRoll_normal kRoll_exit kRoll_ret vcOps_nil vcOps_cons gd_bool gd_undef put_some put_none vcT_fin vcT_pure vcT_act vcT_acts vcT_stop stab_none stab_some stabM_nil stabM_cons stabO_ld stabO_ldn stabO_slP stabO_b2s fldOf_ai fldOf_agg fldOf_ait fldOf_aggt intsOf_nil intsOf_cons strsOf_nil strsOf_cons c_omap ob_if lk_nil lk_cons ev_t ev_k z_mov z_pick z_bin z_binB z_binP z_un z_r2s z_conv z_s2b z_b2s z_mkM z_luM z_upM z_lenM lenMk_mp lenMk_nil plsOf_v z_delM asM_so plV_v plV_agg mpOf_mp mpOf_nil mpUp_mp asM_mp luV_ok luV_v z_allocT aggOf_mk z_boxT z_alloc z_bld z_bldI z_rowI z_rowS z_ld z_ldn z_st z_stn asN_ptr asN_fn z_nilck z_fld z_fadr z_idxA z_idxP z_idxS z_idxV z_slS z_slL z_slP z_mk z_lenS z_lenL z_app appC_ints appC_pl appC_sv appC_strs isS_strs loose_ints loose_pl loose_sv z_slM z_callv callvK_fn callvK_f callvK_yl vc_rangeF rfEnd_eq rfGo_none rfGo_ret rfGo_exit yGo_mk yEnd_n yEnd_r yEnd_e yRdy_mk yMid_n putPs_nil putPs_cons leaf_v leaf_ptr leaf_sl leaf_yl leaf_mp z_appS z_appST z_appZ z_cpyS z_mkfn reps_int reps_str z_rowV z_slnil nilK_zero z_cpy z_call asT_tup z_extT z_box boxOf_ai boxOf_agg boxOf_int boxOf_str boxOf_bool boxOf_ptr boxOf_sl sbin_int sbin_str sbinB_mk sbinP_nn sbinP_pn sbinP_np i_add i_sub i_mul i_quo i_rem i_and i_or i_xor i_andNot i_shl i_shr i_eql i_neq i_lss i_leq i_gtr i_geq st_add st_eql st_neq st_lss st_leq st_gtr st_geq bo_eql bo_neq pt_eql pt_neq un_neg un_xor un_not asI_mk asB_mk asS_mk asP_mk asSl_mk asBy_mk bnd_none bnd_some get_mk hput_mk hdel_mk kill_eq wrOf_eq rowOf_eq rsvs_0 rsvs_1 rsvs_2 rsvs_3 rsv_t rsv_c1 rsv_cn nt_v nt_ptr nt_sl nt_agg nt_ai get_ints get_strs get_pl get_sv getN_ints getN_sv set_ints set_strs set_sv setN_ints setN_sv part_ints part_strs part_sv cat_ints cat_strs cat_sv over_ints over_strs over_sv ones_ints ones_strs evs_nil evs_cons condK_eqt condK_eqf det_callP V_ns V_nn V_gs V_gn obC_mk fresh_ev freshT_ev freshR_ev setN_plagg setN_intsv setN_svai setN_svagg over_intsv set_pl setN_pl setN_plai getN_pl getN_strs part_pl cat_pl over_pl over_plints z_mm
attribute [local go_sem] initTm ne_eq not_true_eq_false not_false_eq_true true_and and_true List.length_cons List.length_nil Int.toNat_natCast Nat.add_zero Nat.zero_add Nat.mul_one List.getElem?_cons_zero List.drop_zero List.take_length List.take_succ_cons List.take_zero List.take_nil List.drop_succ_cons Option.map_some Nat.le_refl implies_true List.getElem?_cons_succ decide_true decide_false Bool.not_true Bool.not_false beq_self_eq_true Nat.succ_ne_self Nat.one_ne_zero Nat.zero_ne_one vk_mk hk_mk nk_mk tok_eq plsOf_map intsOf_map bodyOf_pl bodyOf_ints bodyOf_strs bodyOf_sv part_aggv part_agg part_ai part_int part_str part_bool part_sl part_ptr part_nil numsOf_map u_int u_str u_bool u_pnil u_sl u_ptr u_oci u_ocs evq_nil evq_cons fillS_nil fillS_cons u_ocb ones_pl cells_sv cells_ints cells_strs cells_pl smms_nil smms_cons smm_min smm_max plsOf_nil List.nil_append List.all_cons List.all_nil Bool.and_self Bool.true_and Bool.and_true zws_len zw_len zi_len List.set_cons_zero List.set_cons_succ List.flatMap_cons List.flatMap_nil List.append_nil
attribute [local go_sem_proc] Nat.reduceEqDiff Nat.reduceAdd Nat.reduceMul Nat.reduceLT Nat.reduceLeDiff Nat.reduceSub Int.reduceToNat Int.reduceLE Int.reduceLT reduceCtorEq Int.reduceEq Int.reduceGT Int.reduceGE Int.reduceNeg
attribute [local go_sem_proc ↓] reduceIte
section
open Go.Proofs
variable {H : Hp} {n : Nat} {x : Nat → Option SO} {i : Nat}
def suf (es : List (Value × Value)) : List ByteArray → ByteArray
  | [] => ⟨#[]⟩
  | nm :: l => tx (be nm.size 2) ++ (nm ++ (tx (be (tOf es nm).size 2) ++ (tOf es nm ++ suf es l)))
theorem enc_suf {es : List (Value × Value)} : ∀ j, j ≤ es.length → tx (encL es j) ++ suf es ((srtK es).drop j) = tx (be es.length 2) ++ suf es (srtK es)
  | 0, _ => rfl
  | j + 1, h => by
    rw [← enc_suf j (by omega)]
    have hd : (srtK es).drop j = nmAt es j :: (srtK es).drop (j + 1) := by
      have hl : j < (srtK es).length := by rw [srtK_len]; omega
      rw [List.drop_eq_getElem_cons hl]
      congr 1
      unfold nmAt
      rw [List.getD_eq_getElem?_getD, List.getElem?_eq_getElem hl]
      rfl
    rw [hd]
    show tx (encL es j ++ (be (nmAt es j).size 2 ++ bts (nmAt es j)) ++ (be (tOf es (nmAt es j)).size 2 ++ bts (tOf es (nmAt es j)))) ++ _ = _ ++ (tx (be (nmAt es j).size 2) ++ (nmAt es j ++ (tx (be (tOf es (nmAt es j)).size 2) ++ (tOf es (nmAt es j) ++ suf es _))))
    simp only [tx_app, tx_bts, ByteArray.append_assoc]
theorem encB_suf {es : List (Value × Value)} : encB es = tx (be es.length 2) ++ suf es (srtK es) := by
  rw [← enc_suf es.length (Nat.le_refl _)]
  rw [List.drop_of_length_le (by rw [srtK_len]; exact Nat.le_refl _)]
  exact app_nil.symm
theorem readW' {es : List (Value × Value)} (h : Es es) : fnVC CT mcread [.v (.string (encB es))] ⟨[], x⟩ 1 fun v H' n' => Sub 1 ⟨[(0, .tup [.mp 1, .v (.bool true)])], ⟨[(1, some ⟨true, .mp (.map (srtE es))⟩)], x⟩, 2⟩ ⟨[(0, v)], H', n'⟩ := by
  have hlen := h.len
  rw [encB_suf]
  have hA : (tx (be es.length 2)).size = 2 := by rw [tx_sz, be_len]
  have hnum : num (tx (be es.length 2)) = es.length := num_be (btx be_bytes) (by omega)
  unfold mcread
  simp -implicitDefEqProofs only [↓fnVC, initTm]
  simp -implicitDefEqProofs only [go_sem]
  refine at_call tPRead (preadS (by decide)) ?_
  simp -implicitDefEqProofs only [go_sem]
  generalize hs : suf es (srtK es) = sf
  have r1 : rawT (tx (be es.length 2) ++ sf) 0 2 = tx (be es.length 2) := by unfold rawT; rw [if_neg (by rw [ByteArray.size_append]; omega)]; exact ex_a hA
  have r2 : rawS (tx (be es.length 2) ++ sf) 0 2 = sf := by unfold rawS; rw [if_neg (by rw [ByteArray.size_append]; omega)]; exact ex_r hA
  have r3 : rawE (tx (be es.length 2) ++ sf) 0 2 = 0 := by unfold rawE; rw [if_neg (by omega), if_neg (by rw [ByteArray.size_append]; omega)]
  refine at_call tRTwo (twoS (i := 1) (s := tx (be es.length 2) ++ sf) (e := 0) (by rfl) (by decide)) ?_
  rw [r1, r2, r3, hnum]
  have b1 : decide ((es.length : Int) > 64) = false := decide_eq_false (by omega)
  simp -implicitDefEqProofs only [go_sem, b1]
  refine loop_fam (fun (j : Nat) => j ≤ es.length) (fun j => ⟨[(4, .ptr 1 0), (5, .mp 2), (6, .v (.string (if j = 0 then ⟨#[]⟩ else nmAt es (j - 1)))), (16, .v (.int .i64 es.length)), (17, .v (.int .i64 j))], ⟨[(1, some (rdO (suf es ((srtK es).drop j)) 0)), (2, some ⟨true, .mp (.map ((srtE es).take j))⟩)], x⟩, 3⟩) (fun j => es.length - j) 0 (Nat.zero_le _) ?_ ?_
  · unfold rdO
    refine sub_mk [] rfl rfl rfl ?_
    simp only [tmSub, hpSub, objSub, eqTm, eqHp, rn, lk, SV.ren, SV.renC, SV.renB, SV.renA, ren_ints, ren_strs, ren_pl, ren_svs, SV.v.injEq, Value.int.injEq, Body.ints.injEq, SV.ptr.injEq, SV.sl.injEq, Value.string.injEq, Value.bool.injEq, List.map_cons, List.map_nil, forall_const, Nat.reduceLT, Nat.lt_add_one, imp_self, true_and, and_true, and_self, ob_some, get_mk, lk_cons, ↓reduceIte, Nat.reduceEqDiff, ne_eq, not_true_eq_false, not_false_eq_true, Nat.one_ne_zero, Nat.zero_ne_one, Nat.succ_ne_self, Nat.reduceAdd, Bool.false_eq_true, false_implies, implies_true, reduceCtorEq]
    rw [List.drop_zero, hs]
    repeat' (first | rfl | apply And.intro)
  · intro j hj
    simp -implicitDefEqProofs only [go_sem]
    refine condK_bb (fun c => ?_) (fun c => ?_)
    · have c1 : j < es.length := by have := of_decide_eq_true c; omega
      have hd : (srtK es).drop j = nmAt es j :: (srtK es).drop (j + 1) := by
        have hl : j < (srtK es).length := by rw [srtK_len]; omega
        rw [List.drop_eq_getElem_cons hl]
        congr 1
        unfold nmAt
        rw [List.getD_eq_getElem?_getD, List.getElem?_eq_getElem hl]
        rfl
      obtain ⟨h1, h2, h3⟩ := h.at_ (nmAt_mem c1)
      rw [hd, show suf es (nmAt es j :: (srtK es).drop (j + 1)) = tx (be (nmAt es j).size 2) ++ (nmAt es j ++ (tx (be (tOf es (nmAt es j)).size 2) ++ (tOf es (nmAt es j) ++ suf es ((srtK es).drop (j + 1))))) from rfl]
      simp -implicitDefEqProofs only [go_sem, c]
      refine at_call tRText (textS (i := 1) (nm := nmAt es j) (rest := tx (be (tOf es (nmAt es j)).size 2) ++ (tOf es (nmAt es j) ++ suf es ((srtK es).drop (j + 1)))) (most := 32) h3 (by decide) (by rfl) (by decide)) ?_
      simp -implicitDefEqProofs only [go_sem]
      have b2 := h.sle_ff c1
      simp -implicitDefEqProofs only [go_sem, b2]
      refine at_call tRText (textS (i := 1) (nm := tOf es (nmAt es j)) (rest := suf es ((srtK es).drop (j + 1))) (most := 65535) h2 (by decide) (by rfl) (by decide)) ?_
      have w2 : IntKind.i64.wrap ((j : Int) + 1) = ((j + 1 : Nat) : Int) := by rw [wrap_i64 (by omega) (by omega)]; omega
      have hup := srtE_up h.nd c1
      simp -implicitDefEqProofs only [go_sem, spl1, w2]
      rw [hup]
      refine ⟨srtE_keys, ?_⟩
      refine kLoop_mk (j + 1) (by omega) (by omega) ?_
      unfold rdO
      refine sub_mk [] rfl rfl rfl ?_
      simp only [tmSub, hpSub, objSub, eqTm, eqHp, rn, lk, SV.ren, SV.renC, SV.renB, SV.renA, ren_ints, ren_strs, ren_pl, ren_svs, SV.v.injEq, Value.int.injEq, Body.ints.injEq, SV.ptr.injEq, SV.sl.injEq, Value.string.injEq, Value.bool.injEq, List.map_cons, List.map_nil, forall_const, Nat.reduceLT, Nat.lt_add_one, imp_self, true_and, and_true, and_self, ob_some, get_mk, lk_cons, ↓reduceIte, Nat.reduceEqDiff, ne_eq, not_true_eq_false, not_false_eq_true, Nat.one_ne_zero, Nat.zero_ne_one, Nat.succ_ne_self, Nat.reduceAdd, Bool.false_eq_true, false_implies, implies_true, reduceCtorEq]
      repeat' (first | rfl | apply And.intro)
    · have c1 : j = es.length := by have := of_decide_eq_false c; omega
      subst c1
      simp -implicitDefEqProofs only [go_sem, c]
      have hd : (srtK es).drop es.length = [] := List.drop_of_length_le (by rw [srtK_len]; exact Nat.le_refl _)
      rw [hd]
      refine at_call tREnd (endS0 (i := 1) (by rfl) (by decide)) ?_
      simp -implicitDefEqProofs only [go_sem]
      have ht : (srtE es).take es.length = srtE es := List.take_of_length_le (by rw [srtE_len]; exact Nat.le_refl _)
      rw [ht]
      refine sub_mk [(1, 2)] rfl rfl rfl ?_
      simp only [tmSub, hpSub, objSub, eqTm, eqHp, rn, lk, SV.ren, SV.renC, SV.renB, SV.renA, ren_ints, ren_strs, ren_pl, ren_svs, SV.v.injEq, Value.int.injEq, Body.ints.injEq, SV.ptr.injEq, SV.sl.injEq, Value.string.injEq, Value.bool.injEq, List.map_cons, List.map_nil, forall_const, Nat.reduceLT, Nat.lt_add_one, imp_self, true_and, and_true, and_self, ob_some, get_mk, lk_cons, ↓reduceIte, Nat.reduceEqDiff, ne_eq, not_true_eq_false, not_false_eq_true, Nat.one_ne_zero, Nat.zero_ne_one, Nat.succ_ne_self, Nat.reduceAdd, Bool.false_eq_true, false_implies, implies_true, reduceCtorEq]
      rfl
theorem readS {es : List (Value × Value)} (h : Es es) (hn : n + 1 ≤ 1000) : SpecAt Tryz.prog ncread [.v (.string (encB es))] H n (.tup [.mp n, .v (.bool true)]) ⟨(n, some ⟨true, .mp (.map (srtE es))⟩) :: H.l, H.x⟩ (n + 1) := by
  have := lift (n := n) (okT.spec tcread (readW' (x := H.x) h)) [] rfl rfl rfl (by omega) rfl rfl
    trivial (by simp [apartB, apart1, rn, lk]) (by simp [wrNZ, rn, lk]) (by omega)
  exact this
end
end Go.Sx