/- Cells: one call of both. -/
import Derived.Test.YtaggkccjgnkloaaGreatCelF

set_option linter.unusedVariables false
set_option linter.unusedSimpArgs false
set_option maxRecDepth 100000
namespace Go.Sx
attribute [local go_sem ↓] bind_mk intsB_mk strsB_mk svB_mk fnVC ob_some vc_skip vc_exit vc_ret vc_seq vc_block kSeq_normal kSeq_exit kSeq_ret kBlock_normal kBlock_exit kBlock_ret vc_reg vc_regD vc_cond condK_true condK_false vc_loop kLoop_exit kLoop_ret kRoll_normal kRoll_exit kRoll_ret vcOps_nil vcOps_cons gd_bool gd_undef put_some put_none vcT_fin vcT_pure vcT_act vcT_acts vcT_stop stab_none stab_some stabM_nil stabM_cons stabO_ld stabO_ldn stabO_slP stabO_b2s fldOf_ai fldOf_agg fldOf_ait fldOf_aggt intsOf_nil intsOf_cons strsOf_nil strsOf_cons c_omap ob_if lk_nil lk_cons ev_t ev_k z_mov z_pick z_bin z_binB z_binP z_un z_r2s z_conv z_s2b z_b2s z_mkM z_luM z_upM z_lenM lenMk_mp lenMk_nil plsOf_v z_delM asM_so plV_v plV_agg mpOf_mp mpOf_nil mpUp_mp asM_mp luV_ok luV_v z_allocT aggOf_mk z_boxT z_alloc z_bld z_bldI z_rowI z_rowS z_ld z_ldn z_st z_stn asN_ptr asN_fn z_nilck z_fld z_fadr z_idxA z_idxP z_idxS z_idxV z_slS z_slL z_slP z_mk z_lenS z_lenL z_app appC_ints appC_pl appC_sv appC_strs isS_strs loose_ints loose_pl loose_sv z_slM z_callv callvK_fn callvK_f callvK_yl vc_rangeF rfEnd_eq rfGo_none rfGo_ret rfGo_exit yGo_mk yEnd_n yEnd_r yEnd_e yRdy_mk yMid_n putPs_nil putPs_cons leaf_v leaf_ptr leaf_sl leaf_yl leaf_mp z_appS z_appST z_appZ z_cpyS z_mkfn reps_int reps_str z_rowV z_slnil nilK_zero z_cpy z_call asT_tup z_extT z_box boxOf_ai boxOf_agg boxOf_int boxOf_str boxOf_bool boxOf_ptr boxOf_sl sbin_int sbin_str sbinB_mk sbinP_nn sbinP_pn sbinP_np i_add i_sub i_mul i_quo i_rem i_and i_or i_xor i_andNot i_shl i_shr i_eql i_neq i_lss i_leq i_gtr i_geq st_add st_eql st_neq st_lss st_leq st_gtr st_geq bo_eql bo_neq pt_eql pt_neq un_neg un_xor un_not asI_mk asB_mk asS_mk asP_mk asSl_mk asBy_mk bnd_none bnd_some get_mk hput_mk hdel_mk kill_eq wrOf_eq rowOf_eq rsvs_0 rsvs_1 rsvs_2 rsvs_3 rsv_t rsv_c1 rsv_cn nt_v nt_ptr nt_sl nt_agg nt_ai get_ints get_strs get_pl get_sv getN_ints getN_sv set_ints set_strs set_sv setN_ints setN_sv part_ints part_strs part_sv cat_ints cat_strs cat_sv over_ints over_strs over_sv ones_ints ones_strs evs_nil evs_cons condK_eqt condK_eqf det_callP V_ns V_nn V_gs V_gn obC_mk fresh_ev freshT_ev freshR_ev setN_plagg setN_intsv setN_svai setN_svagg over_intsv set_pl setN_pl setN_plai getN_pl getN_strs part_pl cat_pl over_pl over_plints z_mm
attribute [local go_sem] initTm ne_eq not_true_eq_false not_false_eq_true true_and and_true List.length_cons List.length_nil Int.toNat_natCast Nat.add_zero Nat.zero_add Nat.mul_one List.getElem?_cons_zero List.drop_zero List.take_length List.take_succ_cons List.take_zero List.take_nil List.drop_succ_cons Option.map_some Nat.le_refl implies_true List.getElem?_cons_succ decide_true decide_false Bool.not_true Bool.not_false beq_self_eq_true Nat.succ_ne_self Nat.one_ne_zero Nat.zero_ne_one vk_mk hk_mk nk_mk tok_eq plsOf_map intsOf_map bodyOf_pl bodyOf_ints bodyOf_strs bodyOf_sv part_aggv part_agg part_ai part_int part_str part_bool part_sl part_ptr part_nil numsOf_map u_int u_str u_bool u_pnil u_sl u_ptr u_oci u_ocs evq_nil evq_cons fillS_nil fillS_cons u_ocb ones_pl cells_sv cells_ints cells_strs cells_pl smms_nil smms_cons smm_min smm_max plsOf_nil List.nil_append List.all_cons List.all_nil Bool.and_self Bool.true_and Bool.and_true zws_len zw_len zi_len List.set_cons_zero List.set_cons_succ List.flatMap_cons List.flatMap_nil List.append_nil
attribute [local go_sem_proc] Nat.reduceEqDiff Nat.reduceAdd Nat.reduceMul Nat.reduceLT Nat.reduceLeDiff Nat.reduceSub Int.reduceToNat Int.reduceLE Int.reduceLT reduceCtorEq Int.reduceEq Int.reduceGT Int.reduceGE Int.reduceNeg
attribute [local go_sem_proc ↓] reduceIte
section
open Go.Proofs
variable {H : Hp} {n : Nat} {x : Nat → Option SO} {i D M W a b c : Nat} {d d' : Fd} {C C' : Ce}
def ceU (C : Ce) (d : Fd) : List (Nat × Option SO) := [(1, some ⟨true, cellB { C with now := C.was } 2 8 7⟩), (2, some ⟨true, devB d 3 4 5⟩), (3, some ⟨true, secB d.seen⟩), (4, some ⟨true, secB d.safe⟩), (5, some ⟨true, .pl (prow d.pend)⟩), (6, none), (7, some ⟨true, .mp (.map C.was)⟩), (8, some ⟨true, .mp (.map C.was)⟩)]
theorem undoW : fnVC CT mCUndo [.ptr 1 0] (ceH C d x) 8 fun v H' n' => Sub 8 ⟨[(0, .tup [])], ⟨ceU C d, x⟩, 9⟩ ⟨[(0, v)], H', n'⟩ := by
  unfold mCUndo
  rw [show ceH C d x = ⟨ceL C d, x⟩ from rfl]
  unfold ceL devL cellB
  simp -implicitDefEqProofs only [↓fnVC, initTm]
  simp -implicitDefEqProofs only [go_sem]
  refine at_ext (enters_mk Tryz.func39 rfl rfl) (cloneT (i := 7) (by rfl) rfl (by decide)) ?_
  simp -implicitDefEqProofs only [go_sem]
  refine ⟨rfl, ?_⟩
  unfold ceU cellB
  refine sub_mk [] rfl rfl rfl ?_
  simp only [tmSub, hpSub, objSub, eqTm, eqHp, rn, lk, SV.ren, SV.renC, SV.renB, SV.renA, ren_ints, ren_strs, ren_pl, ren_svs, SV.v.injEq, Value.int.injEq, Body.ints.injEq, SV.ptr.injEq, SV.sl.injEq, Value.string.injEq, Value.bool.injEq, List.map_cons, List.map_nil, forall_const, Nat.reduceLT, Nat.lt_add_one, imp_self, true_and, and_true, and_self, ob_some, get_mk, lk_cons, ↓reduceIte, Nat.reduceEqDiff, ne_eq, not_true_eq_false, not_false_eq_true, Nat.one_ne_zero, Nat.zero_ne_one, Nat.succ_ne_self, Nat.reduceAdd, Bool.false_eq_true, false_implies, implies_true, reduceCtorEq]
  repeat' (first | rfl | apply And.intro)
theorem undoS (h : CellAt H C d i D a b c M W) (hn : n + 1 ≤ 1000) :
    SpecAt Tryz.prog nCUndo [.ptr i 0] H n (.tup []) ⟨(i, some ⟨true, cellB { C with now := C.was } D n W⟩) :: (D, some ⟨true, devB d a b c⟩) :: (a, some ⟨true, secB d.seen⟩) :: (b, some ⟨true, secB d.safe⟩) :: (c, some ⟨true, .pl (prow d.pend)⟩) :: (M, none) :: (W, some ⟨true, .mp (.map C.was)⟩) :: (n, some ⟨true, .mp (.map C.was)⟩) :: H.l, H.x⟩ (n + 1) := by
  have := lift (n := n) (okT.spec tCUndo (undoW (x := H.x) (d := d) (C := C))) (ceP i D a b c M W) rfl rfl rfl (by omega) rfl rfl h.sub h.ap h.nz (by omega)
  exact this
def woL (C : Ce) (d : Fd) : List (Nat × Option SO) := [(1, some ⟨true, .sv [.ptr 2 0, .ptr 6 0, .ptr 9 0, .ptr 12 0]⟩), (2, some ⟨true, devB d 3 4 5⟩), (3, some ⟨true, secB d.seen⟩), (4, some ⟨true, secB d.safe⟩), (5, some ⟨true, .pl (prow d.pend)⟩), (6, some ⟨true, cellB C 2 7 8⟩), (7, some ⟨true, .mp (.map C.now)⟩), (8, some ⟨true, .mp (.map C.was)⟩),
  (9, some ⟨true, refB d 10 11⟩), (10, some ⟨true, strB d.safe⟩), (11, some ⟨true, .pl (qrow d.pend)⟩), (12, some ⟨true, rcellB C 9 13 14⟩), (13, some ⟨false, rowP C.now⟩), (14, some ⟨false, rowP C.was⟩)]
def woN (C : Ce) (d : Fd) (M W : Nat) (l : List (Nat × Option SO)) : List (Nat × Option SO) := (1, some ⟨true, .sv [.ptr 2 0, .ptr 6 0, .ptr 9 0, .ptr 12 0]⟩) :: (2, some ⟨true, devB d 15 16 17⟩) :: (3, none) :: (4, none) :: (5, none) :: (6, some ⟨true, cellB C 2 18 19⟩) :: (7, none) :: (8, none) ::
  (9, some ⟨true, refB d 20 21⟩) :: (10, none) :: (11, none) :: (12, some ⟨true, rcellB C 9 M W⟩) :: (15, some ⟨true, secB d.seen⟩) :: (16, some ⟨true, secB d.safe⟩) :: (17, some ⟨true, .pl (prow d.pend)⟩) :: (18, some ⟨true, .mp (.map C.now)⟩) :: (19, some ⟨true, .mp (.map C.was)⟩) :: (20, some ⟨true, strB d.safe⟩) :: (21, some ⟨true, .pl (qrow d.pend)⟩) :: l
def opA (k : Int) (nm t : ByteArray) (m : Int) (r q : Nat) : SV := .agg [.v (.int .u8 k), .v (.string nm), .v (.string t), .v (.int .i64 m), .sl r 0 q 1]
theorem stepKW {k m B h : Int} {nm t : ByteArray} {r q mm tt : Nat} {kq : Int} (hkq : k.tmod 10 = kq) (hP : Pl d mm tt) (ht : tt + 1000 < 1000000) (hlen : ceTo C + C.half ≤ mm) (hC : C.ok) (hk : (0 ≤ kq ∧ kq ≤ 2 ∧ putE C.now nm t ≠ 0) ∨ (5 ≤ kq ∧ kq ≤ 6 ∧ coR C d = (4, C, d))) :
    fnVC CT mwstep [.ptr 1 0, opA k nm t m r q, .v (.int .i64 B), .v (.int .i64 h)] ⟨woL C d, x⟩ 15 fun v H' n' => Sub 15 ⟨[(0, .v (.bool true))], ⟨woN C d 13 14 [], x⟩, 22⟩ ⟨[(0, v)], H', n'⟩ := by
  unfold mwstep woL opA
  simp -implicitDefEqProofs only [↓fnVC, initTm]
  have hE := hC.now
  have d7 : decide (kq = 7) = false := decide_eq_false (by omega)
  have d8 : decide (kq = 8) = false := decide_eq_false (by omega)
  have d9 : decide (kq = 9) = false := decide_eq_false (by omega)
  have d3 : decide (kq = 3) = false := decide_eq_false (by omega)
  have d4 : decide (kq = 4) = false := decide_eq_false (by omega)
  rcases hk with ⟨k1, k2, hp⟩ | ⟨k1, k2, hq⟩
  · have d5 : decide (kq = 5) = false := decide_eq_false (by omega)
    have d6 : decide (kq = 6) = false := decide_eq_false (by omega)
    have hs : putEs C.now nm t = C.now := if_neg hp
    obtain ⟨e, he⟩ : ∃ e, putE C.now nm t = e := ⟨_, rfl⟩
    rw [he] at hp
    have ee : decide (e = e) = true := decide_eq_true rfl
    simp -implicitDefEqProofs only [go_sem, hkq, d7, d8, d9, d3, d4, d5, d6]
    refine at_call tCPut (putS' (C := C) (d := d) (i := 6) (D := 2) (a := 3) (b := 4) (c := 5) (M := 7) (W := 8) ⟨by rfl, by rfl, by rfl, by rfl, by rfl, by rfl, by rfl, by decide, by rfl, by rfl⟩ hE he hs) ?_
    simp -implicitDefEqProofs only [go_sem]
    refine at_call trCPut (rPutE (C := C) (i := 12) (D := 9) (M := 13) (W := 14) ⟨by rfl, ⟨_, by rfl⟩, ⟨_, by rfl⟩, by decide⟩ (by decide) hE he hp) ?_
    simp -implicitDefEqProofs only [go_sem, ee]
    unfold woN
    refine sub_mk [(15, 3), (16, 4), (17, 5), (18, 7), (19, 8), (20, 10), (21, 11)] rfl rfl rfl ?_
    simp only [tmSub, hpSub, objSub, eqTm, eqHp, rn, lk, SV.ren, SV.renC, SV.renB, SV.renA, ren_ints, ren_strs, ren_pl, ren_svs, SV.v.injEq, Value.int.injEq, Body.ints.injEq, SV.ptr.injEq, SV.sl.injEq, Value.string.injEq, Value.bool.injEq, List.map_cons, List.map_nil, forall_const, Nat.reduceLT, Nat.lt_add_one, imp_self, true_and, and_true, and_self, ob_some, get_mk, lk_cons, ↓reduceIte, Nat.reduceEqDiff, ne_eq, not_true_eq_false, not_false_eq_true, Nat.one_ne_zero, Nat.zero_ne_one, Nat.succ_ne_self, Nat.reduceAdd, Bool.false_eq_true, false_implies, implies_true, reduceCtorEq, devB, cellB, refB, rcellB, rcL, secB, strB, rowP]
    repeat' (first | rfl | apply And.intro)
  · have d56 : decide (kq = 5) = true ∨ decide (kq = 5) = false ∧ decide (kq = 6) = true := by
      by_cases h : kq = 5
      · exact .inl (decide_eq_true h)
      · exact .inr ⟨decide_eq_false h, decide_eq_true (by omega)⟩
    rcases d56 with d5 | ⟨d5, d6⟩
    · simp -implicitDefEqProofs only [go_sem, hkq, d7, d8, d9, d3, d4, d5]
      refine at_call tCCommit (commitS (C := C) (d := d) (i := 6) (D := 2) (a := 3) (b := 4) (c := 5) (M := 7) (W := 8) ⟨by rfl, by rfl, by rfl, by rfl, by rfl, by rfl, by rfl, by decide, by rfl, by rfl⟩ hC hP ht (by decide) hq) ?_
      simp -implicitDefEqProofs only [go_sem]
      refine at_call trCCommit (rCommitE (C := C) (d := d) (i := 12) (D := 9) (a := 10) (b := 11) (M := 13) (W := 14) ⟨⟨by rfl, ⟨_, by rfl⟩, ⟨_, by rfl⟩, by decide⟩, ⟨by rfl, by rfl, by rfl, by decide⟩, by decide⟩ hC hP ht hlen (by decide) hq (by decide)) ?_
      simp -implicitDefEqProofs only [go_sem]
      unfold woN
      refine sub_mk [(15, 16), (16, 17), (17, 18), (18, 7), (19, 19), (20, 20), (21, 21)] rfl rfl rfl ?_
      simp only [tmSub, hpSub, objSub, eqTm, eqHp, rn, lk, SV.ren, SV.renC, SV.renB, SV.renA, ren_ints, ren_strs, ren_pl, ren_svs, SV.v.injEq, Value.int.injEq, Body.ints.injEq, SV.ptr.injEq, SV.sl.injEq, Value.string.injEq, Value.bool.injEq, List.map_cons, List.map_nil, forall_const, Nat.reduceLT, Nat.lt_add_one, imp_self, true_and, and_true, and_self, ob_some, get_mk, lk_cons, ↓reduceIte, Nat.reduceEqDiff, ne_eq, not_true_eq_false, not_false_eq_true, Nat.one_ne_zero, Nat.zero_ne_one, Nat.succ_ne_self, Nat.reduceAdd, Bool.false_eq_true, false_implies, implies_true, reduceCtorEq, devB, cellB, refB, rcellB, rcL, secB, strB, rowP]
      repeat' (first | rfl | apply And.intro)
    · simp -implicitDefEqProofs only [go_sem, hkq, d7, d8, d9, d3, d4, d5, d6]
      refine at_call tCCommit (commitS (C := C) (d := d) (i := 6) (D := 2) (a := 3) (b := 4) (c := 5) (M := 7) (W := 8) ⟨by rfl, by rfl, by rfl, by rfl, by rfl, by rfl, by rfl, by decide, by rfl, by rfl⟩ hC hP ht (by decide) hq) ?_
      simp -implicitDefEqProofs only [go_sem]
      refine at_call trCCommit (rCommitE (C := C) (d := d) (i := 12) (D := 9) (a := 10) (b := 11) (M := 13) (W := 14) ⟨⟨by rfl, ⟨_, by rfl⟩, ⟨_, by rfl⟩, by decide⟩, ⟨by rfl, by rfl, by rfl, by decide⟩, by decide⟩ hC hP ht hlen (by decide) hq (by decide)) ?_
      simp -implicitDefEqProofs only [go_sem]
      unfold woN
      refine sub_mk [(15, 16), (16, 17), (17, 18), (18, 7), (19, 19), (20, 20), (21, 21)] rfl rfl rfl ?_
      simp only [tmSub, hpSub, objSub, eqTm, eqHp, rn, lk, SV.ren, SV.renC, SV.renB, SV.renA, ren_ints, ren_strs, ren_pl, ren_svs, SV.v.injEq, Value.int.injEq, Body.ints.injEq, SV.ptr.injEq, SV.sl.injEq, Value.string.injEq, Value.bool.injEq, List.map_cons, List.map_nil, forall_const, Nat.reduceLT, Nat.lt_add_one, imp_self, true_and, and_true, and_self, ob_some, get_mk, lk_cons, ↓reduceIte, Nat.reduceEqDiff, ne_eq, not_true_eq_false, not_false_eq_true, Nat.one_ne_zero, Nat.zero_ne_one, Nat.succ_ne_self, Nat.reduceAdd, Bool.false_eq_true, false_implies, implies_true, reduceCtorEq, devB, cellB, refB, rcellB, rcL, secB, strB, rowP]
      repeat' (first | rfl | apply And.intro)
theorem stepNW {k m B h : Int} {nm t : ByteArray} {r q : Nat} {kq : Int} {es' : List (Value × Value)} (hkq : k.tmod 10 = kq) (hE : Es C.now) (hk : (0 ≤ kq ∧ kq ≤ 2 ∧ putE C.now nm t = 0 ∧ putEs C.now nm t = es') ∨ (kq = 3 ∧ dlS C.now nm = es')) :
    fnVC CT mwstep [.ptr 1 0, opA k nm t m r q, .v (.int .i64 B), .v (.int .i64 h)] ⟨woL C d, x⟩ 15 fun v H' n' => Sub 15 ⟨[(0, .v (.bool true))], ⟨woN { C with now := es' } d 22 14 [(22, some ⟨true, rowP es'⟩)], x⟩, 23⟩ ⟨[(0, v)], H', n'⟩ := by
  unfold mwstep woL opA
  simp -implicitDefEqProofs only [↓fnVC, initTm]
  have d7 : decide (kq = 7) = false := decide_eq_false (by omega)
  have d8 : decide (kq = 8) = false := decide_eq_false (by omega)
  have d9 : decide (kq = 9) = false := decide_eq_false (by omega)
  rcases hk with ⟨k1, k2, he, hs⟩ | ⟨k1, hs⟩
  · have d3 : decide (kq = 3) = false := decide_eq_false (by omega)
    have d4 : decide (kq = 4) = false := decide_eq_false (by omega)
    have d5 : decide (kq = 5) = false := decide_eq_false (by omega)
    have d6 : decide (kq = 6) = false := decide_eq_false (by omega)
    simp -implicitDefEqProofs only [go_sem, hkq, d7, d8, d9, d3, d4, d5, d6]
    refine at_call tCPut (putS' (C := C) (d := d) (i := 6) (D := 2) (a := 3) (b := 4) (c := 5) (M := 7) (W := 8) ⟨by rfl, by rfl, by rfl, by rfl, by rfl, by rfl, by rfl, by decide, by rfl, by rfl⟩ hE he hs) ?_
    simp -implicitDefEqProofs only [go_sem]
    refine at_call trCPut (rPutS (C := C) (i := 12) (D := 9) (M := 13) (W := 14) ⟨by rfl, ⟨_, by rfl⟩, ⟨_, by rfl⟩, by decide⟩ (by decide) hE he (by decide) hs) ?_
    simp -implicitDefEqProofs only [go_sem]
    unfold woN
    refine sub_mk [(15, 3), (16, 4), (17, 5), (18, 7), (19, 8), (20, 10), (21, 11), (22, 16)] rfl rfl rfl ?_
    simp only [tmSub, hpSub, objSub, eqTm, eqHp, rn, lk, SV.ren, SV.renC, SV.renB, SV.renA, ren_ints, ren_strs, ren_pl, ren_svs, SV.v.injEq, Value.int.injEq, Body.ints.injEq, SV.ptr.injEq, SV.sl.injEq, Value.string.injEq, Value.bool.injEq, List.map_cons, List.map_nil, forall_const, Nat.reduceLT, Nat.lt_add_one, imp_self, true_and, and_true, and_self, ob_some, get_mk, lk_cons, ↓reduceIte, Nat.reduceEqDiff, ne_eq, not_true_eq_false, not_false_eq_true, Nat.one_ne_zero, Nat.zero_ne_one, Nat.succ_ne_self, Nat.reduceAdd, Bool.false_eq_true, false_implies, implies_true, reduceCtorEq, devB, cellB, refB, rcellB, rcL, secB, strB, rowP]
    repeat' (first | rfl | apply And.intro)
  · have d3 : decide (kq = 3) = true := decide_eq_true (by omega)
    simp -implicitDefEqProofs only [go_sem, hkq, d7, d8, d9, d3]
    refine at_call tCDrop (dropS (C := C) (d := d) (i := 6) (D := 2) (a := 3) (b := 4) (c := 5) (M := 7) (W := 8) ⟨by rfl, by rfl, by rfl, by rfl, by rfl, by rfl, by rfl, by decide, by rfl, by rfl⟩ hE) ?_
    simp -implicitDefEqProofs only [go_sem]
    refine at_call trCDrop (rDropS (C := C) (i := 12) (D := 9) (M := 13) (W := 14) ⟨by rfl, ⟨_, by rfl⟩, ⟨_, by rfl⟩, by decide⟩ (by decide) hE (by decide)) ?_
    rw [hs]
    have bb : ((luS C.now nm).isSome == (luS C.now nm).isSome) = true := by cases (luS C.now nm).isSome <;> rfl
    simp -implicitDefEqProofs only [go_sem, bb]
    unfold woN
    refine sub_mk [(15, 3), (16, 4), (17, 5), (18, 7), (19, 8), (20, 10), (21, 11), (22, 16)] rfl rfl rfl ?_
    simp only [tmSub, hpSub, objSub, eqTm, eqHp, rn, lk, SV.ren, SV.renC, SV.renB, SV.renA, ren_ints, ren_strs, ren_pl, ren_svs, SV.v.injEq, Value.int.injEq, Body.ints.injEq, SV.ptr.injEq, SV.sl.injEq, Value.string.injEq, Value.bool.injEq, List.map_cons, List.map_nil, forall_const, Nat.reduceLT, Nat.lt_add_one, imp_self, true_and, and_true, and_self, ob_some, get_mk, lk_cons, ↓reduceIte, Nat.reduceEqDiff, ne_eq, not_true_eq_false, not_false_eq_true, Nat.one_ne_zero, Nat.zero_ne_one, Nat.succ_ne_self, Nat.reduceAdd, Bool.false_eq_true, false_implies, implies_true, reduceCtorEq, devB, cellB, refB, rcellB, rcL, secB, strB, rowP]
    repeat' (first | rfl | apply And.intro)
theorem stepUW {k m B h : Int} {nm t : ByteArray} {r q : Nat} (hkq : k.tmod 10 = 4) :
    fnVC CT mwstep [.ptr 1 0, opA k nm t m r q, .v (.int .i64 B), .v (.int .i64 h)] ⟨woL C d, x⟩ 15 fun v H' n' => Sub 15 ⟨[(0, .v (.bool true))], ⟨woN { C with now := C.was } d 14 14 [], x⟩, 22⟩ ⟨[(0, v)], H', n'⟩ := by
  unfold mwstep woL opA
  simp -implicitDefEqProofs only [↓fnVC, initTm]
  simp -implicitDefEqProofs only [go_sem, hkq]
  refine at_call tCUndo (undoS (C := C) (d := d) (i := 6) (D := 2) (a := 3) (b := 4) (c := 5) (M := 7) (W := 8) ⟨by rfl, by rfl, by rfl, by rfl, by rfl, by rfl, by rfl, by decide, by rfl, by rfl⟩ (by decide)) ?_
  simp -implicitDefEqProofs only [go_sem]
  refine at_call trCUndo (rUndoS (C := C) (i := 12) (D := 9) (M := 13) (W := 14) ⟨by rfl, ⟨_, by rfl⟩, ⟨_, by rfl⟩, by decide⟩ (by decide)) ?_
  simp -implicitDefEqProofs only [go_sem]
  unfold woN
  refine sub_mk [(15, 3), (16, 4), (17, 5), (18, 16), (19, 8), (20, 10), (21, 11)] rfl rfl rfl ?_
  simp only [tmSub, hpSub, objSub, eqTm, eqHp, rn, lk, SV.ren, SV.renC, SV.renB, SV.renA, ren_ints, ren_strs, ren_pl, ren_svs, SV.v.injEq, Value.int.injEq, Body.ints.injEq, SV.ptr.injEq, SV.sl.injEq, Value.string.injEq, Value.bool.injEq, List.map_cons, List.map_nil, forall_const, Nat.reduceLT, Nat.lt_add_one, imp_self, true_and, and_true, and_self, ob_some, get_mk, lk_cons, ↓reduceIte, Nat.reduceEqDiff, ne_eq, not_true_eq_false, not_false_eq_true, Nat.one_ne_zero, Nat.zero_ne_one, Nat.succ_ne_self, Nat.reduceAdd, Bool.false_eq_true, false_implies, implies_true, reduceCtorEq, devB, cellB, refB, rcellB, rcL, secB, strB, rowP]
  repeat' (first | rfl | apply And.intro)
theorem stepCW {k m B h : Int} {nm t : ByteArray} {r q mm tt : Nat} {kq : Int} (hkq : k.tmod 10 = kq) (hP : Pl d mm tt) (ht : tt + 1000 < 1000000) (hlen : ceTo C + C.half ≤ mm) (hC : C.ok) (hk : 5 ≤ kq ∧ kq ≤ 6) (hq : coR C d = (0, C', d')) :
    fnVC CT mwstep [.ptr 1 0, opA k nm t m r q, .v (.int .i64 B), .v (.int .i64 h)] ⟨woL C d, x⟩ 15 fun v H' n' => Sub 15 ⟨[(0, .v (.bool true))], ⟨woN C' d' 13 13 [], x⟩, 22⟩ ⟨[(0, v)], H', n'⟩ := by
  unfold mwstep woL opA
  simp -implicitDefEqProofs only [↓fnVC, initTm]
  have d7 : decide (kq = 7) = false := decide_eq_false (by omega)
  have d8 : decide (kq = 8) = false := decide_eq_false (by omega)
  have d9 : decide (kq = 9) = false := decide_eq_false (by omega)
  have d3 : decide (kq = 3) = false := decide_eq_false (by omega)
  have d4 : decide (kq = 4) = false := decide_eq_false (by omega)
  have d56 : decide (kq = 5) = true ∨ decide (kq = 5) = false ∧ decide (kq = 6) = true := by
    by_cases h : kq = 5
    · exact .inl (decide_eq_true h)
    · exact .inr ⟨decide_eq_false h, decide_eq_true (by omega)⟩
  rcases d56 with d5 | ⟨d5, d6⟩
  · simp -implicitDefEqProofs only [go_sem, hkq, d7, d8, d9, d3, d4, d5]
    refine at_call tCCommit (commitS (C := C) (d := d) (i := 6) (D := 2) (a := 3) (b := 4) (c := 5) (M := 7) (W := 8) ⟨by rfl, by rfl, by rfl, by rfl, by rfl, by rfl, by rfl, by decide, by rfl, by rfl⟩ hC hP ht (by decide) hq) ?_
    simp -implicitDefEqProofs only [go_sem]
    refine at_call trCCommit (rCommitS (C := C) (d := d) (i := 12) (D := 9) (a := 10) (b := 11) (M := 13) (W := 14) ⟨⟨by rfl, ⟨_, by rfl⟩, ⟨_, by rfl⟩, by decide⟩, ⟨by rfl, by rfl, by rfl, by decide⟩, by decide⟩ hC hP ht hlen (by decide) hq) ?_
    simp -implicitDefEqProofs only [go_sem]
    unfold woN
    refine sub_mk [(15, 16), (16, 17), (17, 18), (18, 7), (19, 19), (20, 20), (21, 21)] rfl rfl rfl ?_
    simp only [tmSub, hpSub, objSub, eqTm, eqHp, rn, lk, SV.ren, SV.renC, SV.renB, SV.renA, ren_ints, ren_strs, ren_pl, ren_svs, SV.v.injEq, Value.int.injEq, Body.ints.injEq, SV.ptr.injEq, SV.sl.injEq, Value.string.injEq, Value.bool.injEq, List.map_cons, List.map_nil, forall_const, Nat.reduceLT, Nat.lt_add_one, imp_self, true_and, and_true, and_self, ob_some, get_mk, lk_cons, ↓reduceIte, Nat.reduceEqDiff, ne_eq, not_true_eq_false, not_false_eq_true, Nat.one_ne_zero, Nat.zero_ne_one, Nat.succ_ne_self, Nat.reduceAdd, Bool.false_eq_true, false_implies, implies_true, reduceCtorEq, devB, cellB, refB, rcellB, rcL, secB, strB, rowP]
    repeat' (first | rfl | apply And.intro)
  · simp -implicitDefEqProofs only [go_sem, hkq, d7, d8, d9, d3, d4, d5, d6]
    refine at_call tCCommit (commitS (C := C) (d := d) (i := 6) (D := 2) (a := 3) (b := 4) (c := 5) (M := 7) (W := 8) ⟨by rfl, by rfl, by rfl, by rfl, by rfl, by rfl, by rfl, by decide, by rfl, by rfl⟩ hC hP ht (by decide) hq) ?_
    simp -implicitDefEqProofs only [go_sem]
    refine at_call trCCommit (rCommitS (C := C) (d := d) (i := 12) (D := 9) (a := 10) (b := 11) (M := 13) (W := 14) ⟨⟨by rfl, ⟨_, by rfl⟩, ⟨_, by rfl⟩, by decide⟩, ⟨by rfl, by rfl, by rfl, by decide⟩, by decide⟩ hC hP ht hlen (by decide) hq) ?_
    simp -implicitDefEqProofs only [go_sem]
    unfold woN
    refine sub_mk [(15, 16), (16, 17), (17, 18), (18, 7), (19, 19), (20, 20), (21, 21)] rfl rfl rfl ?_
    simp only [tmSub, hpSub, objSub, eqTm, eqHp, rn, lk, SV.ren, SV.renC, SV.renB, SV.renA, ren_ints, ren_strs, ren_pl, ren_svs, SV.v.injEq, Value.int.injEq, Body.ints.injEq, SV.ptr.injEq, SV.sl.injEq, Value.string.injEq, Value.bool.injEq, List.map_cons, List.map_nil, forall_const, Nat.reduceLT, Nat.lt_add_one, imp_self, true_and, and_true, and_self, ob_some, get_mk, lk_cons, ↓reduceIte, Nat.reduceEqDiff, ne_eq, not_true_eq_false, not_false_eq_true, Nat.one_ne_zero, Nat.zero_ne_one, Nat.succ_ne_self, Nat.reduceAdd, Bool.false_eq_true, false_implies, implies_true, reduceCtorEq, devB, cellB, refB, rcellB, rcL, secB, strB, rowP]
    repeat' (first | rfl | apply And.intro)
end
end Go.Sx
/- Cells: one call of both, at any heap. -/
set_option linter.unusedVariables false
set_option linter.unusedSimpArgs false
set_option maxRecDepth 100000
namespace Go.Sx
open Go.Proofs
variable {H : Hp} {n : Nat} {x : Nat → Option SO} {d d' : Fd} {C C' : Ce} {i D a b c q M W E f g p R S : Nat}
def woP (i D a b c q M W E f g p R S : Nat) : List (Nat × Nat) := [(1, i), (2, D), (3, a), (4, b), (5, c), (6, q), (7, M), (8, W), (9, E), (10, f), (11, g), (12, p), (13, R), (14, S)]
structure WoAt (H : Hp) (C : Ce) (d : Fd) (i D a b c q M W E f g p R S : Nat) : Prop where
  g1 : H.get i = some ⟨true, .sv [.ptr D 0, .ptr q 0, .ptr E 0, .ptr p 0]⟩
  g2 : H.get D = some ⟨true, devB d a b c⟩
  g3 : H.get a = some ⟨true, secB d.seen⟩
  g4 : H.get b = some ⟨true, secB d.safe⟩
  g5 : H.get c = some ⟨true, .pl (prow d.pend)⟩
  g6 : H.get q = some ⟨true, cellB C D M W⟩
  g7 : H.get M = some ⟨true, .mp (.map C.now)⟩
  g8 : H.get W = some ⟨true, .mp (.map C.was)⟩
  g9 : H.get E = some ⟨true, refB d f g⟩
  g10 : H.get f = some ⟨true, strB d.safe⟩
  g11 : H.get g = some ⟨true, .pl (qrow d.pend)⟩
  g12 : H.get p = some ⟨true, rcellB C E R S⟩
  g13 : ∃ u, H.get R = some ⟨u, rowP C.now⟩
  g14 : ∃ u, H.get S = some ⟨u, rowP C.was⟩
  ne : ([i, D, a, b, c, q, M, W, E, f, g, p, R, S].all fun k => decide (0 < k ∧ k < 1000)) = true
  ap : apartB (woP i D a b c q M W E f g p R S) (woL C d) (woL C d) = true
  nz : wrNZ (woP i D a b c q M W E f g p R S) (woL C d) = true
theorem WoAt.sub (h : WoAt H C d i D a b c q M W E f g p R S) : hpSub (woP i D a b c q M W E f g p R S) H (woL C d) := by
  obtain ⟨g1, g2, g3, g4, g5, g6, g7, g8, g9, g10, g11, g12, ⟨u, g13⟩, ⟨v, g14⟩, ne, _, _⟩ := h
  simp at ne
  obtain ⟨n1, n2, n3, n4, n5, n6, n7, n8, n9, n10, n11, n12, n13, n14⟩ := ne
  exact ⟨sub_wr rfl n1.1 n1.2 g1 rfl, sub_wr rfl n2.1 n2.2 g2 rfl, sub_wr rfl n3.1 n3.2 g3 rfl, sub_wr rfl n4.1 n4.2 g4 rfl, sub_wr rfl n5.1 n5.2 g5 rfl, sub_wr rfl n6.1 n6.2 g6 rfl, sub_wr rfl n7.1 n7.2 g7 rfl, sub_wr rfl n8.1 n8.2 g8 rfl, sub_wr rfl n9.1 n9.2 g9 rfl, sub_wr rfl n10.1 n10.2 g10 rfl, sub_wr rfl n11.1 n11.2 g11 rfl, sub_wr rfl n12.1 n12.2 g12 rfl, sub_ro rfl n13.1 g13 rfl, sub_ro rfl n14.1 g14 rfl, trivial⟩
def woM (C : Ce) (d : Fd) (n i D a b c q M W E f g p R S : Nat) (l : List (Nat × Option SO)) : List (Nat × Option SO) := (i, some ⟨true, .sv [.ptr D 0, .ptr q 0, .ptr E 0, .ptr p 0]⟩) :: (D, some ⟨true, devB d n (n + 1) (n + 2)⟩) :: (a, none) :: (b, none) :: (c, none) :: (q, some ⟨true, cellB C D (n + 3) (n + 4)⟩) :: (M, none) :: (W, none) ::
  (E, some ⟨true, refB d (n + 5) (n + 6)⟩) :: (f, none) :: (g, none) :: (p, some ⟨true, rcellB C E R S⟩) :: (n, some ⟨true, secB d.seen⟩) :: (n + 1, some ⟨true, secB d.safe⟩) :: (n + 2, some ⟨true, .pl (prow d.pend)⟩) :: (n + 3, some ⟨true, .mp (.map C.now)⟩) :: (n + 4, some ⟨true, .mp (.map C.was)⟩) :: (n + 5, some ⟨true, strB d.safe⟩) :: (n + 6, some ⟨true, .pl (qrow d.pend)⟩) :: l
theorem opA_lt {k m : Int} {nm t : ByteArray} {r z B : Nat} {b h : Int} (hr : 1000 ≤ r) : ([.ptr 1 0, opA k nm t m r z, .v (.int .i64 b), .v (.int .i64 h)] : List SV).all (ltT 15) = true := by
  have e : idOK 15 r = true := by unfold idOK; rw [decide_eq_true hr, Bool.or_true]
  simp [opA, ltT, ltC, ltB, ltA, idOK, hr]
theorem opA_ren {k m : Int} {nm t : ByteArray} {r z : Nat} {π : List (Nat × Nat)} (hr : 1000 ≤ r) (ho : okπ 1 π = true) : (opA k nm t m r z).ren π = opA k nm t m r z := by
  have h := okπ_spec ho r (.inr hr)
  show SV.agg [_, _, _, _, SV.sl (rn π r) 0 z 1] = _
  rw [h]; rfl
theorem stepL {k m B h : Int} {nm t : ByteArray} {r z : Nat} {C2 : Ce} {d2 : Fd} {lx : List (Nat × Option SO)} {nc R2 S2 : Nat} (hw : WoAt H C d i D a b c q M W E f g p R S) (hr : 1000 ≤ r)
    (hs : SpecAt Tryz.prog nwstep [.ptr 1 0, opA k nm t m r z, .v (.int .i64 B), .v (.int .i64 h)] ⟨woL C d, H.x⟩ 15 (.v (.bool true)) ⟨woN C2 d2 R2 S2 lx, H.x⟩ nc) (hcan : canon 15 nc (woL C d) (woN C2 d2 R2 S2 lx) = true) (hn : n + (nc - 15) ≤ 1000) :
    SpecAt Tryz.prog nwstep [.ptr i 0, opA k nm t m r z, .v (.int .i64 B), .v (.int .i64 h)] H n (.v (.bool true)) ⟨updOf 15 (woL C d) (newIds (nc - 15) 15 n (woP i D a b c q M W E f g p R S)) (woN C2 d2 R2 S2 lx) ++ H.l, H.x⟩ (n + (nc - 15)) := by
  have := lift (n := n) hs (woP i D a b c q M W E f g p R S) hcan rfl (opA_lt (B := 0) hr) (by omega) rfl rfl hw.sub hw.ap hw.nz (fun _ => hn)
  rw [List.map_cons, List.map_cons, opA_ren hr rfl] at this
  exact this
theorem stepKS {k m B h : Int} {nm t : ByteArray} {r z mm tt : Nat} {kq : Int} (hw : WoAt H C d i D a b c q M W E f g p R S) (hr : 1000 ≤ r) (hn : n + 7 ≤ 1000) (hkq : k.tmod 10 = kq) (hP : Pl d mm tt) (ht : tt + 1000 < 1000000) (hlen : ceTo C + C.half ≤ mm) (hC : C.ok) (hk : (0 ≤ kq ∧ kq ≤ 2 ∧ putE C.now nm t ≠ 0) ∨ (5 ≤ kq ∧ kq ≤ 6 ∧ coR C d = (4, C, d))) :
    SpecAt Tryz.prog nwstep [.ptr i 0, opA k nm t m r z, .v (.int .i64 B), .v (.int .i64 h)] H n (.v (.bool true)) ⟨woM C d n i D a b c q M W E f g p R S H.l, H.x⟩ (n + 7) :=
  stepL hw hr (okT.spec twstep (stepKW (x := H.x) hkq hP ht hlen hC hk)) rfl hn
theorem stepNS {k m B h : Int} {nm t : ByteArray} {r z : Nat} {kq : Int} {es' : List (Value × Value)} (hw : WoAt H C d i D a b c q M W E f g p R S) (hr : 1000 ≤ r) (hn : n + 8 ≤ 1000) (hkq : k.tmod 10 = kq) (hE : Es C.now) (hk : (0 ≤ kq ∧ kq ≤ 2 ∧ putE C.now nm t = 0 ∧ putEs C.now nm t = es') ∨ (kq = 3 ∧ dlS C.now nm = es')) :
    SpecAt Tryz.prog nwstep [.ptr i 0, opA k nm t m r z, .v (.int .i64 B), .v (.int .i64 h)] H n (.v (.bool true)) ⟨woM { C with now := es' } d n i D a b c q M W E f g p (n + 7) S ((n + 7, some ⟨true, rowP es'⟩) :: H.l), H.x⟩ (n + 8) :=
  stepL hw hr (okT.spec twstep (stepNW (x := H.x) hkq hE hk)) rfl hn
theorem stepUS {k m B h : Int} {nm t : ByteArray} {r z : Nat} (hw : WoAt H C d i D a b c q M W E f g p R S) (hr : 1000 ≤ r) (hn : n + 7 ≤ 1000) (hkq : k.tmod 10 = 4) :
    SpecAt Tryz.prog nwstep [.ptr i 0, opA k nm t m r z, .v (.int .i64 B), .v (.int .i64 h)] H n (.v (.bool true)) ⟨woM { C with now := C.was } d n i D a b c q M W E f g p S S H.l, H.x⟩ (n + 7) :=
  stepL hw hr (okT.spec twstep (stepUW (x := H.x) hkq)) rfl hn
theorem stepCS {k m B h : Int} {nm t : ByteArray} {r z mm tt : Nat} {kq : Int} (hw : WoAt H C d i D a b c q M W E f g p R S) (hr : 1000 ≤ r) (hn : n + 7 ≤ 1000) (hkq : k.tmod 10 = kq) (hP : Pl d mm tt) (ht : tt + 1000 < 1000000) (hlen : ceTo C + C.half ≤ mm) (hC : C.ok) (hk : 5 ≤ kq ∧ kq ≤ 6) (hq : coR C d = (0, C', d')) :
    SpecAt Tryz.prog nwstep [.ptr i 0, opA k nm t m r z, .v (.int .i64 B), .v (.int .i64 h)] H n (.v (.bool true)) ⟨woM C' d' n i D a b c q M W E f g p R R H.l, H.x⟩ (n + 7) :=
  stepL hw hr (okT.spec twstep (stepCW (x := H.x) hkq hP ht hlen hC hk hq)) rfl hn
end Go.Sx

/- Cells: calls, plain; what a crash leaves of a commit. -/
set_option linter.unusedVariables false
set_option linter.unusedSimpArgs false
set_option maxRecDepth 100000
namespace Go.Sx
open Go.Proofs
variable {d d' : Fd} {C C' : Ce}
theorem luS_map {f : ByteArray → Value} {s : ByteArray} : ∀ {l : List ByteArray}, s ∈ l → luS (l.map fun nm => (.string nm, f nm)) s = some (f s)
  | t :: l, h => by
    rw [List.map_cons]
    unfold luS
    by_cases c : t = s
    · subst c
      rw [if_pos ((keyIsE (e := (.string t, f t))).2 rfl)]
    · rw [if_neg (fun h2 => c (by have := (keyIsE (e := (.string t, f t))).1 h2; cases this; rfl))]
      exact luS_map ((List.mem_cons.1 h).resolve_left fun e => c e.symm)
theorem tOf_srt {es : List (Value × Value)} {s : ByteArray} (h : s.data.toList ∈ es.map keyB) : tOf (srtE es) s = tOf es s := by
  have hm : s ∈ srtK es := by
    have h1 := srtL (es := es)
    have := (List.mergeSort_perm (es.map keyB) fun x y => decide (x ≤ y)).mem_iff.2 h
    rw [← h1] at this
    obtain ⟨t, ht, e⟩ := List.mem_map.1 this
    rw [← kb_inj e]; exact ht
  have : luS (srtE es) s = some (.agg ⟨[.string (tOf es s)]⟩) := luS_map hm
  unfold tOf
  rw [this]
  rfl
theorem prs_srt {es : List (Value × Value)} (h : Es es) : prs (srtE es) = prs es := by
  refine rise_ext (prs_rise h.srt.nd) (prs_rise h.nd) fun s => ?_
  rw [lk_prs, lk_prs, keyB_srt, srtL]
  have hm : (s.data.toList ∈ (es.map keyB).mergeSort fun x y => decide (x ≤ y)) = (s.data.toList ∈ es.map keyB) := propext (List.mergeSort_perm _ _).mem_iff
  simp only [hm]
  by_cases c : s.data.toList ∈ es.map keyB
  · rw [if_pos c, if_pos c, tOf_srt c]
  · rw [if_neg c, if_neg c]
structure Wo (B h m t : Nat) (C : Ce) (d : Fd) : Prop where
  base : C.base = B
  half : C.half = h
  dead : C.dead = false
  now : Es C.now
  was : Es C.was
  num : C.num ≤ t
  reg : Reg d.seen B h C.num C.last C.was
  good : GoodP true m d.st d.seen [] d
  pl : Pl d m (200 * t)
theorem Wo.last {B h m t : Nat} (w : Wo B h m t C d) : C.last ≤ 1 := w.reg.1
theorem Wo.ok {B h m t : Nat} (w : Wo B h m t C d) (hh : 2 ≤ h ∧ h ≤ 129) (hB : B ≤ 4096) (ht : t ≤ 254) : C.ok :=
  ⟨w.now, w.was, by rw [w.half]; exact hh, by rw [w.base]; exact hB, w.last, by have := w.num; omega⟩
theorem Wo.set {B h m t : Nat} (w : Wo B h m t C d) {es : List (Value × Value)} (he : Es es) : Wo B h m (t + 1) { C with now := es } d :=
  ⟨w.base, w.half, w.dead, he, w.was, by have := w.num; show C.num ≤ t + 1; omega, w.reg, w.good, w.pl.mono (by omega)⟩
theorem Wo.skip {B h m t : Nat} (w : Wo B h m t C d) : Wo B h m (t + 1) C d :=
  ⟨w.base, w.half, w.dead, w.now, w.was, by have := w.num; omega, w.reg, w.good, w.pl.mono (by omega)⟩
theorem Wo.new {B h m : Nat} (hl : B + 2 * h ≤ m) (hm : m ≤ 4096) (hh : 1 ≤ h) : Wo B h m 0 ⟨B, h, 0, 1, false, [], []⟩ (newD m) :=
  ⟨rfl, rfl, rfl, Es.nil, Es.nil, Nat.le_refl _, by rw [goodNew.seen']; exact Reg.new hl hh, by have := goodNew (m := m); rw [show (newD m).seen = List.replicate m (zi 64) from goodNew.seen']; exact this, Pl.new hm⟩
theorem Wo.to {B h m t : Nat} (w : Wo B h m t C d) (hl : B + 2 * h ≤ m) : ceTo C + C.half ≤ m := by
  have := w.last
  unfold ceTo
  rw [w.base, w.half]
  have hc : C.last = 0 ∨ C.last = 1 := by omega
  rcases hc with e | e <;> rw [e] <;> omega
theorem Wo.commit {B h m t : Nat} (w : Wo B h m t C d) (hl : B + 2 * h ≤ m) (hh : 2 ≤ h ∧ h ≤ 129) (ht : t ≤ 254) :
    coR C d = (4, C, d) ∨ ∃ C' d', coR C d = (0, C', d') ∧ C' = { C with last := 1 - C.last, num := C.num + 1, was := C.now } ∧ Wo B h m (t + 1) C' d' ∧ ∀ k, k < ceTo C ∨ ceTo C + h ≤ k → d'.seen.getD k [] = d.seen.getD k [] := by
  have hn := w.num
  by_cases hc : 64 * (C.half - 1) < (encB C.now).size
  · left
    unfold coR
    rw [if_neg (by rw [w.dead]; decide), if_pos hc]
  · right
    obtain ⟨d1, h1, h2⟩ := coR_good w.dead (by rw [w.half]; exact hh.1) (by omega) w.good (by rw [w.base, w.half]; exact hl) w.last
    have hp := coR_pl (C := C) w.pl (by omega) (by rw [w.half]; exact hh.2)
    rw [h1] at hp
    have hr := w.reg.done (by rw [w.pl.len]; exact hl) hh.1 (es := C.now) (by rw [← w.half]; omega) (by omega) w.now
    have hto : B + (1 - C.last) * h = ceTo C := by unfold ceTo; rw [w.base, w.half]
    rw [hto] at hr
    refine ⟨_, d1, h1, rfl, ⟨w.base, w.half, w.dead, w.now, w.now, by show C.num + 1 ≤ t + 1; omega, ?_, ?_, hp.mono (by omega)⟩, ?_⟩
    · rw [h2.seen']; exact hr
    · have := h2.seen'
      have hst := h2.st
      rw [this, hst]; exact h2
    · intro k hk
      rw [h2.seen']
      refine done_ne ?_
      have := room_ch (I := encB C.now) (h := C.half) (by omega)
      rw [w.half] at this
      omega
theorem Wo.cut {B h m t : Nat} (w : Wo B h m t C d) (hl : B + 2 * h ≤ m) (hh : 2 ≤ h ∧ h ≤ 129) (ht : t ≤ 254) {k : Int} (hk : k ≤ 1000) {ks : List Int} :
    ∃ e C' d2, coR C { d with fa := max k 0 } = (e, C', d2) ∧ Pl d2 m (200 * t + 200) ∧
      ((e = 4 ∧ C' = C ∧ Reg (crD d2 ks).seen B h C.num C.last C.was) ∨
       (e = 0 ∧ C' = { C with last := 1 - C.last, num := C.num + 1, was := C.now } ∧ Reg (crD d2 ks).seen B h (C.num + 1) (1 - C.last) C.now) ∨
       (e = 7 ∧ C' = { C with dead := true } ∧ (Reg (crD d2 ks).seen B h (C.num + 1) (1 - C.last) C.now ∨ Reg (crD d2 ks).seen B h C.num C.last C.was))) := by
  have hn := w.num
  have hP1 : Pl { d with fa := max k 0 } m (200 * t + 1) := w.pl.fall (by omega)
  have g1 : GoodP false m d.st d.seen [] { d with fa := max k 0 } := ⟨w.good.off, w.good.safe, w.good.pend, hP1.sn, hP1.len, rfl, fun h => by cases h⟩
  have hnil : ∀ {d2 : Fd} {X : List (List Int)} {st : Int}, GoodP false m st X [] d2 → (crD d2 ks).seen = X := by
    intro d2 X st g
    show crl d2.safe d2.pend (keepN ks) d2.pend.length = X
    rw [g.safe, g.pend]; rfl
  by_cases hc : 64 * (C.half - 1) < (encB C.now).size
  · refine ⟨4, C, _, ?_, hP1.mono (by omega), .inl ⟨rfl, rfl, ?_⟩⟩
    · unfold coR
      rw [if_neg (by rw [w.dead]; decide), if_pos hc]
    · rw [hnil g1]; exact w.reg
  · have hz : (encB C.now).size ≤ 64 * (h - 1) := by rw [← w.half]; omega
    have hI := coR_inv (C := C) (d := { d with fa := max k 0 }) (by rw [w.half]; exact hh.1) (by omega) g1 (by rw [w.base, w.half]; exact hl) w.last
    have hp := coR_pl (C := C) hP1 (by omega) (by rw [w.half]; exact hh.2)
    have hto : ceTo C = B + (1 - C.last) * h := by unfold ceTo; rw [w.base, w.half]
    rw [hto] at hI
    rcases hI with ⟨h0, g⟩ | ⟨_, h7, hA⟩
    · have hcr : coR C { d with fa := max k 0 } = (0, { C with last := 1 - C.last, num := C.num + 1, was := C.now }, (coQ C { d with fa := max k 0 }).2) := by
        unfold coR
        rw [if_neg (by rw [w.dead]; decide), if_neg hc, if_neg (by rw [h0]; decide)]
      rw [hcr] at hp
      refine ⟨_, _, _, hcr, hp.mono (by omega), .inr (.inl ⟨rfl, rfl, ?_⟩)⟩
      rw [hnil g]
      exact w.reg.done (by rw [w.pl.len]; exact hl) hh.1 hz (by omega) w.now
    · have hcr : coR C { d with fa := max k 0 } = (7, { C with dead := true }, (coQ C { d with fa := max k 0 }).2) := by
        unfold coR
        rw [if_neg (by rw [w.dead]; decide), if_neg hc, if_pos (by rw [h7]; decide), h7]
      rw [hcr] at hp
      exact ⟨_, _, _, hcr, hp.mono (by omega), .inr (.inr ⟨rfl, rfl, (w.reg.torn (ks := ks) (by rw [w.pl.len]; exact hl) hh.1 hz (by omega) w.now hA).1⟩)⟩
end Go.Sx
