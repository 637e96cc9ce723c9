/- Cells: one call of both. -/
import Derived.Test.YtaggkccjgnkloaaGreatCelB
import Derived.Test.YtaggkccjgnkloaaGreatCelA
import Derived.Test.YtaggkccjgnkloaaGreatSxC

set_option linter.unusedVariables false
set_option linter.unusedSimpArgs false
set_option maxRecDepth 100000
namespace Go.Sx
attribute [local go_sem ↓] bind_mk intsB_mk strsB_mk svB_mk fnVC ob_some vc_skip vc_exit vc_ret vc_seq vc_block kSeq_normal kSeq_exit kSeq_ret kBlock_normal kBlock_exit kBlock_ret vc_reg vc_regD vc_cond condK_true condK_false vc_loop kLoop_exit kLoop_ret kRoll_normal kRoll_exit kRoll_ret vcOps_nil vcOps_cons gd_bool gd_undef put_some put_none vcT_fin vcT_pure vcT_act vcT_acts vcT_stop stab_none stab_some stabM_nil stabM_cons stabO_ld stabO_ldn stabO_slP stabO_b2s fldOf_ai fldOf_agg fldOf_ait fldOf_aggt intsOf_nil intsOf_cons strsOf_nil strsOf_cons c_omap ob_if lk_nil lk_cons ev_t ev_k z_mov z_pick z_bin z_binB z_binP z_un z_r2s z_conv z_s2b z_b2s z_mkM z_luM z_upM z_lenM lenMk_mp lenMk_nil plsOf_v z_delM asM_so plV_v plV_agg mpOf_mp mpOf_nil mpUp_mp asM_mp luV_ok luV_v z_allocT aggOf_mk z_boxT z_alloc z_bld z_bldI z_rowI z_rowS z_ld z_ldn z_st z_stn asN_ptr asN_fn z_nilck z_fld z_fadr z_idxA z_idxP z_idxS z_idxV z_slS z_slL z_slP z_mk z_lenS z_lenL z_app appC_ints appC_pl appC_sv appC_strs isS_strs loose_ints loose_pl loose_sv z_slM z_callv callvK_fn callvK_f callvK_yl vc_rangeF rfEnd_eq rfGo_none rfGo_ret rfGo_exit yGo_mk yEnd_n yEnd_r yEnd_e yRdy_mk yMid_n putPs_nil putPs_cons leaf_v leaf_ptr leaf_sl leaf_yl leaf_mp z_appS z_appST z_appZ z_cpyS z_mkfn reps_int reps_str z_rowV z_slnil nilK_zero z_cpy z_call asT_tup z_extT z_box boxOf_ai boxOf_agg boxOf_int boxOf_str boxOf_bool boxOf_ptr boxOf_sl sbin_int sbin_str sbinB_mk sbinP_nn sbinP_pn sbinP_np i_add i_sub i_mul i_quo i_rem i_and i_or i_xor i_andNot i_shl i_shr i_eql i_neq i_lss i_leq i_gtr i_geq st_add st_eql st_neq st_lss st_leq st_gtr st_geq bo_eql bo_neq pt_eql pt_neq un_neg un_xor un_not asI_mk asB_mk asS_mk asP_mk asSl_mk asBy_mk bnd_none bnd_some get_mk hput_mk hdel_mk kill_eq wrOf_eq rowOf_eq rsvs_0 rsvs_1 rsvs_2 rsvs_3 rsv_t rsv_c1 rsv_cn nt_v nt_ptr nt_sl nt_agg nt_ai get_ints get_strs get_pl get_sv getN_ints getN_sv set_ints set_strs set_sv setN_ints setN_sv part_ints part_strs part_sv cat_ints cat_strs cat_sv over_ints over_strs over_sv ones_ints ones_strs evs_nil evs_cons condK_eqt condK_eqf det_callP V_ns V_nn V_gs V_gn obC_mk fresh_ev freshT_ev freshR_ev setN_plagg setN_intsv setN_svai setN_svagg over_intsv set_pl setN_pl setN_plai getN_pl getN_strs part_pl cat_pl over_pl over_plints z_mm
attribute [local go_sem] initTm ne_eq not_true_eq_false not_false_eq_true true_and and_true List.length_cons List.length_nil Int.toNat_natCast Nat.add_zero Nat.zero_add Nat.mul_one List.getElem?_cons_zero List.drop_zero List.take_length List.take_succ_cons List.take_zero List.take_nil List.drop_succ_cons Option.map_some Nat.le_refl implies_true List.getElem?_cons_succ decide_true decide_false Bool.not_true Bool.not_false beq_self_eq_true Nat.succ_ne_self Nat.one_ne_zero Nat.zero_ne_one vk_mk hk_mk nk_mk tok_eq plsOf_map intsOf_map bodyOf_pl bodyOf_ints bodyOf_strs bodyOf_sv part_aggv part_agg part_ai part_int part_str part_bool part_sl part_ptr part_nil numsOf_map u_int u_str u_bool u_pnil u_sl u_ptr u_oci u_ocs evq_nil evq_cons fillS_nil fillS_cons u_ocb ones_pl cells_sv cells_ints cells_strs cells_pl smms_nil smms_cons smm_min smm_max plsOf_nil List.nil_append List.all_cons List.all_nil Bool.and_self Bool.true_and Bool.and_true zws_len zw_len zi_len List.set_cons_zero List.set_cons_succ List.flatMap_cons List.flatMap_nil List.append_nil
attribute [local go_sem_proc] Nat.reduceEqDiff Nat.reduceAdd Nat.reduceMul Nat.reduceLT Nat.reduceLeDiff Nat.reduceSub Int.reduceToNat Int.reduceLE Int.reduceLT reduceCtorEq Int.reduceEq Int.reduceGT Int.reduceGE Int.reduceNeg
attribute [local go_sem_proc ↓] reduceIte
section
open Go.Proofs
variable {H : Hp} {n : Nat} {x : Nat → Option SO} {i D M W a b c : Nat} {d d' : Fd} {C C' : Ce}
def ceU (C : Ce) (d : Fd) : List (Nat × Option SO) := [(1, some ⟨true, cellB { C with now := C.was } 2 8 7⟩), (2, some ⟨true, devB d 3 4 5⟩), (3, some ⟨true, secB d.seen⟩), (4, some ⟨true, secB d.safe⟩), (5, some ⟨true, .pl (prow d.pend)⟩), (6, none), (7, some ⟨true, .mp (.map C.was)⟩), (8, some ⟨true, .mp (.map C.was)⟩)]
theorem undoW : fnVC CT mCUndo [.ptr 1 0] (ceH C d x) 8 fun v H' n' => Sub 8 ⟨[(0, .tup [])], ⟨ceU C d, x⟩, 9⟩ ⟨[(0, v)], H', n'⟩ := by
  unfold mCUndo
  rw [show ceH C d x = ⟨ceL C d, x⟩ from rfl]
  unfold ceL devL cellB
  simp -implicitDefEqProofs only [↓fnVC, initTm]
  simp -implicitDefEqProofs only [go_sem]
  refine at_ext (enters_mk Tryz.func39 rfl rfl) (cloneT (i := 7) (by rfl) rfl (by decide)) ?_
  simp -implicitDefEqProofs only [go_sem]
  refine ⟨rfl, ?_⟩
  unfold ceU cellB
  refine sub_mk [] rfl rfl rfl ?_
  simp only [tmSub, hpSub, objSub, eqTm, eqHp, rn, lk, SV.ren, SV.renC, SV.renB, SV.renA, ren_ints, ren_strs, ren_pl, ren_svs, SV.v.injEq, Value.int.injEq, Body.ints.injEq, SV.ptr.injEq, SV.sl.injEq, Value.string.injEq, Value.bool.injEq, List.map_cons, List.map_nil, forall_const, Nat.reduceLT, Nat.lt_add_one, imp_self, true_and, and_true, and_self, ob_some, get_mk, lk_cons, ↓reduceIte, Nat.reduceEqDiff, ne_eq, not_true_eq_false, not_false_eq_true, Nat.one_ne_zero, Nat.zero_ne_one, Nat.succ_ne_self, Nat.reduceAdd, Bool.false_eq_true, false_implies, implies_true, reduceCtorEq]
  repeat' (first | rfl | apply And.intro)
theorem undoS (h : CellAt H C d i D a b c M W) (hn : n + 1 ≤ 1000) :
    SpecAt Tryz.prog nCUndo [.ptr i 0] H n (.tup []) ⟨(i, some ⟨true, cellB { C with now := C.was } D n W⟩) :: (D, some ⟨true, devB d a b c⟩) :: (a, some ⟨true, secB d.seen⟩) :: (b, some ⟨true, secB d.safe⟩) :: (c, some ⟨true, .pl (prow d.pend)⟩) :: (M, none) :: (W, some ⟨true, .mp (.map C.was)⟩) :: (n, some ⟨true, .mp (.map C.was)⟩) :: H.l, H.x⟩ (n + 1) := by
  have := lift (n := n) (okT.spec tCUndo (undoW (x := H.x) (d := d) (C := C))) (ceP i D a b c M W) rfl rfl rfl (by omega) rfl rfl h.sub h.ap h.nz (by omega)
  exact this
def woL (C : Ce) (d : Fd) : List (Nat × Option SO) := [(1, some ⟨true, .sv [.ptr 2 0, .ptr 6 0, .ptr 9 0, .ptr 12 0]⟩), (2, some ⟨true, devB d 3 4 5⟩), (3, some ⟨true, secB d.seen⟩), (4, some ⟨true, secB d.safe⟩), (5, some ⟨true, .pl (prow d.pend)⟩), (6, some ⟨true, cellB C 2 7 8⟩), (7, some ⟨true, .mp (.map C.now)⟩), (8, some ⟨true, .mp (.map C.was)⟩),
  (9, some ⟨true, refB d 10 11⟩), (10, some ⟨true, strB d.safe⟩), (11, some ⟨true, .pl (qrow d.pend)⟩), (12, some ⟨true, rcellB C 9 13 14⟩), (13, some ⟨false, rowP C.now⟩), (14, some ⟨false, rowP C.was⟩)]
def woN (C : Ce) (d : Fd) (M W : Nat) (l : List (Nat × Option SO)) : List (Nat × Option SO) := (1, some ⟨true, .sv [.ptr 2 0, .ptr 6 0, .ptr 9 0, .ptr 12 0]⟩) :: (2, some ⟨true, devB d 15 16 17⟩) :: (3, none) :: (4, none) :: (5, none) :: (6, some ⟨true, cellB C 2 18 19⟩) :: (7, none) :: (8, none) ::
  (9, some ⟨true, refB d 20 21⟩) :: (10, none) :: (11, none) :: (12, some ⟨true, rcellB C 9 M W⟩) :: (15, some ⟨true, secB d.seen⟩) :: (16, some ⟨true, secB d.safe⟩) :: (17, some ⟨true, .pl (prow d.pend)⟩) :: (18, some ⟨true, .mp (.map C.now)⟩) :: (19, some ⟨true, .mp (.map C.was)⟩) :: (20, some ⟨true, strB d.safe⟩) :: (21, some ⟨true, .pl (qrow d.pend)⟩) :: l
def opA (k : Int) (nm t : ByteArray) (m : Int) (r q : Nat) : SV := .agg [.v (.int .u8 k), .v (.string nm), .v (.string t), .v (.int .i64 m), .sl r 0 q 1]
theorem stepKW {k m B h : Int} {nm t : ByteArray} {r q mm tt : Nat} {kq : Int} (hkq : k.tmod 10 = kq) (hP : Pl d mm tt) (ht : tt + 1000 < 1000000) (hlen : ceTo C + C.half ≤ mm) (hC : C.ok) (hk : (0 ≤ kq ∧ kq ≤ 2 ∧ putE C.now nm t ≠ 0) ∨ (5 ≤ kq ∧ kq ≤ 6 ∧ coR C d = (4, C, d))) :
    fnVC CT mwstep [.ptr 1 0, opA k nm t m r q, .v (.int .i64 B), .v (.int .i64 h)] ⟨woL C d, x⟩ 15 fun v H' n' => Sub 15 ⟨[(0, .v (.bool true))], ⟨woN C d 13 14 [], x⟩, 22⟩ ⟨[(0, v)], H', n'⟩ := by
  unfold mwstep woL opA
  simp -implicitDefEqProofs only [↓fnVC, initTm]
  have hE := hC.now
  have d7 : decide (kq = 7) = false := decide_eq_false (by omega)
  have d8 : decide (kq = 8) = false := decide_eq_false (by omega)
  have d9 : decide (kq = 9) = false := decide_eq_false (by omega)
  have d3 : decide (kq = 3) = false := decide_eq_false (by omega)
  have d4 : decide (kq = 4) = false := decide_eq_false (by omega)
  rcases hk with ⟨k1, k2, hp⟩ | ⟨k1, k2, hq⟩
  · have d5 : decide (kq = 5) = false := decide_eq_false (by omega)
    have d6 : decide (kq = 6) = false := decide_eq_false (by omega)
    have hs : putEs C.now nm t = C.now := if_neg hp
    obtain ⟨e, he⟩ : ∃ e, putE C.now nm t = e := ⟨_, rfl⟩
    rw [he] at hp
    have ee : decide (e = e) = true := decide_eq_true rfl
    simp -implicitDefEqProofs only [go_sem, hkq, d7, d8, d9, d3, d4, d5, d6]
    refine at_call tCPut (putS' (C := C) (d := d) (i := 6) (D := 2) (a := 3) (b := 4) (c := 5) (M := 7) (W := 8) ⟨by rfl, by rfl, by rfl, by rfl, by rfl, by rfl, by rfl, by decide, by rfl, by rfl⟩ hE he hs) ?_
    simp -implicitDefEqProofs only [go_sem]
    refine at_call trCPut (rPutE (C := C) (i := 12) (D := 9) (M := 13) (W := 14) ⟨by rfl, ⟨_, by rfl⟩, ⟨_, by rfl⟩, by decide⟩ (by decide) hE he hp) ?_
    simp -implicitDefEqProofs only [go_sem, ee]
    unfold woN
    refine sub_mk [(15, 3), (16, 4), (17, 5), (18, 7), (19, 8), (20, 10), (21, 11)] rfl rfl rfl ?_
    simp only [tmSub, hpSub, objSub, eqTm, eqHp, rn, lk, SV.ren, SV.renC, SV.renB, SV.renA, ren_ints, ren_strs, ren_pl, ren_svs, SV.v.injEq, Value.int.injEq, Body.ints.injEq, SV.ptr.injEq, SV.sl.injEq, Value.string.injEq, Value.bool.injEq, List.map_cons, List.map_nil, forall_const, Nat.reduceLT, Nat.lt_add_one, imp_self, true_and, and_true, and_self, ob_some, get_mk, lk_cons, ↓reduceIte, Nat.reduceEqDiff, ne_eq, not_true_eq_false, not_false_eq_true, Nat.one_ne_zero, Nat.zero_ne_one, Nat.succ_ne_self, Nat.reduceAdd, Bool.false_eq_true, false_implies, implies_true, reduceCtorEq, devB, cellB, refB, rcellB, rcL, secB, strB, rowP]
    repeat' (first | rfl | apply And.intro)
  · have d56 : decide (kq = 5) = true ∨ decide (kq = 5) = false ∧ decide (kq = 6) = true := by
      by_cases h : kq = 5
      · exact .inl (decide_eq_true h)
      · exact .inr ⟨decide_eq_false h, decide_eq_true (by omega)⟩
    rcases d56 with d5 | ⟨d5, d6⟩
    · simp -implicitDefEqProofs only [go_sem, hkq, d7, d8, d9, d3, d4, d5]
      refine at_call tCCommit (commitS (C := C) (d := d) (i := 6) (D := 2) (a := 3) (b := 4) (c := 5) (M := 7) (W := 8) ⟨by rfl, by rfl, by rfl, by rfl, by rfl, by rfl, by rfl, by decide, by rfl, by rfl⟩ hC hP ht (by decide) hq) ?_
      simp -implicitDefEqProofs only [go_sem]
      refine at_call trCCommit (rCommitE (C := C) (d := d) (i := 12) (D := 9) (a := 10) (b := 11) (M := 13) (W := 14) ⟨⟨by rfl, ⟨_, by rfl⟩, ⟨_, by rfl⟩, by decide⟩, ⟨by rfl, by rfl, by rfl, by decide⟩, by decide⟩ hC hP ht hlen (by decide) hq (by decide)) ?_
      simp -implicitDefEqProofs only [go_sem]
      unfold woN
      refine sub_mk [(15, 16), (16, 17), (17, 18), (18, 7), (19, 19), (20, 20), (21, 21)] rfl rfl rfl ?_
      simp only [tmSub, hpSub, objSub, eqTm, eqHp, rn, lk, SV.ren, SV.renC, SV.renB, SV.renA, ren_ints, ren_strs, ren_pl, ren_svs, SV.v.injEq, Value.int.injEq, Body.ints.injEq, SV.ptr.injEq, SV.sl.injEq, Value.string.injEq, Value.bool.injEq, List.map_cons, List.map_nil, forall_const, Nat.reduceLT, Nat.lt_add_one, imp_self, true_and, and_true, and_self, ob_some, get_mk, lk_cons, ↓reduceIte, Nat.reduceEqDiff, ne_eq, not_true_eq_false, not_false_eq_true, Nat.one_ne_zero, Nat.zero_ne_one, Nat.succ_ne_self, Nat.reduceAdd, Bool.false_eq_true, false_implies, implies_true, reduceCtorEq, devB, cellB, refB, rcellB, rcL, secB, strB, rowP]
      repeat' (first | rfl | apply And.intro)
    · simp -implicitDefEqProofs only [go_sem, hkq, d7, d8, d9, d3, d4, d5, d6]
      refine at_call tCCommit (commitS (C := C) (d := d) (i := 6) (D := 2) (a := 3) (b := 4) (c := 5) (M := 7) (W := 8) ⟨by rfl, by rfl, by rfl, by rfl, by rfl, by rfl, by rfl, by decide, by rfl, by rfl⟩ hC hP ht (by decide) hq) ?_
      simp -implicitDefEqProofs only [go_sem]
      refine at_call trCCommit (rCommitE (C := C) (d := d) (i := 12) (D := 9) (a := 10) (b := 11) (M := 13) (W := 14) ⟨⟨by rfl, ⟨_, by rfl⟩, ⟨_, by rfl⟩, by decide⟩, ⟨by rfl, by rfl, by rfl, by decide⟩, by decide⟩ hC hP ht hlen (by decide) hq (by decide)) ?_
      simp -implicitDefEqProofs only [go_sem]
      unfold woN
      refine sub_mk [(15, 16), (16, 17), (17, 18), (18, 7), (19, 19), (20, 20), (21, 21)] rfl rfl rfl ?_
      simp only [tmSub, hpSub, objSub, eqTm, eqHp, rn, lk, SV.ren, SV.renC, SV.renB, SV.renA, ren_ints, ren_strs, ren_pl, ren_svs, SV.v.injEq, Value.int.injEq, Body.ints.injEq, SV.ptr.injEq, SV.sl.injEq, Value.string.injEq, Value.bool.injEq, List.map_cons, List.map_nil, forall_const, Nat.reduceLT, Nat.lt_add_one, imp_self, true_and, and_true, and_self, ob_some, get_mk, lk_cons, ↓reduceIte, Nat.reduceEqDiff, ne_eq, not_true_eq_false, not_false_eq_true, Nat.one_ne_zero, Nat.zero_ne_one, Nat.succ_ne_self, Nat.reduceAdd, Bool.false_eq_true, false_implies, implies_true, reduceCtorEq, devB, cellB, refB, rcellB, rcL, secB, strB, rowP]
      repeat' (first | rfl | apply And.intro)
theorem stepNW {k m B h : Int} {nm t : ByteArray} {r q : Nat} {kq : Int} {es' : List (Value × Value)} (hkq : k.tmod 10 = kq) (hE : Es C.now) (hk : (0 ≤ kq ∧ kq ≤ 2 ∧ putE C.now nm t = 0 ∧ putEs C.now nm t = es') ∨ (kq = 3 ∧ dlS C.now nm = es')) :
    fnVC CT mwstep [.ptr 1 0, opA k nm t m r q, .v (.int .i64 B), .v (.int .i64 h)] ⟨woL C d, x⟩ 15 fun v H' n' => Sub 15 ⟨[(0, .v (.bool true))], ⟨woN { C with now := es' } d 22 14 [(22, some ⟨true, rowP es'⟩)], x⟩, 23⟩ ⟨[(0, v)], H', n'⟩ := by
  unfold mwstep woL opA
  simp -implicitDefEqProofs only [↓fnVC, initTm]
  have d7 : decide (kq = 7) = false := decide_eq_false (by omega)
  have d8 : decide (kq = 8) = false := decide_eq_false (by omega)
  have d9 : decide (kq = 9) = false := decide_eq_false (by omega)
  rcases hk with ⟨k1, k2, he, hs⟩ | ⟨k1, hs⟩
  · have d3 : decide (kq = 3) = false := decide_eq_false (by omega)
    have d4 : decide (kq = 4) = false := decide_eq_false (by omega)
    have d5 : decide (kq = 5) = false := decide_eq_false (by omega)
    have d6 : decide (kq = 6) = false := decide_eq_false (by omega)
    simp -implicitDefEqProofs only [go_sem, hkq, d7, d8, d9, d3, d4, d5, d6]
    refine at_call tCPut (putS' (C := C) (d := d) (i := 6) (D := 2) (a := 3) (b := 4) (c := 5) (M := 7) (W := 8) ⟨by rfl, by rfl, by rfl, by rfl, by rfl, by rfl, by rfl, by decide, by rfl, by rfl⟩ hE he hs) ?_
    simp -implicitDefEqProofs only [go_sem]
    refine at_call trCPut (rPutS (C := C) (i := 12) (D := 9) (M := 13) (W := 14) ⟨by rfl, ⟨_, by rfl⟩, ⟨_, by rfl⟩, by decide⟩ (by decide) hE he (by decide) hs) ?_
    simp -implicitDefEqProofs only [go_sem]
    unfold woN
    refine sub_mk [(15, 3), (16, 4), (17, 5), (18, 7), (19, 8), (20, 10), (21, 11), (22, 16)] rfl rfl rfl ?_
    simp only [tmSub, hpSub, objSub, eqTm, eqHp, rn, lk, SV.ren, SV.renC, SV.renB, SV.renA, ren_ints, ren_strs, ren_pl, ren_svs, SV.v.injEq, Value.int.injEq, Body.ints.injEq, SV.ptr.injEq, SV.sl.injEq, Value.string.injEq, Value.bool.injEq, List.map_cons, List.map_nil, forall_const, Nat.reduceLT, Nat.lt_add_one, imp_self, true_and, and_true, and_self, ob_some, get_mk, lk_cons, ↓reduceIte, Nat.reduceEqDiff, ne_eq, not_true_eq_false, not_false_eq_true, Nat.one_ne_zero, Nat.zero_ne_one, Nat.succ_ne_self, Nat.reduceAdd, Bool.false_eq_true, false_implies, implies_true, reduceCtorEq, devB, cellB, refB, rcellB, rcL, secB, strB, rowP]
    repeat' (first | rfl | apply And.intro)
  · have d3 : decide (kq = 3) = true := decide_eq_true (by omega)
    simp -implicitDefEqProofs only [go_sem, hkq, d7, d8, d9, d3]
    refine at_call tCDrop (dropS (C := C) (d := d) (i := 6) (D := 2) (a := 3) (b := 4) (c := 5) (M := 7) (W := 8) ⟨by rfl, by rfl, by rfl, by rfl, by rfl, by rfl, by rfl, by decide, by rfl, by rfl⟩ hE) ?_
    simp -implicitDefEqProofs only [go_sem]
    refine at_call trCDrop (rDropS (C := C) (i := 12) (D := 9) (M := 13) (W := 14) ⟨by rfl, ⟨_, by rfl⟩, ⟨_, by rfl⟩, by decide⟩ (by decide) hE (by decide)) ?_
    rw [hs]
    have bb : ((luS C.now nm).isSome == (luS C.now nm).isSome) = true := by cases (luS C.now nm).isSome <;> rfl
    simp -implicitDefEqProofs only [go_sem, bb]
    unfold woN
    refine sub_mk [(15, 3), (16, 4), (17, 5), (18, 7), (19, 8), (20, 10), (21, 11), (22, 16)] rfl rfl rfl ?_
    simp only [tmSub, hpSub, objSub, eqTm, eqHp, rn, lk, SV.ren, SV.renC, SV.renB, SV.renA, ren_ints, ren_strs, ren_pl, ren_svs, SV.v.injEq, Value.int.injEq, Body.ints.injEq, SV.ptr.injEq, SV.sl.injEq, Value.string.injEq, Value.bool.injEq, List.map_cons, List.map_nil, forall_const, Nat.reduceLT, Nat.lt_add_one, imp_self, true_and, and_true, and_self, ob_some, get_mk, lk_cons, ↓reduceIte, Nat.reduceEqDiff, ne_eq, not_true_eq_false, not_false_eq_true, Nat.one_ne_zero, Nat.zero_ne_one, Nat.succ_ne_self, Nat.reduceAdd, Bool.false_eq_true, false_implies, implies_true, reduceCtorEq, devB, cellB, refB, rcellB, rcL, secB, strB, rowP]
    repeat' (first | rfl | apply And.intro)
theorem stepUW {k m B h : Int} {nm t : ByteArray} {r q : Nat} (hkq : k.tmod 10 = 4) :
    fnVC CT mwstep [.ptr 1 0, opA k nm t m r q, .v (.int .i64 B), .v (.int .i64 h)] ⟨woL C d, x⟩ 15 fun v H' n' => Sub 15 ⟨[(0, .v (.bool true))], ⟨woN { C with now := C.was } d 14 14 [], x⟩, 22⟩ ⟨[(0, v)], H', n'⟩ := by
  unfold mwstep woL opA
  simp -implicitDefEqProofs only [↓fnVC, initTm]
  simp -implicitDefEqProofs only [go_sem, hkq]
  refine at_call tCUndo (undoS (C := C) (d := d) (i := 6) (D := 2) (a := 3) (b := 4) (c := 5) (M := 7) (W := 8) ⟨by rfl, by rfl, by rfl, by rfl, by rfl, by rfl, by rfl, by decide, by rfl, by rfl⟩ (by decide)) ?_
  simp -implicitDefEqProofs only [go_sem]
  refine at_call trCUndo (rUndoS (C := C) (i := 12) (D := 9) (M := 13) (W := 14) ⟨by rfl, ⟨_, by rfl⟩, ⟨_, by rfl⟩, by decide⟩ (by decide)) ?_
  simp -implicitDefEqProofs only [go_sem]
  unfold woN
  refine sub_mk [(15, 3), (16, 4), (17, 5), (18, 16), (19, 8), (20, 10), (21, 11)] rfl rfl rfl ?_
  simp only [tmSub, hpSub, objSub, eqTm, eqHp, rn, lk, SV.ren, SV.renC, SV.renB, SV.renA, ren_ints, ren_strs, ren_pl, ren_svs, SV.v.injEq, Value.int.injEq, Body.ints.injEq, SV.ptr.injEq, SV.sl.injEq, Value.string.injEq, Value.bool.injEq, List.map_cons, List.map_nil, forall_const, Nat.reduceLT, Nat.lt_add_one, imp_self, true_and, and_true, and_self, ob_some, get_mk, lk_cons, ↓reduceIte, Nat.reduceEqDiff, ne_eq, not_true_eq_false, not_false_eq_true, Nat.one_ne_zero, Nat.zero_ne_one, Nat.succ_ne_self, Nat.reduceAdd, Bool.false_eq_true, false_implies, implies_true, reduceCtorEq, devB, cellB, refB, rcellB, rcL, secB, strB, rowP]
  repeat' (first | rfl | apply And.intro)
theorem stepCW {k m B h : Int} {nm t : ByteArray} {r q mm tt : Nat} {kq : Int} (hkq : k.tmod 10 = kq) (hP : Pl d mm tt) (ht : tt + 1000 < 1000000) (hlen : ceTo C + C.half ≤ mm) (hC : C.ok) (hk : 5 ≤ kq ∧ kq ≤ 6) (hq : coR C d = (0, C', d')) :
    fnVC CT mwstep [.ptr 1 0, opA k nm t m r q, .v (.int .i64 B), .v (.int .i64 h)] ⟨woL C d, x⟩ 15 fun v H' n' => Sub 15 ⟨[(0, .v (.bool true))], ⟨woN C' d' 13 13 [], x⟩, 22⟩ ⟨[(0, v)], H', n'⟩ := by
  unfold mwstep woL opA
  simp -implicitDefEqProofs only [↓fnVC, initTm]
  have d7 : decide (kq = 7) = false := decide_eq_false (by omega)
  have d8 : decide (kq = 8) = false := decide_eq_false (by omega)
  have d9 : decide (kq = 9) = false := decide_eq_false (by omega)
  have d3 : decide (kq = 3) = false := decide_eq_false (by omega)
  have d4 : decide (kq = 4) = false := decide_eq_false (by omega)
  have d56 : decide (kq = 5) = true ∨ decide (kq = 5) = false ∧ decide (kq = 6) = true := by
    by_cases h : kq = 5
    · exact .inl (decide_eq_true h)
    · exact .inr ⟨decide_eq_false h, decide_eq_true (by omega)⟩
  rcases d56 with d5 | ⟨d5, d6⟩
  · simp -implicitDefEqProofs only [go_sem, hkq, d7, d8, d9, d3, d4, d5]
    refine at_call tCCommit (commitS (C := C) (d := d) (i := 6) (D := 2) (a := 3) (b := 4) (c := 5) (M := 7) (W := 8) ⟨by rfl, by rfl, by rfl, by rfl, by rfl, by rfl, by rfl, by decide, by rfl, by rfl⟩ hC hP ht (by decide) hq) ?_
    simp -implicitDefEqProofs only [go_sem]
    refine at_call trCCommit (rCommitS (C := C) (d := d) (i := 12) (D := 9) (a := 10) (b := 11) (M := 13) (W := 14) ⟨⟨by rfl, ⟨_, by rfl⟩, ⟨_, by rfl⟩, by decide⟩, ⟨by rfl, by rfl, by rfl, by decide⟩, by decide⟩ hC hP ht hlen (by decide) hq) ?_
    simp -implicitDefEqProofs only [go_sem]
    unfold woN
    refine sub_mk [(15, 16), (16, 17), (17, 18), (18, 7), (19, 19), (20, 20), (21, 21)] rfl rfl rfl ?_
    simp only [tmSub, hpSub, objSub, eqTm, eqHp, rn, lk, SV.ren, SV.renC, SV.renB, SV.renA, ren_ints, ren_strs, ren_pl, ren_svs, SV.v.injEq, Value.int.injEq, Body.ints.injEq, SV.ptr.injEq, SV.sl.injEq, Value.string.injEq, Value.bool.injEq, List.map_cons, List.map_nil, forall_const, Nat.reduceLT, Nat.lt_add_one, imp_self, true_and, and_true, and_self, ob_some, get_mk, lk_cons, ↓reduceIte, Nat.reduceEqDiff, ne_eq, not_true_eq_false, not_false_eq_true, Nat.one_ne_zero, Nat.zero_ne_one, Nat.succ_ne_self, Nat.reduceAdd, Bool.false_eq_true, false_implies, implies_true, reduceCtorEq, devB, cellB, refB, rcellB, rcL, secB, strB, rowP]
    repeat' (first | rfl | apply And.intro)
  · simp -implicitDefEqProofs only [go_sem, hkq, d7, d8, d9, d3, d4, d5, d6]
    refine at_call tCCommit (commitS (C := C) (d := d) (i := 6) (D := 2) (a := 3) (b := 4) (c := 5) (M := 7) (W := 8) ⟨by rfl, by rfl, by rfl, by rfl, by rfl, by rfl, by rfl, by decide, by rfl, by rfl⟩ hC hP ht (by decide) hq) ?_
    simp -implicitDefEqProofs only [go_sem]
    refine at_call trCCommit (rCommitS (C := C) (d := d) (i := 12) (D := 9) (a := 10) (b := 11) (M := 13) (W := 14) ⟨⟨by rfl, ⟨_, by rfl⟩, ⟨_, by rfl⟩, by decide⟩, ⟨by rfl, by rfl, by rfl, by decide⟩, by decide⟩ hC hP ht hlen (by decide) hq) ?_
    simp -implicitDefEqProofs only [go_sem]
    unfold woN
    refine sub_mk [(15, 16), (16, 17), (17, 18), (18, 7), (19, 19), (20, 20), (21, 21)] rfl rfl rfl ?_
    simp only [tmSub, hpSub, objSub, eqTm, eqHp, rn, lk, SV.ren, SV.renC, SV.renB, SV.renA, ren_ints, ren_strs, ren_pl, ren_svs, SV.v.injEq, Value.int.injEq, Body.ints.injEq, SV.ptr.injEq, SV.sl.injEq, Value.string.injEq, Value.bool.injEq, List.map_cons, List.map_nil, forall_const, Nat.reduceLT, Nat.lt_add_one, imp_self, true_and, and_true, and_self, ob_some, get_mk, lk_cons, ↓reduceIte, Nat.reduceEqDiff, ne_eq, not_true_eq_false, not_false_eq_true, Nat.one_ne_zero, Nat.zero_ne_one, Nat.succ_ne_self, Nat.reduceAdd, Bool.false_eq_true, false_implies, implies_true, reduceCtorEq, devB, cellB, refB, rcellB, rcL, secB, strB, rowP]
    repeat' (first | rfl | apply And.intro)
end
end Go.Sx
/- Cells: one call of both, at any heap. -/
set_option linter.unusedVariables false
set_option linter.unusedSimpArgs false
set_option maxRecDepth 100000
namespace Go.Sx
open Go.Proofs
variable {H : Hp} {n : Nat} {x : Nat → Option SO} {d d' : Fd} {C C' : Ce} {i D a b c q M W E f g p R S : Nat}
def woP (i D a b c q M W E f g p R S : Nat) : List (Nat × Nat) := [(1, i), (2, D), (3, a), (4, b), (5, c), (6, q), (7, M), (8, W), (9, E), (10, f), (11, g), (12, p), (13, R), (14, S)]
structure WoAt (H : Hp) (C : Ce) (d : Fd) (i D a b c q M W E f g p R S : Nat) : Prop where
  g1 : H.get i = some ⟨true, .sv [.ptr D 0, .ptr q 0, .ptr E 0, .ptr p 0]⟩
  g2 : H.get D = some ⟨true, devB d a b c⟩
  g3 : H.get a = some ⟨true, secB d.seen⟩
  g4 : H.get b = some ⟨true, secB d.safe⟩
  g5 : H.get c = some ⟨true, .pl (prow d.pend)⟩
  g6 : H.get q = some ⟨true, cellB C D M W⟩
  g7 : H.get M = some ⟨true, .mp (.map C.now)⟩
  g8 : H.get W = some ⟨true, .mp (.map C.was)⟩
  g9 : H.get E = some ⟨true, refB d f g⟩
  g10 : H.get f = some ⟨true, strB d.safe⟩
  g11 : H.get g = some ⟨true, .pl (qrow d.pend)⟩
  g12 : H.get p = some ⟨true, rcellB C E R S⟩
  g13 : ∃ u, H.get R = some ⟨u, rowP C.now⟩
  g14 : ∃ u, H.get S = some ⟨u, rowP C.was⟩
  ne : ([i, D, a, b, c, q, M, W, E, f, g, p, R, S].all fun k => decide (0 < k ∧ k < 1000)) = true
  ap : apartB (woP i D a b c q M W E f g p R S) (woL C d) (woL C d) = true
  nz : wrNZ (woP i D a b c q M W E f g p R S) (woL C d) = true
theorem WoAt.sub (h : WoAt H C d i D a b c q M W E f g p R S) : hpSub (woP i D a b c q M W E f g p R S) H (woL C d) := by
  obtain ⟨g1, g2, g3, g4, g5, g6, g7, g8, g9, g10, g11, g12, ⟨u, g13⟩, ⟨v, g14⟩, ne, _, _⟩ := h
  simp at ne
  obtain ⟨n1, n2, n3, n4, n5, n6, n7, n8, n9, n10, n11, n12, n13, n14⟩ := ne
  exact ⟨sub_wr rfl n1.1 n1.2 g1 rfl, sub_wr rfl n2.1 n2.2 g2 rfl, sub_wr rfl n3.1 n3.2 g3 rfl, sub_wr rfl n4.1 n4.2 g4 rfl, sub_wr rfl n5.1 n5.2 g5 rfl, sub_wr rfl n6.1 n6.2 g6 rfl, sub_wr rfl n7.1 n7.2 g7 rfl, sub_wr rfl n8.1 n8.2 g8 rfl, sub_wr rfl n9.1 n9.2 g9 rfl, sub_wr rfl n10.1 n10.2 g10 rfl, sub_wr rfl n11.1 n11.2 g11 rfl, sub_wr rfl n12.1 n12.2 g12 rfl, sub_ro rfl n13.1 g13 rfl, sub_ro rfl n14.1 g14 rfl, trivial⟩
def woM (C : Ce) (d : Fd) (n i D a b c q M W E f g p R S : Nat) (l : List (Nat × Option SO)) : List (Nat × Option SO) := (i, some ⟨true, .sv [.ptr D 0, .ptr q 0, .ptr E 0, .ptr p 0]⟩) :: (D, some ⟨true, devB d n (n + 1) (n + 2)⟩) :: (a, none) :: (b, none) :: (c, none) :: (q, some ⟨true, cellB C D (n + 3) (n + 4)⟩) :: (M, none) :: (W, none) ::
  (E, some ⟨true, refB d (n + 5) (n + 6)⟩) :: (f, none) :: (g, none) :: (p, some ⟨true, rcellB C E R S⟩) :: (n, some ⟨true, secB d.seen⟩) :: (n + 1, some ⟨true, secB d.safe⟩) :: (n + 2, some ⟨true, .pl (prow d.pend)⟩) :: (n + 3, some ⟨true, .mp (.map C.now)⟩) :: (n + 4, some ⟨true, .mp (.map C.was)⟩) :: (n + 5, some ⟨true, strB d.safe⟩) :: (n + 6, some ⟨true, .pl (qrow d.pend)⟩) :: l
theorem opA_lt {k m : Int} {nm t : ByteArray} {r z B : Nat} {b h : Int} (hr : 1000 ≤ r) : ([.ptr 1 0, opA k nm t m r z, .v (.int .i64 b), .v (.int .i64 h)] : List SV).all (ltT 15) = true := by
  have e : idOK 15 r = true := by unfold idOK; rw [decide_eq_true hr, Bool.or_true]
  simp [opA, ltT, ltC, ltB, ltA, idOK, hr]
theorem opA_ren {k m : Int} {nm t : ByteArray} {r z : Nat} {π : List (Nat × Nat)} (hr : 1000 ≤ r) (ho : okπ 1 π = true) : (opA k nm t m r z).ren π = opA k nm t m r z := by
  have h := okπ_spec ho r (.inr hr)
  show SV.agg [_, _, _, _, SV.sl (rn π r) 0 z 1] = _
  rw [h]; rfl
theorem stepL {k m B h : Int} {nm t : ByteArray} {r z : Nat} {C2 : Ce} {d2 : Fd} {lx : List (Nat × Option SO)} {nc R2 S2 : Nat} (hw : WoAt H C d i D a b c q M W E f g p R S) (hr : 1000 ≤ r)
    (hs : SpecAt Tryz.prog nwstep [.ptr 1 0, opA k nm t m r z, .v (.int .i64 B), .v (.int .i64 h)] ⟨woL C d, H.x⟩ 15 (.v (.bool true)) ⟨woN C2 d2 R2 S2 lx, H.x⟩ nc) (hcan : canon 15 nc (woL C d) (woN C2 d2 R2 S2 lx) = true) (hn : n + (nc - 15) ≤ 1000) :
    SpecAt Tryz.prog nwstep [.ptr i 0, opA k nm t m r z, .v (.int .i64 B), .v (.int .i64 h)] H n (.v (.bool true)) ⟨updOf 15 (woL C d) (newIds (nc - 15) 15 n (woP i D a b c q M W E f g p R S)) (woN C2 d2 R2 S2 lx) ++ H.l, H.x⟩ (n + (nc - 15)) := by
  have := lift (n := n) hs (woP i D a b c q M W E f g p R S) hcan rfl (opA_lt (B := 0) hr) (by omega) rfl rfl hw.sub hw.ap hw.nz (fun _ => hn)
  rw [List.map_cons, List.map_cons, opA_ren hr rfl] at this
  exact this
end Go.Sx

/- Cells: calls, plain; what a crash leaves of a commit. -/
set_option linter.unusedVariables false
set_option linter.unusedSimpArgs false
set_option maxRecDepth 100000
namespace Go.Sx
open Go.Proofs
variable {d d' : Fd} {C C' : Ce}
theorem luS_map {f : ByteArray → Value} {s : ByteArray} : ∀ {l : List ByteArray}, s ∈ l → luS (l.map fun nm => (.string nm, f nm)) s = some (f s)
  | t :: l, h => by
    rw [List.map_cons]
    unfold luS
    by_cases c : t = s
    · subst c
      rw [if_pos ((keyIsE (e := (.string t, f t))).2 rfl)]
    · rw [if_neg (fun h2 => c (by have := (keyIsE (e := (.string t, f t))).1 h2; cases this; rfl))]
      exact luS_map ((List.mem_cons.1 h).resolve_left fun e => c e.symm)
theorem tOf_srt {es : List (Value × Value)} {s : ByteArray} (h : s.data.toList ∈ es.map keyB) : tOf (srtE es) s = tOf es s := by
  have hm : s ∈ srtK es := by
    have h1 := srtL (es := es)
    have := (List.mergeSort_perm (es.map keyB) fun x y => decide (x ≤ y)).mem_iff.2 h
    rw [← h1] at this
    obtain ⟨t, ht, e⟩ := List.mem_map.1 this
    rw [← kb_inj e]; exact ht
  have : luS (srtE es) s = some (.agg ⟨[.string (tOf es s)]⟩) := luS_map hm
  unfold tOf
  rw [this]
  rfl
theorem prs_srt {es : List (Value × Value)} (h : Es es) : prs (srtE es) = prs es := by
  refine rise_ext (prs_rise h.srt.nd) (prs_rise h.nd) fun s => ?_
  rw [lk_prs, lk_prs, keyB_srt, srtL]
  have hm : (s.data.toList ∈ (es.map keyB).mergeSort fun x y => decide (x ≤ y)) = (s.data.toList ∈ es.map keyB) := propext (List.mergeSort_perm _ _).mem_iff
  simp only [hm]
  by_cases c : s.data.toList ∈ es.map keyB
  · rw [if_pos c, if_pos c, tOf_srt c]
  · rw [if_neg c, if_neg c]
structure Wo (B h m t : Nat) (C : Ce) (d : Fd) : Prop where
  base : C.base = B
  half : C.half = h
  dead : C.dead = false
  now : Es C.now
  was : Es C.was
  num : C.num ≤ t
  reg : Reg d.seen B h C.num C.last C.was
  good : GoodP true m d.st d.seen [] d
  pl : Pl d m (200 * t)
theorem Wo.last {B h m t : Nat} (w : Wo B h m t C d) : C.last ≤ 1 := w.reg.1
theorem Wo.ok {B h m t : Nat} (w : Wo B h m t C d) (hh : 2 ≤ h ∧ h ≤ 129) (hB : B ≤ 4096) (ht : t ≤ 254) : C.ok :=
  ⟨w.now, w.was, by rw [w.half]; exact hh, by rw [w.base]; exact hB, w.last, by have := w.num; omega⟩
theorem Wo.set {B h m t : Nat} (w : Wo B h m t C d) {es : List (Value × Value)} (he : Es es) : Wo B h m (t + 1) { C with now := es } d :=
  ⟨w.base, w.half, w.dead, he, w.was, by have := w.num; show C.num ≤ t + 1; omega, w.reg, w.good, w.pl.mono (by omega)⟩
theorem Wo.skip {B h m t : Nat} (w : Wo B h m t C d) : Wo B h m (t + 1) C d :=
  ⟨w.base, w.half, w.dead, w.now, w.was, by have := w.num; omega, w.reg, w.good, w.pl.mono (by omega)⟩
theorem Wo.new {B h m : Nat} (hl : B + 2 * h ≤ m) (hm : m ≤ 4096) (hh : 1 ≤ h) : Wo B h m 0 ⟨B, h, 0, 1, false, [], []⟩ (newD m) :=
  ⟨rfl, rfl, rfl, Es.nil, Es.nil, Nat.le_refl _, by rw [goodNew.seen']; exact Reg.new hl hh, by have := goodNew (m := m); rw [show (newD m).seen = List.replicate m (zi 64) from goodNew.seen']; exact this, Pl.new hm⟩
theorem Wo.to {B h m t : Nat} (w : Wo B h m t C d) (hl : B + 2 * h ≤ m) : ceTo C + C.half ≤ m := by
  have := w.last
  unfold ceTo
  rw [w.base, w.half]
  have hc : C.last = 0 ∨ C.last = 1 := by omega
  rcases hc with e | e <;> rw [e] <;> omega
theorem Wo.commit {B h m t : Nat} (w : Wo B h m t C d) (hl : B + 2 * h ≤ m) (hh : 2 ≤ h ∧ h ≤ 129) (ht : t ≤ 254) :
    coR C d = (4, C, d) ∨ ∃ C' d', coR C d = (0, C', d') ∧ C' = { C with last := 1 - C.last, num := C.num + 1, was := C.now } ∧ Wo B h m (t + 1) C' d' ∧ ∀ k, k < ceTo C ∨ ceTo C + h ≤ k → d'.seen.getD k [] = d.seen.getD k [] := by
  have hn := w.num
  by_cases hc : 64 * (C.half - 1) < (encB C.now).size
  · left
    unfold coR
    rw [if_neg (by rw [w.dead]; decide), if_pos hc]
  · right
    obtain ⟨d1, h1, h2⟩ := coR_good w.dead (by rw [w.half]; exact hh.1) (by omega) w.good (by rw [w.base, w.half]; exact hl) w.last
    have hp := coR_pl (C := C) w.pl (by omega) (by rw [w.half]; exact hh.2)
    rw [h1] at hp
    have hr := w.reg.done (by rw [w.pl.len]; exact hl) hh.1 (es := C.now) (by rw [← w.half]; omega) (by omega) w.now
    have hto : B + (1 - C.last) * h = ceTo C := by unfold ceTo; rw [w.base, w.half]
    rw [hto] at hr
    refine ⟨_, d1, h1, rfl, ⟨w.base, w.half, w.dead, w.now, w.now, by show C.num + 1 ≤ t + 1; omega, ?_, ?_, hp.mono (by omega)⟩, ?_⟩
    · rw [h2.seen']; exact hr
    · have := h2.seen'
      have hst := h2.st
      rw [this, hst]; exact h2
    · intro k hk
      rw [h2.seen']
      refine done_ne ?_
      have := room_ch (I := encB C.now) (h := C.half) (by omega)
      rw [w.half] at this
      omega
theorem Wo.cut {B h m t : Nat} (w : Wo B h m t C d) (hl : B + 2 * h ≤ m) (hh : 2 ≤ h ∧ h ≤ 129) (ht : t ≤ 254) {k : Int} (hk : k ≤ 1000) {ks : List Int} :
    ∃ e C' d2, coR C { d with fa := max k 0 } = (e, C', d2) ∧ Pl d2 m (200 * t + 200) ∧
      ((e = 4 ∧ C' = C ∧ Reg (crD d2 ks).seen B h C.num C.last C.was) ∨
       (e = 0 ∧ C' = { C with last := 1 - C.last, num := C.num + 1, was := C.now } ∧ Reg (crD d2 ks).seen B h (C.num + 1) (1 - C.last) C.now) ∨
       (e = 7 ∧ C' = { C with dead := true } ∧ (Reg (crD d2 ks).seen B h (C.num + 1) (1 - C.last) C.now ∨ Reg (crD d2 ks).seen B h C.num C.last C.was))) := by
  have hn := w.num
  have hP1 : Pl { d with fa := max k 0 } m (200 * t + 1) := w.pl.fall (by omega)
  have g1 : GoodP false m d.st d.seen [] { d with fa := max k 0 } := ⟨w.good.off, w.good.safe, w.good.pend, hP1.sn, hP1.len, rfl, fun h => by cases h⟩
  have hnil : ∀ {d2 : Fd} {X : List (List Int)} {st : Int}, GoodP false m st X [] d2 → (crD d2 ks).seen = X := by
    intro d2 X st g
    show crl d2.safe d2.pend (keepN ks) d2.pend.length = X
    rw [g.safe, g.pend]; rfl
  by_cases hc : 64 * (C.half - 1) < (encB C.now).size
  · refine ⟨4, C, _, ?_, hP1.mono (by omega), .inl ⟨rfl, rfl, ?_⟩⟩
    · unfold coR
      rw [if_neg (by rw [w.dead]; decide), if_pos hc]
    · rw [hnil g1]; exact w.reg
  · have hz : (encB C.now).size ≤ 64 * (h - 1) := by rw [← w.half]; omega
    have hI := coR_inv (C := C) (d := { d with fa := max k 0 }) (by rw [w.half]; exact hh.1) (by omega) g1 (by rw [w.base, w.half]; exact hl) w.last
    have hp := coR_pl (C := C) hP1 (by omega) (by rw [w.half]; exact hh.2)
    have hto : ceTo C = B + (1 - C.last) * h := by unfold ceTo; rw [w.base, w.half]
    rw [hto] at hI
    rcases hI with ⟨h0, g⟩ | ⟨_, h7, hA⟩
    · have hcr : coR C { d with fa := max k 0 } = (0, { C with last := 1 - C.last, num := C.num + 1, was := C.now }, (coQ C { d with fa := max k 0 }).2) := by
        unfold coR
        rw [if_neg (by rw [w.dead]; decide), if_neg hc, if_neg (by rw [h0]; decide)]
      rw [hcr] at hp
      refine ⟨_, _, _, hcr, hp.mono (by omega), .inr (.inl ⟨rfl, rfl, ?_⟩)⟩
      rw [hnil g]
      exact w.reg.done (by rw [w.pl.len]; exact hl) hh.1 hz (by omega) w.now
    · have hcr : coR C { d with fa := max k 0 } = (7, { C with dead := true }, (coQ C { d with fa := max k 0 }).2) := by
        unfold coR
        rw [if_neg (by rw [w.dead]; decide), if_neg hc, if_pos (by rw [h7]; decide), h7]
      rw [hcr] at hp
      exact ⟨_, _, _, hcr, hp.mono (by omega), .inr (.inr ⟨rfl, rfl, (w.reg.torn (ks := ks) (by rw [w.pl.len]; exact hl) hh.1 hz (by omega) w.now hA).1⟩)⟩
end Go.Sx

/- Trees, at this program. -/
set_option linter.unusedVariables false
set_option linter.unusedSimpArgs false
set_option maxRecDepth 100000
namespace Go.Sx
attribute [local go_sem ↓] bind_mk intsB_mk strsB_mk svB_mk fnVC ob_some vc_skip vc_exit vc_ret vc_seq vc_block kSeq_normal kSeq_exit kSeq_ret kBlock_normal kBlock_exit kBlock_ret vc_reg vc_regD vc_cond condK_true condK_false vc_loop kLoop_exit kLoop_ret kRoll_normal kRoll_exit kRoll_ret vcOps_nil vcOps_cons gd_bool gd_undef put_some put_none vcT_fin vcT_pure vcT_act vcT_acts vcT_stop stab_none stab_some stabM_nil stabM_cons stabO_ld stabO_ldn stabO_slP stabO_b2s fldOf_ai fldOf_agg fldOf_ait fldOf_aggt intsOf_nil intsOf_cons strsOf_nil strsOf_cons c_omap ob_if lk_nil lk_cons ev_t ev_k z_mov z_pick z_bin z_binB z_binP z_un z_r2s z_conv z_s2b z_b2s z_mkM z_luM z_upM z_lenM lenMk_mp lenMk_nil plsOf_v z_delM asM_so plV_v plV_agg mpOf_mp mpOf_nil mpUp_mp asM_mp luV_ok luV_v z_allocT aggOf_mk z_boxT z_alloc z_bld z_bldI z_rowI z_rowS z_ld z_ldn z_st z_stn asN_ptr asN_fn z_nilck z_fld z_fadr z_idxA z_idxP z_idxS z_idxV z_slS z_slL z_slP z_mk z_lenS z_lenL z_app appC_ints appC_pl appC_sv appC_strs isS_strs loose_ints loose_pl loose_sv z_slM z_callv callvK_fn callvK_f callvK_yl vc_rangeF rfEnd_eq rfGo_none rfGo_ret rfGo_exit yGo_mk yEnd_n yEnd_r yEnd_e yRdy_mk yMid_n putPs_nil putPs_cons leaf_v leaf_ptr leaf_sl leaf_yl leaf_mp z_appS z_appST z_appZ z_cpyS z_mkfn reps_int reps_str z_rowV z_slnil nilK_zero z_cpy z_call asT_tup z_extT z_box boxOf_ai boxOf_agg boxOf_int boxOf_str boxOf_bool boxOf_ptr boxOf_sl sbin_int sbin_str sbinB_mk sbinP_nn sbinP_pn sbinP_np i_add i_sub i_mul i_quo i_rem i_and i_or i_xor i_andNot i_shl i_shr i_eql i_neq i_lss i_leq i_gtr i_geq st_add st_eql st_neq st_lss st_leq st_gtr st_geq bo_eql bo_neq pt_eql pt_neq un_neg un_xor un_not asI_mk asB_mk asS_mk asP_mk asSl_mk asBy_mk bnd_none bnd_some get_mk hput_mk hdel_mk kill_eq wrOf_eq rowOf_eq rsvs_0 rsvs_1 rsvs_2 rsvs_3 rsv_t rsv_c1 rsv_cn nt_v nt_ptr nt_sl nt_agg nt_ai get_ints get_strs get_pl get_sv getN_ints getN_sv set_ints set_strs set_sv setN_ints setN_sv part_ints part_strs part_sv cat_ints cat_strs cat_sv over_ints over_strs over_sv ones_ints ones_strs evs_nil evs_cons condK_eqt condK_eqf det_callP V_ns V_nn V_gs V_gn obC_mk fresh_ev freshT_ev freshR_ev setN_plagg setN_intsv setN_svai setN_svagg over_intsv set_pl setN_pl setN_plai getN_pl getN_strs part_pl cat_pl over_pl over_plints z_mm
attribute [local go_sem] initTm ne_eq not_true_eq_false not_false_eq_true true_and and_true List.length_cons List.length_nil Int.toNat_natCast Nat.add_zero Nat.zero_add Nat.mul_one List.getElem?_cons_zero List.drop_zero List.take_length List.take_succ_cons List.take_zero List.take_nil List.drop_succ_cons Option.map_some Nat.le_refl implies_true List.getElem?_cons_succ decide_true decide_false Bool.not_true Bool.not_false beq_self_eq_true Nat.succ_ne_self Nat.one_ne_zero Nat.zero_ne_one vk_mk hk_mk nk_mk tok_eq plsOf_map intsOf_map bodyOf_pl bodyOf_ints bodyOf_strs bodyOf_sv part_aggv part_agg part_ai part_int part_str part_bool part_sl part_ptr part_nil numsOf_map u_int u_str u_bool u_pnil u_sl u_ptr u_oci u_ocs evq_nil evq_cons fillS_nil fillS_cons u_ocb ones_pl cells_sv cells_ints cells_strs cells_pl smms_nil smms_cons smm_min smm_max plsOf_nil List.nil_append List.all_cons List.all_nil Bool.and_self Bool.true_and Bool.and_true zws_len zw_len zi_len List.set_cons_zero List.set_cons_succ List.flatMap_cons List.flatMap_nil List.append_nil
attribute [local go_sem_proc] Nat.reduceEqDiff Nat.reduceAdd Nat.reduceMul Nat.reduceLT Nat.reduceLeDiff Nat.reduceSub Int.reduceToNat Int.reduceLE Int.reduceLT reduceCtorEq Int.reduceEq Int.reduceGT Int.reduceGE Int.reduceNeg
attribute [local go_sem_proc ↓] reduceIte
section
open Go.Proofs
variable {H : Hp} {n : Nat} {x : Nat → Option SO}
theorem rfailW {s : ByteArray} {e f : Int} : fnVC CT mrRFail [.ptr 1 0, .v (.int .i64 f)] ⟨[(1, some (rdO s e))], x⟩ 2 fun v H' n' => Sub 2 ⟨[(0, .tup [])], ⟨[(1, some (rdO s (failE e f)))], x⟩, 2⟩ ⟨[(0, v)], H', n'⟩ := by
  unfold mrRFail rdO
  unfold failE
  by_cases he : e = 0
  · have g0 : decide (e = 0) = true := decide_eq_true he
    rw [if_pos he]
    simp -implicitDefEqProofs only [↓fnVC, initTm]
    simp -implicitDefEqProofs only [go_sem, g0]
    refine sub_mk [] rfl rfl rfl ?_
    simp only [tmSub, hpSub, objSub, eqTm, eqHp, rn, lk, SV.ren, SV.renC, SV.renB, SV.renA, ren_ints, ren_strs, ren_pl, ren_svs, SV.v.injEq, Value.int.injEq, Body.ints.injEq, SV.ptr.injEq, SV.sl.injEq, Value.string.injEq, Value.bool.injEq, List.map_cons, List.map_nil, forall_const, Nat.reduceLT, Nat.lt_add_one, imp_self, true_and, and_true, and_self, ob_some, get_mk, lk_cons, ↓reduceIte, Nat.reduceEqDiff, ne_eq, not_true_eq_false, not_false_eq_true, Nat.one_ne_zero, Nat.zero_ne_one, Nat.succ_ne_self, Nat.reduceAdd, Bool.false_eq_true, false_implies, implies_true, reduceCtorEq]
  · have g0 : decide (e = 0) = false := decide_eq_false he
    rw [if_neg he]
    simp -implicitDefEqProofs only [↓fnVC, initTm]
    simp -implicitDefEqProofs only [go_sem, g0]
    refine sub_mk [] rfl rfl rfl ?_
    simp only [tmSub, hpSub, objSub, eqTm, eqHp, rn, lk, SV.ren, SV.renC, SV.renB, SV.renA, ren_ints, ren_strs, ren_pl, ren_svs, SV.v.injEq, Value.int.injEq, Body.ints.injEq, SV.ptr.injEq, SV.sl.injEq, Value.string.injEq, Value.bool.injEq, List.map_cons, List.map_nil, forall_const, Nat.reduceLT, Nat.lt_add_one, imp_self, true_and, and_true, and_self, ob_some, get_mk, lk_cons, ↓reduceIte, Nat.reduceEqDiff, ne_eq, not_true_eq_false, not_false_eq_true, Nat.one_ne_zero, Nat.zero_ne_one, Nat.succ_ne_self, Nat.reduceAdd, Bool.false_eq_true, false_implies, implies_true, reduceCtorEq]
theorem rfailSp {s : ByteArray} {e f : Int} {i : Nat} (hg : H.get i = some (rdO s e)) (hi : 0 < i ∧ i < 1000) :
    SpecAt Tryz.prog nrRFail [.ptr i 0, .v (.int .i64 f)] H n (.tup []) ⟨(i, some (rdO s (failE e f))) :: H.l, H.x⟩ n := by
  have := lift (n := n) (okT.spec trRFail (rfailW (x := H.x) (s := s) (e := e) (f := f))) [(1, i)] rfl rfl rfl (by omega) rfl rfl
    ⟨sub_wr rfl hi.1 hi.2 hg rfl, trivial⟩ (by simp [apartB, apart1, rn, lk]) (by simp [wrNZ, rn, lk]; omega) (by omega)
  exact this
theorem rrawW {s : ByteArray} {e : Int} {k : Nat} (hk : k ≤ 1048576) : fnVC CT mrRRaw [.ptr 1 0, .v (.int .i64 k)] ⟨[(1, some (rdO s e))], x⟩ 2 fun v H' n' => Sub 2 ⟨[(0, .v (.string (rawT s e k)))], ⟨[(1, some (rdO (rawS s e k) (rawE s e k)))], x⟩, 2⟩ ⟨[(0, v)], H', n'⟩ := by
  unfold mrRRaw
  have g1 : decide ((k : Int) < 0) = false := decide_eq_false (by omega)
  by_cases he : e = 0
  · subst he
    have g0 : decide ((0 : Int) = 0) = true := rfl
    by_cases hs : s.size < k
    · have g2 : decide ((k : Int) > (s.size : Int)) = true := decide_eq_true (by omega)
      have r1 : rawT s 0 k = ⟨#[]⟩ := by unfold rawT; rw [if_pos (.inr hs)]
      have r2 : rawS s 0 k = s := by unfold rawS; rw [if_pos (.inr hs)]
      have r3 : rawE s 0 k = 2 := by unfold rawE; rw [if_neg (by simp), if_pos hs]
      simp -implicitDefEqProofs only [↓fnVC, initTm]
      simp -implicitDefEqProofs only [go_sem, g0, g1, g2, rdO]
      refine at_call trRFail (rfailSp (i := 1) (s := s) (e := 0) (by rfl) (by decide)) ?_
      have r4 : failE 0 2 = 2 := rfl
      simp -implicitDefEqProofs only [go_sem]
      rw [r1, r2, r3, r4]
      refine sub_mk [] rfl rfl rfl ?_
      simp only [tmSub, hpSub, objSub, eqTm, eqHp, rn, lk, SV.ren, SV.renC, SV.renB, SV.renA, ren_ints, ren_strs, ren_pl, ren_svs, SV.v.injEq, Value.int.injEq, Body.ints.injEq, SV.ptr.injEq, SV.sl.injEq, Value.string.injEq, Value.bool.injEq, List.map_cons, List.map_nil, forall_const, Nat.reduceLT, Nat.lt_add_one, imp_self, true_and, and_true, and_self, ob_some, get_mk, lk_cons, ↓reduceIte, Nat.reduceEqDiff, ne_eq, not_true_eq_false, not_false_eq_true, Nat.one_ne_zero, Nat.zero_ne_one, Nat.succ_ne_self, Nat.reduceAdd, Bool.false_eq_true, false_implies, implies_true, reduceCtorEq, rdO]
    · have g2 : decide ((k : Int) > (s.size : Int)) = false := decide_eq_false (by omega)
      have r1 : rawT s 0 k = s.extract 0 k := by unfold rawT; rw [if_neg (by simp; omega)]
      have r2 : rawS s 0 k = s.extract k s.size := by unfold rawS; rw [if_neg (by simp; omega)]
      have r3 : rawE s 0 k = 0 := by unfold rawE; rw [if_neg (by simp), if_neg hs]
      simp -implicitDefEqProofs only [↓fnVC, initTm]
      simp -implicitDefEqProofs only [go_sem, g0, g1, g2, rdO]
      rw [r1, r2, r3]
      refine ⟨⟨by omega, by omega⟩, ⟨by omega, by omega, by omega⟩, ?_⟩
      refine sub_mk [] rfl rfl rfl ?_
      simp only [tmSub, hpSub, objSub, eqTm, eqHp, rn, lk, SV.ren, SV.renC, SV.renB, SV.renA, ren_ints, ren_strs, ren_pl, ren_svs, SV.v.injEq, Value.int.injEq, Body.ints.injEq, SV.ptr.injEq, SV.sl.injEq, Value.string.injEq, Value.bool.injEq, List.map_cons, List.map_nil, forall_const, Nat.reduceLT, Nat.lt_add_one, imp_self, true_and, and_true, and_self, ob_some, get_mk, lk_cons, ↓reduceIte, Nat.reduceEqDiff, ne_eq, not_true_eq_false, not_false_eq_true, Nat.one_ne_zero, Nat.zero_ne_one, Nat.succ_ne_self, Nat.reduceAdd, Bool.false_eq_true, false_implies, implies_true, reduceCtorEq]
  · have g0 : decide (e = 0) = false := decide_eq_false he
    have r1 : rawT s e k = ⟨#[]⟩ := by unfold rawT; rw [if_pos (.inl he)]
    have r2 : rawS s e k = s := by unfold rawS; rw [if_pos (.inl he)]
    have r3 : rawE s e k = e := by unfold rawE; rw [if_pos he]
    simp -implicitDefEqProofs only [↓fnVC, initTm]
    simp -implicitDefEqProofs only [go_sem, g0, rdO]
    rw [r1, r2, r3]
    refine sub_mk [] rfl rfl rfl ?_
    simp only [tmSub, hpSub, objSub, eqTm, eqHp, rn, lk, SV.ren, SV.renC, SV.renB, SV.renA, ren_ints, ren_strs, ren_pl, ren_svs, SV.v.injEq, Value.int.injEq, Body.ints.injEq, SV.ptr.injEq, SV.sl.injEq, Value.string.injEq, Value.bool.injEq, List.map_cons, List.map_nil, forall_const, Nat.reduceLT, Nat.lt_add_one, imp_self, true_and, and_true, and_self, ob_some, get_mk, lk_cons, ↓reduceIte, Nat.reduceEqDiff, ne_eq, not_true_eq_false, not_false_eq_true, Nat.one_ne_zero, Nat.zero_ne_one, Nat.succ_ne_self, Nat.reduceAdd, Bool.false_eq_true, false_implies, implies_true, reduceCtorEq]
theorem rrawSp {s : ByteArray} {e : Int} {k i : Nat} (hg : H.get i = some (rdO s e)) (hi : 0 < i ∧ i < 1000) (hk : k ≤ 1048576) :
    SpecAt Tryz.prog nrRRaw [.ptr i 0, .v (.int .i64 k)] H n (.v (.string (rawT s e k))) ⟨(i, some (rdO (rawS s e k) (rawE s e k))) :: H.l, H.x⟩ n := by
  have := lift (n := n) (okT.spec trRRaw (rrawW (x := H.x) (s := s) (e := e) hk)) [(1, i)] rfl rfl rfl (by omega) rfl rfl
    ⟨sub_wr rfl hi.1 hi.2 hg rfl, trivial⟩ (by simp [apartB, apart1, rn, lk]) (by simp [wrNZ, rn, lk]; omega) (by omega)
  exact this
variable {H : Hp} {n : Nat} {x : Nat → Option SO}
theorem reightSp {s : ByteArray} {e : Int} {i : Nat} (hg : H.get i = some (rdO s e)) (hi : 0 < i ∧ i < 1000) :
    SpecAt Tryz.prog nrRNumber [.ptr i 0, .v (.int .i64 8)] H n (.v (.int .i64 (num (rawT s (preE s e) 8) : Nat))) ⟨(i, some (rdO (rawS s (preE s e) 8) (rawE s (preE s e) 8))) :: H.l, H.x⟩ n := by
  have := lift (n := n) (okT.spec trRNumber (args := [.ptr 1 0, .v (.int .i64 8)]) (H := ⟨[(1, some (rdO s e))], H.x⟩) (n := 2) (v := .v (.int .i64 (num (rawT s (preE s e) 8) : Nat))) (H' := ⟨[(1, some (rdO (rawS s (preE s e) 8) (rawE s (preE s e) 8)))], H.x⟩) (n' := 2) (by
    have hok := eight_ok (s := s) (e := e)
    have g8 : decide ((8 : Int) = 8) = true := rfl
    unfold mrRNumber
    simp -implicitDefEqProofs only [↓fnVC, initTm]
    by_cases h0 : e = 0
    · have a0 : decide (e = 0) = true := decide_eq_true h0
      by_cases h8 : 8 ≤ s.size
      · have g0 : decide ((s.size : Int) ≥ 8) = true := decide_eq_true (by omega)
        have hb := bts_getD (t := s) (j := 0) (by omega)
        by_cases h128 : 128 ≤ (nbs s).getD 0 0
        · have g1 : decide ((((nbs s).getD 0 0 : Nat) : Int) ≥ 128) = true := decide_eq_true (by omega)
          have hE : failE e 3 = preE s e := by unfold failE preE; rw [if_pos h0, if_pos ⟨h0, h8, h128⟩]
          simp -implicitDefEqProofs only [go_sem, g8, a0, rdO, g0, hb, g1]
          refine ⟨by omega, ?_⟩
          refine at_call trRFail (rfailSp (i := 1) (s := s) (e := e) (f := 3) (by rfl) (by decide)) ?_
          rw [hE]
          simp -implicitDefEqProofs only [go_sem]
          refine at_call trRRaw (rrawSp (i := 1) (k := 8) (s := s) (e := (preE s e)) (by rfl) (by decide) (by decide)) ?_
          generalize rawT s (preE s e) 8 = T at hok ⊢
          have hsz : T.size ≤ 8 := by rcases hok with h | h <;> omega
          simp -implicitDefEqProofs only [go_sem]
          refine loop_fam (fun (j : Nat) => j ≤ T.size) (fun j => ⟨[(5, .v (.string T)), (6, .v (.int .i64 (nvl ((nbs T).take j) : Nat))), (7, .v (.int .i64 j))], ⟨[(1, some (rdO (rawS s (preE s e) 8) (rawE s (preE s e) 8)))], H.x⟩, 2⟩) (fun j => T.size - j) 0 (Nat.zero_le _) ?_ ?_
          · refine sub_mk [] rfl rfl rfl ?_
            simp only [tmSub, hpSub, objSub, eqTm, eqHp, rn, lk, SV.ren, SV.renC, SV.renB, SV.renA, ren_ints, ren_strs, ren_pl, ren_svs, SV.v.injEq, Value.int.injEq, Body.ints.injEq, SV.ptr.injEq, SV.sl.injEq, Value.string.injEq, Value.bool.injEq, List.map_cons, List.map_nil, forall_const, Nat.reduceLT, Nat.lt_add_one, imp_self, true_and, and_true, and_self, ob_some, get_mk, lk_cons, ↓reduceIte, Nat.reduceEqDiff, ne_eq, not_true_eq_false, not_false_eq_true, Nat.one_ne_zero, Nat.zero_ne_one, Nat.succ_ne_self, Nat.reduceAdd, Bool.false_eq_true, false_implies, implies_true, reduceCtorEq]
            exact ⟨⟨rfl, rfl⟩, rfl⟩
          · intro j hj
            simp -implicitDefEqProofs only [go_sem]
            refine condK_bb (fun c => ?_) (fun c => ?_)
            · have c1 : j < T.size := by have := of_decide_eq_true c; omega
              have hb := bts_getD c1
              have hlt := nbs_get_lt c1
              have hv := hok.lt c1
              have w1 := ishl_8 hv
              have w2 : IntKind.i64.wrap (((nbs T).getD j 0 : Nat) : Int) = (((nbs T).getD j 0 : Nat) : Int) := wrap_i64 (by omega) (by omega)
              have w3 := ior_byte hv hlt
              have w4 : IntKind.i64.wrap ((j : Int) + 1) = ((j + 1 : Nat) : Int) := by rw [wrap_i64 (by omega) (by omega)]; omega
              have hs := num_step c1
              simp -implicitDefEqProofs only [go_sem, c, hb, w1, w2, w3, w4]
              refine ⟨⟨by omega, by omega⟩, ?_⟩
              refine kLoop_mk (j + 1) (by omega) (by omega) ?_
              refine sub_mk [] rfl rfl rfl ?_
              simp only [tmSub, hpSub, objSub, eqTm, eqHp, rn, lk, SV.ren, SV.renC, SV.renB, SV.renA, ren_ints, ren_strs, ren_pl, ren_svs, SV.v.injEq, Value.int.injEq, Body.ints.injEq, SV.ptr.injEq, SV.sl.injEq, Value.string.injEq, Value.bool.injEq, List.map_cons, List.map_nil, forall_const, Nat.reduceLT, Nat.lt_add_one, imp_self, true_and, and_true, and_self, ob_some, get_mk, lk_cons, ↓reduceIte, Nat.reduceEqDiff, ne_eq, not_true_eq_false, not_false_eq_true, Nat.one_ne_zero, Nat.zero_ne_one, Nat.succ_ne_self, Nat.reduceAdd, Bool.false_eq_true, false_implies, implies_true, reduceCtorEq, w4, hs]
              rfl
            · have c1 : j = T.size := by have := of_decide_eq_false c; omega
              subst c1
              have hn : nvl ((nbs T).take T.size) = num T := by unfold num; rw [List.take_of_length_le (by rw [nbs_len]; exact Nat.le_refl _)]
              simp -implicitDefEqProofs only [go_sem, c]
              rw [hn]
              refine sub_mk [] rfl rfl rfl ?_
              simp only [tmSub, hpSub, objSub, eqTm, eqHp, rn, lk, SV.ren, SV.renC, SV.renB, SV.renA, ren_ints, ren_strs, ren_pl, ren_svs, SV.v.injEq, Value.int.injEq, Body.ints.injEq, SV.ptr.injEq, SV.sl.injEq, Value.string.injEq, Value.bool.injEq, List.map_cons, List.map_nil, forall_const, Nat.reduceLT, Nat.lt_add_one, imp_self, true_and, and_true, and_self, ob_some, get_mk, lk_cons, ↓reduceIte, Nat.reduceEqDiff, ne_eq, not_true_eq_false, not_false_eq_true, Nat.one_ne_zero, Nat.zero_ne_one, Nat.succ_ne_self, Nat.reduceAdd, Bool.false_eq_true, false_implies, implies_true, reduceCtorEq]
              rfl
        · have g1 : decide ((((nbs s).getD 0 0 : Nat) : Int) ≥ 128) = false := decide_eq_false (by omega)
          have hE : preE s e = e := by unfold preE; rw [if_neg (fun h => h128 h.2.2)]
          rw [hE] at hok ⊢
          simp -implicitDefEqProofs only [go_sem, g8, a0, rdO, g0, hb, g1]
          refine ⟨by omega, ?_⟩
          refine at_call trRRaw (rrawSp (i := 1) (k := 8) (s := s) (e := e) (by rfl) (by decide) (by decide)) ?_
          generalize rawT s e 8 = T at hok ⊢
          have hsz : T.size ≤ 8 := by rcases hok with h | h <;> omega
          simp -implicitDefEqProofs only [go_sem]
          refine loop_fam (fun (j : Nat) => j ≤ T.size) (fun j => ⟨[(5, .v (.string T)), (6, .v (.int .i64 (nvl ((nbs T).take j) : Nat))), (7, .v (.int .i64 j))], ⟨[(1, some (rdO (rawS s e 8) (rawE s e 8)))], H.x⟩, 2⟩) (fun j => T.size - j) 0 (Nat.zero_le _) ?_ ?_
          · refine sub_mk [] rfl rfl rfl ?_
            simp only [tmSub, hpSub, objSub, eqTm, eqHp, rn, lk, SV.ren, SV.renC, SV.renB, SV.renA, ren_ints, ren_strs, ren_pl, ren_svs, SV.v.injEq, Value.int.injEq, Body.ints.injEq, SV.ptr.injEq, SV.sl.injEq, Value.string.injEq, Value.bool.injEq, List.map_cons, List.map_nil, forall_const, Nat.reduceLT, Nat.lt_add_one, imp_self, true_and, and_true, and_self, ob_some, get_mk, lk_cons, ↓reduceIte, Nat.reduceEqDiff, ne_eq, not_true_eq_false, not_false_eq_true, Nat.one_ne_zero, Nat.zero_ne_one, Nat.succ_ne_self, Nat.reduceAdd, Bool.false_eq_true, false_implies, implies_true, reduceCtorEq]
            exact ⟨⟨rfl, rfl⟩, rfl⟩
          · intro j hj
            simp -implicitDefEqProofs only [go_sem]
            refine condK_bb (fun c => ?_) (fun c => ?_)
            · have c1 : j < T.size := by have := of_decide_eq_true c; omega
              have hb := bts_getD c1
              have hlt := nbs_get_lt c1
              have hv := hok.lt c1
              have w1 := ishl_8 hv
              have w2 : IntKind.i64.wrap (((nbs T).getD j 0 : Nat) : Int) = (((nbs T).getD j 0 : Nat) : Int) := wrap_i64 (by omega) (by omega)
              have w3 := ior_byte hv hlt
              have w4 : IntKind.i64.wrap ((j : Int) + 1) = ((j + 1 : Nat) : Int) := by rw [wrap_i64 (by omega) (by omega)]; omega
              have hs := num_step c1
              simp -implicitDefEqProofs only [go_sem, c, hb, w1, w2, w3, w4]
              refine ⟨⟨by omega, by omega⟩, ?_⟩
              refine kLoop_mk (j + 1) (by omega) (by omega) ?_
              refine sub_mk [] rfl rfl rfl ?_
              simp only [tmSub, hpSub, objSub, eqTm, eqHp, rn, lk, SV.ren, SV.renC, SV.renB, SV.renA, ren_ints, ren_strs, ren_pl, ren_svs, SV.v.injEq, Value.int.injEq, Body.ints.injEq, SV.ptr.injEq, SV.sl.injEq, Value.string.injEq, Value.bool.injEq, List.map_cons, List.map_nil, forall_const, Nat.reduceLT, Nat.lt_add_one, imp_self, true_and, and_true, and_self, ob_some, get_mk, lk_cons, ↓reduceIte, Nat.reduceEqDiff, ne_eq, not_true_eq_false, not_false_eq_true, Nat.one_ne_zero, Nat.zero_ne_one, Nat.succ_ne_self, Nat.reduceAdd, Bool.false_eq_true, false_implies, implies_true, reduceCtorEq, w4, hs]
              rfl
            · have c1 : j = T.size := by have := of_decide_eq_false c; omega
              subst c1
              have hn : nvl ((nbs T).take T.size) = num T := by unfold num; rw [List.take_of_length_le (by rw [nbs_len]; exact Nat.le_refl _)]
              simp -implicitDefEqProofs only [go_sem, c]
              rw [hn]
              refine sub_mk [] rfl rfl rfl ?_
              simp only [tmSub, hpSub, objSub, eqTm, eqHp, rn, lk, SV.ren, SV.renC, SV.renB, SV.renA, ren_ints, ren_strs, ren_pl, ren_svs, SV.v.injEq, Value.int.injEq, Body.ints.injEq, SV.ptr.injEq, SV.sl.injEq, Value.string.injEq, Value.bool.injEq, List.map_cons, List.map_nil, forall_const, Nat.reduceLT, Nat.lt_add_one, imp_self, true_and, and_true, and_self, ob_some, get_mk, lk_cons, ↓reduceIte, Nat.reduceEqDiff, ne_eq, not_true_eq_false, not_false_eq_true, Nat.one_ne_zero, Nat.zero_ne_one, Nat.succ_ne_self, Nat.reduceAdd, Bool.false_eq_true, false_implies, implies_true, reduceCtorEq]
              rfl
      · have g0 : decide ((s.size : Int) ≥ 8) = false := decide_eq_false (by omega)
        have hE : preE s e = e := by unfold preE; rw [if_neg (fun h => h8 h.2.1)]
        rw [hE] at hok ⊢
        simp -implicitDefEqProofs only [go_sem, g8, a0, rdO, g0]
        refine at_call trRRaw (rrawSp (i := 1) (k := 8) (s := s) (e := e) (by rfl) (by decide) (by decide)) ?_
        generalize rawT s e 8 = T at hok ⊢
        have hsz : T.size ≤ 8 := by rcases hok with h | h <;> omega
        simp -implicitDefEqProofs only [go_sem]
        refine loop_fam (fun (j : Nat) => j ≤ T.size) (fun j => ⟨[(5, .v (.string T)), (6, .v (.int .i64 (nvl ((nbs T).take j) : Nat))), (7, .v (.int .i64 j))], ⟨[(1, some (rdO (rawS s e 8) (rawE s e 8)))], H.x⟩, 2⟩) (fun j => T.size - j) 0 (Nat.zero_le _) ?_ ?_
        · refine sub_mk [] rfl rfl rfl ?_
          simp only [tmSub, hpSub, objSub, eqTm, eqHp, rn, lk, SV.ren, SV.renC, SV.renB, SV.renA, ren_ints, ren_strs, ren_pl, ren_svs, SV.v.injEq, Value.int.injEq, Body.ints.injEq, SV.ptr.injEq, SV.sl.injEq, Value.string.injEq, Value.bool.injEq, List.map_cons, List.map_nil, forall_const, Nat.reduceLT, Nat.lt_add_one, imp_self, true_and, and_true, and_self, ob_some, get_mk, lk_cons, ↓reduceIte, Nat.reduceEqDiff, ne_eq, not_true_eq_false, not_false_eq_true, Nat.one_ne_zero, Nat.zero_ne_one, Nat.succ_ne_self, Nat.reduceAdd, Bool.false_eq_true, false_implies, implies_true, reduceCtorEq]
          exact ⟨⟨rfl, rfl⟩, rfl⟩
        · intro j hj
          simp -implicitDefEqProofs only [go_sem]
          refine condK_bb (fun c => ?_) (fun c => ?_)
          · have c1 : j < T.size := by have := of_decide_eq_true c; omega
            have hb := bts_getD c1
            have hlt := nbs_get_lt c1
            have hv := hok.lt c1
            have w1 := ishl_8 hv
            have w2 : IntKind.i64.wrap (((nbs T).getD j 0 : Nat) : Int) = (((nbs T).getD j 0 : Nat) : Int) := wrap_i64 (by omega) (by omega)
            have w3 := ior_byte hv hlt
            have w4 : IntKind.i64.wrap ((j : Int) + 1) = ((j + 1 : Nat) : Int) := by rw [wrap_i64 (by omega) (by omega)]; omega
            have hs := num_step c1
            simp -implicitDefEqProofs only [go_sem, c, hb, w1, w2, w3, w4]
            refine ⟨⟨by omega, by omega⟩, ?_⟩
            refine kLoop_mk (j + 1) (by omega) (by omega) ?_
            refine sub_mk [] rfl rfl rfl ?_
            simp only [tmSub, hpSub, objSub, eqTm, eqHp, rn, lk, SV.ren, SV.renC, SV.renB, SV.renA, ren_ints, ren_strs, ren_pl, ren_svs, SV.v.injEq, Value.int.injEq, Body.ints.injEq, SV.ptr.injEq, SV.sl.injEq, Value.string.injEq, Value.bool.injEq, List.map_cons, List.map_nil, forall_const, Nat.reduceLT, Nat.lt_add_one, imp_self, true_and, and_true, and_self, ob_some, get_mk, lk_cons, ↓reduceIte, Nat.reduceEqDiff, ne_eq, not_true_eq_false, not_false_eq_true, Nat.one_ne_zero, Nat.zero_ne_one, Nat.succ_ne_self, Nat.reduceAdd, Bool.false_eq_true, false_implies, implies_true, reduceCtorEq, w4, hs]
            rfl
          · have c1 : j = T.size := by have := of_decide_eq_false c; omega
            subst c1
            have hn : nvl ((nbs T).take T.size) = num T := by unfold num; rw [List.take_of_length_le (by rw [nbs_len]; exact Nat.le_refl _)]
            simp -implicitDefEqProofs only [go_sem, c]
            rw [hn]
            refine sub_mk [] rfl rfl rfl ?_
            simp only [tmSub, hpSub, objSub, eqTm, eqHp, rn, lk, SV.ren, SV.renC, SV.renB, SV.renA, ren_ints, ren_strs, ren_pl, ren_svs, SV.v.injEq, Value.int.injEq, Body.ints.injEq, SV.ptr.injEq, SV.sl.injEq, Value.string.injEq, Value.bool.injEq, List.map_cons, List.map_nil, forall_const, Nat.reduceLT, Nat.lt_add_one, imp_self, true_and, and_true, and_self, ob_some, get_mk, lk_cons, ↓reduceIte, Nat.reduceEqDiff, ne_eq, not_true_eq_false, not_false_eq_true, Nat.one_ne_zero, Nat.zero_ne_one, Nat.succ_ne_self, Nat.reduceAdd, Bool.false_eq_true, false_implies, implies_true, reduceCtorEq]
            rfl
    · have a0 : decide (e = 0) = false := decide_eq_false h0
      have hE : preE s e = e := by unfold preE; rw [if_neg (fun h => h0 h.1)]
      rw [hE] at hok ⊢
      simp -implicitDefEqProofs only [go_sem, g8, a0, rdO]
      refine at_call trRRaw (rrawSp (i := 1) (k := 8) (s := s) (e := e) (by rfl) (by decide) (by decide)) ?_
      generalize rawT s e 8 = T at hok ⊢
      have hsz : T.size ≤ 8 := by rcases hok with h | h <;> omega
      simp -implicitDefEqProofs only [go_sem]
      refine loop_fam (fun (j : Nat) => j ≤ T.size) (fun j => ⟨[(5, .v (.string T)), (6, .v (.int .i64 (nvl ((nbs T).take j) : Nat))), (7, .v (.int .i64 j))], ⟨[(1, some (rdO (rawS s e 8) (rawE s e 8)))], H.x⟩, 2⟩) (fun j => T.size - j) 0 (Nat.zero_le _) ?_ ?_
      · refine sub_mk [] rfl rfl rfl ?_
        simp only [tmSub, hpSub, objSub, eqTm, eqHp, rn, lk, SV.ren, SV.renC, SV.renB, SV.renA, ren_ints, ren_strs, ren_pl, ren_svs, SV.v.injEq, Value.int.injEq, Body.ints.injEq, SV.ptr.injEq, SV.sl.injEq, Value.string.injEq, Value.bool.injEq, List.map_cons, List.map_nil, forall_const, Nat.reduceLT, Nat.lt_add_one, imp_self, true_and, and_true, and_self, ob_some, get_mk, lk_cons, ↓reduceIte, Nat.reduceEqDiff, ne_eq, not_true_eq_false, not_false_eq_true, Nat.one_ne_zero, Nat.zero_ne_one, Nat.succ_ne_self, Nat.reduceAdd, Bool.false_eq_true, false_implies, implies_true, reduceCtorEq]
        exact ⟨⟨rfl, rfl⟩, rfl⟩
      · intro j hj
        simp -implicitDefEqProofs only [go_sem]
        refine condK_bb (fun c => ?_) (fun c => ?_)
        · have c1 : j < T.size := by have := of_decide_eq_true c; omega
          have hb := bts_getD c1
          have hlt := nbs_get_lt c1
          have hv := hok.lt c1
          have w1 := ishl_8 hv
          have w2 : IntKind.i64.wrap (((nbs T).getD j 0 : Nat) : Int) = (((nbs T).getD j 0 : Nat) : Int) := wrap_i64 (by omega) (by omega)
          have w3 := ior_byte hv hlt
          have w4 : IntKind.i64.wrap ((j : Int) + 1) = ((j + 1 : Nat) : Int) := by rw [wrap_i64 (by omega) (by omega)]; omega
          have hs := num_step c1
          simp -implicitDefEqProofs only [go_sem, c, hb, w1, w2, w3, w4]
          refine ⟨⟨by omega, by omega⟩, ?_⟩
          refine kLoop_mk (j + 1) (by omega) (by omega) ?_
          refine sub_mk [] rfl rfl rfl ?_
          simp only [tmSub, hpSub, objSub, eqTm, eqHp, rn, lk, SV.ren, SV.renC, SV.renB, SV.renA, ren_ints, ren_strs, ren_pl, ren_svs, SV.v.injEq, Value.int.injEq, Body.ints.injEq, SV.ptr.injEq, SV.sl.injEq, Value.string.injEq, Value.bool.injEq, List.map_cons, List.map_nil, forall_const, Nat.reduceLT, Nat.lt_add_one, imp_self, true_and, and_true, and_self, ob_some, get_mk, lk_cons, ↓reduceIte, Nat.reduceEqDiff, ne_eq, not_true_eq_false, not_false_eq_true, Nat.one_ne_zero, Nat.zero_ne_one, Nat.succ_ne_self, Nat.reduceAdd, Bool.false_eq_true, false_implies, implies_true, reduceCtorEq, w4, hs]
          rfl
        · have c1 : j = T.size := by have := of_decide_eq_false c; omega
          subst c1
          have hn : nvl ((nbs T).take T.size) = num T := by unfold num; rw [List.take_of_length_le (by rw [nbs_len]; exact Nat.le_refl _)]
          simp -implicitDefEqProofs only [go_sem, c]
          rw [hn]
          refine sub_mk [] rfl rfl rfl ?_
          simp only [tmSub, hpSub, objSub, eqTm, eqHp, rn, lk, SV.ren, SV.renC, SV.renB, SV.renA, ren_ints, ren_strs, ren_pl, ren_svs, SV.v.injEq, Value.int.injEq, Body.ints.injEq, SV.ptr.injEq, SV.sl.injEq, Value.string.injEq, Value.bool.injEq, List.map_cons, List.map_nil, forall_const, Nat.reduceLT, Nat.lt_add_one, imp_self, true_and, and_true, and_self, ob_some, get_mk, lk_cons, ↓reduceIte, Nat.reduceEqDiff, ne_eq, not_true_eq_false, not_false_eq_true, Nat.one_ne_zero, Nat.zero_ne_one, Nat.succ_ne_self, Nat.reduceAdd, Bool.false_eq_true, false_implies, implies_true, reduceCtorEq]
          rfl)) [(1, i)] rfl rfl rfl (by omega) rfl rfl
    ⟨sub_wr rfl hi.1 hi.2 hg rfl, trivial⟩ (by simp [apartB, apart1, rn, lk]) (by simp [wrNZ, rn, lk]; omega) (by omega)
  exact this
variable {H : Hp} {n : Nat} {x : Nat → Option SO}
variable {H : Hp} {n : Nat} {x : Nat → Option SO}
variable {H : Hp} {n : Nat} {x : Nat → Option SO}
variable {H : Hp} {n : Nat} {x : Nat → Option SO}
theorem rnumW {s : ByteArray} {e : Int} {k : Nat} (hk : k ≤ 7) : fnVC CT mrRNumber [.ptr 1 0, .v (.int .i64 k)] ⟨[(1, some (rdO s e))], x⟩ 2 fun v H' n' => Sub 2 ⟨[(0, .v (.int .i64 (num (rawT s e k) : Nat)))], ⟨[(1, some (rdO (rawS s e k) (rawE s e k)))], x⟩, 2⟩ ⟨[(0, v)], H', n'⟩ := by
  unfold mrRNumber
  have hok : numOK (rawT s e k) := .inl (by have := rawT_size (s := s) (e := e) (k := k); omega)
  have g8 : decide ((k : Int) = 8) = false := decide_eq_false (by omega)
  simp -implicitDefEqProofs only [↓fnVC, initTm]
  simp -implicitDefEqProofs only [go_sem, g8]
  refine at_call trRRaw (rrawSp (i := 1) (k := k) (s := s) (e := e) (by rfl) (by decide) (by omega)) ?_
  generalize rawT s e k = T at hok ⊢
  have hsz : T.size ≤ 8 := by rcases hok with h | h <;> omega
  simp -implicitDefEqProofs only [go_sem]
  refine loop_fam (fun (j : Nat) => j ≤ T.size) (fun j => ⟨[(5, .v (.string T)), (6, .v (.int .i64 (nvl ((nbs T).take j) : Nat))), (7, .v (.int .i64 j))], ⟨[(1, some (rdO (rawS s e k) (rawE s e k)))], x⟩, 2⟩) (fun j => T.size - j) 0 (Nat.zero_le _) ?_ ?_
  · refine sub_mk [] rfl rfl rfl ?_
    simp only [tmSub, hpSub, objSub, eqTm, eqHp, rn, lk, SV.ren, SV.renC, SV.renB, SV.renA, ren_ints, ren_strs, ren_pl, ren_svs, SV.v.injEq, Value.int.injEq, Body.ints.injEq, SV.ptr.injEq, SV.sl.injEq, Value.string.injEq, Value.bool.injEq, List.map_cons, List.map_nil, forall_const, Nat.reduceLT, Nat.lt_add_one, imp_self, true_and, and_true, and_self, ob_some, get_mk, lk_cons, ↓reduceIte, Nat.reduceEqDiff, ne_eq, not_true_eq_false, not_false_eq_true, Nat.one_ne_zero, Nat.zero_ne_one, Nat.succ_ne_self, Nat.reduceAdd, Bool.false_eq_true, false_implies, implies_true, reduceCtorEq]
    exact ⟨⟨rfl, rfl⟩, rfl⟩
  · intro j hj
    simp -implicitDefEqProofs only [go_sem]
    refine condK_bb (fun c => ?_) (fun c => ?_)
    · have c1 : j < T.size := by have := of_decide_eq_true c; omega
      have hb := bts_getD c1
      have hlt := nbs_get_lt c1
      have hv := hok.lt c1
      have w1 := ishl_8 hv
      have w2 : IntKind.i64.wrap (((nbs T).getD j 0 : Nat) : Int) = (((nbs T).getD j 0 : Nat) : Int) := wrap_i64 (by omega) (by omega)
      have w3 := ior_byte hv hlt
      have w4 : IntKind.i64.wrap ((j : Int) + 1) = ((j + 1 : Nat) : Int) := by rw [wrap_i64 (by omega) (by omega)]; omega
      have hs := num_step c1
      simp -implicitDefEqProofs only [go_sem, c, hb, w1, w2, w3, w4]
      refine ⟨⟨by omega, by omega⟩, ?_⟩
      refine kLoop_mk (j + 1) (by omega) (by omega) ?_
      refine sub_mk [] rfl rfl rfl ?_
      simp only [tmSub, hpSub, objSub, eqTm, eqHp, rn, lk, SV.ren, SV.renC, SV.renB, SV.renA, ren_ints, ren_strs, ren_pl, ren_svs, SV.v.injEq, Value.int.injEq, Body.ints.injEq, SV.ptr.injEq, SV.sl.injEq, Value.string.injEq, Value.bool.injEq, List.map_cons, List.map_nil, forall_const, Nat.reduceLT, Nat.lt_add_one, imp_self, true_and, and_true, and_self, ob_some, get_mk, lk_cons, ↓reduceIte, Nat.reduceEqDiff, ne_eq, not_true_eq_false, not_false_eq_true, Nat.one_ne_zero, Nat.zero_ne_one, Nat.succ_ne_self, Nat.reduceAdd, Bool.false_eq_true, false_implies, implies_true, reduceCtorEq, w4, hs]
      rfl
    · have c1 : j = T.size := by have := of_decide_eq_false c; omega
      subst c1
      have hn : nvl ((nbs T).take T.size) = num T := by unfold num; rw [List.take_of_length_le (by rw [nbs_len]; exact Nat.le_refl _)]
      simp -implicitDefEqProofs only [go_sem, c]
      rw [hn]
      refine sub_mk [] rfl rfl rfl ?_
      simp only [tmSub, hpSub, objSub, eqTm, eqHp, rn, lk, SV.ren, SV.renC, SV.renB, SV.renA, ren_ints, ren_strs, ren_pl, ren_svs, SV.v.injEq, Value.int.injEq, Body.ints.injEq, SV.ptr.injEq, SV.sl.injEq, Value.string.injEq, Value.bool.injEq, List.map_cons, List.map_nil, forall_const, Nat.reduceLT, Nat.lt_add_one, imp_self, true_and, and_true, and_self, ob_some, get_mk, lk_cons, ↓reduceIte, Nat.reduceEqDiff, ne_eq, not_true_eq_false, not_false_eq_true, Nat.one_ne_zero, Nat.zero_ne_one, Nat.succ_ne_self, Nat.reduceAdd, Bool.false_eq_true, false_implies, implies_true, reduceCtorEq]
      rfl
theorem rnumSp {s : ByteArray} {e : Int} {k i : Nat} (hg : H.get i = some (rdO s e)) (hi : 0 < i ∧ i < 1000) (hk : k ≤ 7) :
    SpecAt Tryz.prog nrRNumber [.ptr i 0, .v (.int .i64 k)] H n (.v (.int .i64 (num (rawT s e k) : Nat))) ⟨(i, some (rdO (rawS s e k) (rawE s e k))) :: H.l, H.x⟩ n := by
  have := lift (n := n) (okT.spec trRNumber (rnumW (x := H.x) (s := s) (e := e) hk)) [(1, i)] rfl rfl rfl (by omega) rfl rfl
    ⟨sub_wr rfl hi.1 hi.2 hg rfl, trivial⟩ (by simp [apartB, apart1, rn, lk]) (by simp [wrNZ, rn, lk]; omega) (by omega)
  exact this
theorem rreadS0 {s : ByteArray} (hn : n + 1 ≤ 1000) : SpecAt Tryz.prog nrRead [.v (.string s)] H n (.ptr n 0) ⟨(n, some (rdO s 0)) :: H.l, H.x⟩ (n + 1) := by
  have := lift (n := n) (okT.spec trRead (args := [.v (.string s)]) (H := ⟨[], H.x⟩) (n := 1) (v := .ptr 1 0) (H' := ⟨[(1, some (rdO s 0))], H.x⟩) (n' := 2) (by
    unfold mrRead
    simp -implicitDefEqProofs only [↓fnVC, initTm]
    simp -implicitDefEqProofs only [go_sem]
    refine sub_mk [] rfl rfl rfl ?_
    simp only [tmSub, hpSub, objSub, eqTm, eqHp, rn, lk, SV.ren, SV.renC, SV.renB, SV.renA, ren_ints, ren_strs, ren_pl, ren_svs, SV.v.injEq, Value.int.injEq, Body.ints.injEq, SV.ptr.injEq, SV.sl.injEq, Value.string.injEq, Value.bool.injEq, List.map_cons, List.map_nil, forall_const, Nat.reduceLT, Nat.lt_add_one, imp_self, true_and, and_true, and_self, ob_some, get_mk, lk_cons, ↓reduceIte, Nat.reduceEqDiff, ne_eq, not_true_eq_false, not_false_eq_true, Nat.one_ne_zero, Nat.zero_ne_one, Nat.succ_ne_self, Nat.reduceAdd, Bool.false_eq_true, false_implies, implies_true, reduceCtorEq, rdO]
    rfl)) [] rfl rfl rfl (by omega) rfl rfl trivial rfl rfl (by omega)
  exact this
variable {H : Hp} {n : Nat} {x : Nat → Option SO}
end
section
/- Cells: the document's opening, where no copy is. -/
set_option linter.unusedVariables false
set_option linter.unusedSimpArgs false
set_option maxRecDepth 100000
open Go.Proofs
variable {H : Hp} {n : Nat} {x : Nat → Option SO} {d d' : Fd} {i a b c : Nat} {u1 u2 u3 : Bool} {C C' : Ce}
theorem rallW (hd : d.ok) (hsn : Sn d) : fnVC C3 mrFAll [.ptr 1 0] (rp3s d x) 4 fun v H' n' => Sub 4 ⟨[(0, .sl 4 0 d.seen.length 1)], ⟨[(1, some ⟨false, refB d 2 3⟩), (2, some ⟨false, strB d.safe⟩), (3, some ⟨false, .pl (qrow d.pend)⟩), (4, some ⟨true, strB d.seen⟩)], x⟩, 5⟩ ⟨[(0, v)], H', n'⟩ := by
  have q1 := crl_all64 hd
  unfold rp3s mrFAll
  simp -implicitDefEqProofs only [↓fnVC, initTm]
  simp -implicitDefEqProofs only [go_sem]
  refine at_call trFsettled (seS9 (i := 1) (a := 2) (b := 3) (d := d) (r := 4) (o := 0) (m := 1) (row := [64]) (ks := [64]) ⟨rfl, rfl, rfl, by decide⟩ hd (Nat.le_refl _) rfl (by decide) (by decide) rfl) ?_
  rw [q1, ← hsn]
  simp -implicitDefEqProofs only [go_sem]
  refine sub_mk [(4, 5)] rfl rfl rfl ?_
  simp only [tmSub, hpSub, objSub, eqTm, eqHp, rn, lk, SV.ren, SV.renC, SV.renB, SV.renA, ren_ints, ren_strs, ren_pl, ren_svs, SV.v.injEq, Value.int.injEq, Body.ints.injEq, SV.ptr.injEq, SV.sl.injEq, Value.string.injEq, Value.bool.injEq, List.map_cons, List.map_nil, forall_const, Nat.reduceLT, Nat.lt_add_one, imp_self, true_and, and_true, and_self, ob_some, get_mk, lk_cons, ↓reduceIte, Nat.reduceEqDiff, ne_eq, not_true_eq_false, not_false_eq_true, Nat.one_ne_zero, Nat.zero_ne_one, Nat.succ_ne_self, Nat.reduceAdd, Bool.false_eq_true, false_implies, implies_true, reduceCtorEq]
  repeat' (first | rfl | apply And.intro)
theorem ralG (h : RefAt H d i a b u1 u2 u3) (hd : d.ok) (hs : Sn d) (hn : n < 1000) : SpecAt Tryz.prog nrFAll [.ptr i 0] H n (.sl n 0 d.seen.length 1) ⟨(n, some ⟨true, strB d.seen⟩) :: H.l, H.x⟩ (n + 1) := by
  obtain ⟨hi, ha, hb, ⟨p1, p2, p3⟩, ⟨q1, q2, q3⟩, n1, n2, n3⟩ := h
  have := lift (n := n) (ok3.spec trFAll (rallW (x := H.x) hd hs)) [(1, i), (2, a), (3, b)] rfl rfl rfl (by omega) rfl rfl
    ⟨sub_ro rfl p1 hi rfl, sub_ro rfl p2 ha rfl, sub_ro rfl p3 hb rfl, trivial⟩ (by simp [apartB, apart1, rn, lk]) (by simp [wrNZ, rn, lk]; try omega) (by omega)
  exact this
def rcB (B h nu la : Int) (D : Nat) (wr : SV) : Body := .sv [.ptr D 0, .v (.int .i64 B), .v (.int .i64 h), .sl 0 0 0 2, wr, .v (.int .i64 nu), .v (.int .i64 la), .v (.bool false)]
def ropH (B h : Int) (d : Fd) (x : Nat → Option SO) : Hp := ⟨[(1, some ⟨false, rcB B h 0 1 2 (.sl 0 0 0 2)⟩), (2, some ⟨false, refB d 3 4⟩), (3, some ⟨false, strB d.safe⟩), (4, some ⟨false, .pl (qrow d.pend)⟩)], x⟩
theorem rcopiedN {B h k : Nat} (hB : B ≤ 4096) (hh : 2 ≤ h ∧ h ≤ 4096) (hk : k ≤ 1) (hd : d.ok) (hs : Sn d) (hl : B + k * h + h ≤ d.seen.length) (hN : NoHd (secT d (B + k * h : Nat))) :
    fnVC CT mrcopied [.ptr 1 0, .v (.int .i64 k)] (ropH B h d x) 5 fun v H' n' => Sub 5 ⟨[(0, .tup [.v (.int .i64 0), .sl 0 0 0 2])], ⟨[], x⟩, 5⟩ ⟨[(0, v)], H', n'⟩ := by
  unfold mrcopied ropH rcB
  simp -implicitDefEqProofs only [↓fnVC, initTm]
  simp -implicitDefEqProofs only [go_sem]
  refine at_call trFAll (ralG (i := 2) (a := 3) (b := 4) (d := d) (u1 := false) (u2 := false) (u3 := false) ⟨by rfl, by rfl, by rfl, by decide⟩ hd hs (by decide)) ?_
  have hm : k * h ≤ 4096 := by
    calc k * h ≤ 1 * h := Nat.mul_le_mul_right _ hk
      _ ≤ 4096 := by omega
  have w5 : IntKind.i64.wrap ((k : Int) * (h : Int)) = ((k * h : Nat) : Int) := by
    rw [← Int.natCast_mul]; exact wrap_i64 (by omega) (by omega)
  have w6 : IntKind.i64.wrap ((B : Int) + ((k * h : Nat) : Int)) = ((B + k * h : Nat) : Int) := by
    rw [wrap_i64 (by omega) (by omega)]; omega
  unfold strB
  simp -implicitDefEqProofs only [go_sem, w5, w6]
  have hsz : (secT d (B + k * h : Nat)).size = 64 := secT_size hd (by omega) (by omega)
  have hg : (List.map tx d.seen).getD (B + k * h) ByteArray.empty = secT d (B + k * h : Nat) := by
    unfold secT
    rw [Int.toNat_natCast, List.getD_eq_getElem?_getD, List.getElem?_map, List.getElem?_eq_getElem (by omega), List.getD_eq_getElem?_getD, List.getElem?_eq_getElem (by omega)]
    rfl
  refine ⟨⟨by omega, by omega⟩, by rw [List.length_map]; omega, ?_⟩
  rw [hg]
  generalize secT d (B + k * h : Nat) = s at hN hsz
  obtain ⟨e1, e2, hnn, l1, l2⟩ := hN
  refine at_call trRead (rreadS0 (s := s) (by decide)) ?_
  simp -implicitDefEqProofs only [go_sem]
  have f1 := rd_at (s := s) (k := 0) (w := 8) (by omega)
  have f2 := rd_at (s := s) (k := 8) (w := 4) (by omega)
  have f3 := rd_at (s := s) (k := 12) (w := 8) (by omega)
  rw [ext_all] at f1
  refine at_call trRNumber (reightSp (i := 6) (s := s) (e := 0) (by rfl) (by decide)) ?_
  rw [e1, f1.1, f1.2.1, f1.2.2]
  simp -implicitDefEqProofs only [go_sem]
  refine at_call trRNumber (rnumSp (i := 6) (k := 4) (s := s.extract 8 s.size) (e := 0) (by rfl) (by decide) (by decide)) ?_
  rw [f2.1, f2.2.1, f2.2.2]
  simp -implicitDefEqProofs only [go_sem]
  refine at_call trRNumber (reightSp (i := 6) (s := s.extract 12 s.size) (e := 0) (by rfl) (by decide)) ?_
  rw [e2, f3.1, f3.2.1, f3.2.2]
  rw [show 12 + 8 = 20 from rfl]
  unfold rdO
  simp -implicitDefEqProofs only [go_sem]
  by_cases c1 : num (s.extract 0 8) = 0
  · have a1 : decide ((num (s.extract 0 8) : Int) = 0) = true := decide_eq_true (by omega)
    simp -implicitDefEqProofs only [go_sem, a1]
    refine sub_mk [] rfl rfl rfl ?_
    simp only [tmSub, hpSub, objSub, eqTm, eqHp, rn, lk, SV.ren, SV.renC, SV.renB, SV.renA, ren_ints, ren_strs, ren_pl, ren_svs, SV.v.injEq, Value.int.injEq, Body.ints.injEq, SV.ptr.injEq, SV.sl.injEq, Value.string.injEq, Value.bool.injEq, List.map_cons, List.map_nil, forall_const, Nat.reduceLT, Nat.lt_add_one, imp_self, true_and, and_true, and_self, ob_some, get_mk, lk_cons, ↓reduceIte, Nat.reduceEqDiff, ne_eq, not_true_eq_false, not_false_eq_true, Nat.one_ne_zero, Nat.zero_ne_one, Nat.succ_ne_self, Nat.reduceAdd, Bool.false_eq_true, false_implies, implies_true, reduceCtorEq]
  have a1 : decide ((num (s.extract 0 8) : Int) = 0) = false := decide_eq_false (by omega)
  by_cases c2 : num (s.extract 0 8) = 9223372036854775807
  · have a2 : decide ((num (s.extract 0 8) : Int) = 9223372036854775807) = true := decide_eq_true (by omega)
    simp -implicitDefEqProofs only [go_sem, a1, a2]
    refine sub_mk [] rfl rfl rfl ?_
    simp only [tmSub, hpSub, objSub, eqTm, eqHp, rn, lk, SV.ren, SV.renC, SV.renB, SV.renA, ren_ints, ren_strs, ren_pl, ren_svs, SV.v.injEq, Value.int.injEq, Body.ints.injEq, SV.ptr.injEq, SV.sl.injEq, Value.string.injEq, Value.bool.injEq, List.map_cons, List.map_nil, forall_const, Nat.reduceLT, Nat.lt_add_one, imp_self, true_and, and_true, and_self, ob_some, get_mk, lk_cons, ↓reduceIte, Nat.reduceEqDiff, ne_eq, not_true_eq_false, not_false_eq_true, Nat.one_ne_zero, Nat.zero_ne_one, Nat.succ_ne_self, Nat.reduceAdd, Bool.false_eq_true, false_implies, implies_true, reduceCtorEq]
  have a2 : decide ((num (s.extract 0 8) : Int) = 9223372036854775807) = false := decide_eq_false (by omega)
  have a3 : decide ((num (s.extract 0 8) : Int) = (num (s.extract 12 20) : Int)) = false := decide_eq_false (by omega)
  simp -implicitDefEqProofs only [go_sem, a1, a2, a3, Bool.not_false]
  refine sub_mk [] rfl rfl rfl ?_
  simp only [tmSub, hpSub, objSub, eqTm, eqHp, rn, lk, SV.ren, SV.renC, SV.renB, SV.renA, ren_ints, ren_strs, ren_pl, ren_svs, SV.v.injEq, Value.int.injEq, Body.ints.injEq, SV.ptr.injEq, SV.sl.injEq, Value.string.injEq, Value.bool.injEq, List.map_cons, List.map_nil, forall_const, Nat.reduceLT, Nat.lt_add_one, imp_self, true_and, and_true, and_self, ob_some, get_mk, lk_cons, ↓reduceIte, Nat.reduceEqDiff, ne_eq, not_true_eq_false, not_false_eq_true, Nat.one_ne_zero, Nat.zero_ne_one, Nat.succ_ne_self, Nat.reduceAdd, Bool.false_eq_true, false_implies, implies_true, reduceCtorEq]
structure RopAt (H : Hp) (B h : Int) (d : Fd) (i D a b : Nat) : Prop where
  cell : ∃ u, H.get i = some ⟨u, rcB B h 0 1 D (.sl 0 0 0 2)⟩
  dev : ∃ u, H.get D = some ⟨u, refB d a b⟩
  safe : ∃ u, H.get a = some ⟨u, strB d.safe⟩
  pend : ∃ u, H.get b = some ⟨u, .pl (qrow d.pend)⟩
  ne : 0 < i ∧ 0 < D ∧ 0 < a ∧ 0 < b
theorem rcopiedNS {B h k D : Nat} (hO : RopAt H B h d i D a b) (hB : B ≤ 4096) (hh : 2 ≤ h ∧ h ≤ 4096) (hk : k ≤ 1) (hd : d.ok) (hs : Sn d) (hl : B + k * h + h ≤ d.seen.length) (hN : NoHd (secT d (B + k * h : Nat))) :
    SpecAt Tryz.prog nrcopied [.ptr i 0, .v (.int .i64 k)] H n (.tup [.v (.int .i64 0), .sl 0 0 0 2]) H n := by
  obtain ⟨⟨u1, h1⟩, ⟨u2, h2⟩, ⟨u3, h3⟩, ⟨u4, h4⟩, p1, p2, p3, p4⟩ := hO
  have := lift_ro (n := n) (okT.spec trcopied (rcopiedN (x := H.x) hB hh hk hd hs hl hN)) [(1, i), (2, D), (3, a), (4, b)] rfl rfl rfl (by omega) rfl rfl
    ⟨sub_ro rfl p1 h1 rfl, sub_ro rfl p2 h2 rfl, sub_ro rfl p3 h3 rfl, sub_ro rfl p4 h4 rfl, trivial⟩ (by simp [ropH, apartB, apart1, rn, lk]) (by simp [ropH, wrNZ, rn, lk]) rfl
  exact this
def rnwB (B h : Int) (D : Nat) : Body := .sv [.ptr D 0, .v (.int .i64 B), .v (.int .i64 h), .sl 0 0 0 2, .sl 0 0 0 2, .v (.int .i64 0), .v (.int .i64 1), .v (.bool false)]
set_option maxHeartbeats 1000000 in
theorem ropenW {B h : Nat} (hB : B ≤ 4096) (hh : 2 ≤ h ∧ h ≤ 4096) (hd : d.ok) (hs : Sn d) (ho : d.off = false) (hl : B + 2 * h ≤ d.seen.length) (h0 : NoHd (secT d B)) (h1 : NoHd (secT d (B + h : Nat))) :
    fnVC CT mrCOpen [.ptr 1 0, .v (.int .i64 B), .v (.int .i64 h)] (rp3s d x) 4 fun v H' n' => Sub 4 ⟨[(0, .tup [.ptr 4 0, .v (.int .i64 0)])], ⟨[(4, some ⟨true, rnwB B h 1⟩)], x⟩, 5⟩ ⟨[(0, v)], H', n'⟩ := by
  have hsn := hd.most
  obtain ⟨hh1, hh2⟩ := hh
  unfold mrCOpen rp3s refB strB
  simp -implicitDefEqProofs only [↓fnVC, initTm]
  have a1 : decide ((B : Int) < 0) = false := decide_eq_false (by omega)
  have a2 : decide ((h : Int) < 2) = false := decide_eq_false (by omega)
  have a3 : decide ((B : Int) > (d.seen.length : Int)) = false := decide_eq_false (by omega)
  have w1 : IntKind.i64.wrap ((d.seen.length : Int) - (B : Int)) = ((d.seen.length - B : Nat) : Int) := by rw [wrap_i64 (by omega) (by omega)]; omega
  have e4 : ((d.seen.length - B : Nat) : Int).tdiv 2 = (((d.seen.length - B) / 2 : Nat) : Int) := rfl
  have w2 : IntKind.i64.wrap (((d.seen.length - B : Nat) : Int).tdiv 2) = (((d.seen.length - B) / 2 : Nat) : Int) := by rw [e4, wrap_i64 (by omega) (by omega)]
  have a4 : decide ((h : Int) > (((d.seen.length - B) / 2 : Nat) : Int)) = false := decide_eq_false (by omega)
  simp -implicitDefEqProofs only [go_sem, a1, a2, a3, w1, w2, a4]
  refine condK_bb (fun c => by rw [ho] at c; cases c) (fun c => ?_)
  simp -implicitDefEqProofs only [go_sem, if_true, Option.bind_some, Option.bind_none, sp8_0, sp8_1, sp8_2, sp8_3, sp8_4, sp8_5, sp8_6, sp8_7]
  refine at_call trcopied (rcopiedNS (i := 4) (D := 1) (a := 2) (b := 3) (k := 0) (B := B) (h := h) (d := d) ⟨⟨_, by rfl⟩, ⟨_, by rfl⟩, ⟨_, by rfl⟩, ⟨_, by rfl⟩, by decide⟩ hB ⟨hh1, hh2⟩ (by decide) hd hs (by omega) (by rw [Nat.zero_mul]; exact h0)) ?_
  simp -implicitDefEqProofs only [go_sem]
  refine at_call trcopied (rcopiedNS (i := 4) (D := 1) (a := 2) (b := 3) (k := 1) (B := B) (h := h) (d := d) ⟨⟨_, by rfl⟩, ⟨_, by rfl⟩, ⟨_, by rfl⟩, ⟨_, by rfl⟩, by decide⟩ hB ⟨hh1, hh2⟩ (by decide) hd hs (by omega) (by rw [Nat.one_mul]; exact h1)) ?_
  simp -implicitDefEqProofs only [go_sem, sp8_0, sp8_1, sp8_2, sp8_3, sp8_4, sp8_5, sp8_6, sp8_7]
  unfold rnwB
  refine sub_mk [] rfl rfl rfl ?_
  simp only [tmSub, hpSub, objSub, eqTm, eqHp, rn, lk, SV.ren, SV.renC, SV.renB, SV.renA, ren_ints, ren_strs, ren_pl, ren_svs, SV.v.injEq, Value.int.injEq, Body.ints.injEq, SV.ptr.injEq, SV.sl.injEq, Value.string.injEq, Value.bool.injEq, List.map_cons, List.map_nil, forall_const, Nat.reduceLT, Nat.lt_add_one, imp_self, true_and, and_true, and_self, ob_some, get_mk, lk_cons, ↓reduceIte, Nat.reduceEqDiff, ne_eq, not_true_eq_false, not_false_eq_true, Nat.one_ne_zero, Nat.zero_ne_one, Nat.succ_ne_self, Nat.reduceAdd, Bool.false_eq_true, false_implies, implies_true, reduceCtorEq]
theorem ropenS {B h : Nat} (hR : RefAt H d i a b true true true) (hB : B ≤ 4096) (hh : 2 ≤ h ∧ h ≤ 4096) (hd : d.ok) (hs : Sn d) (ho : d.off = false) (hl : B + 2 * h ≤ d.seen.length) (h0 : NoHd (secT d B)) (h1 : NoHd (secT d (B + h : Nat))) (hn : n + 1 ≤ 1000) :
    SpecAt Tryz.prog nrCOpen [.ptr i 0, .v (.int .i64 B), .v (.int .i64 h)] H n (.tup [.ptr n 0, .v (.int .i64 0)]) ⟨(n, some ⟨true, rnwB B h i⟩) :: H.l, H.x⟩ (n + 1) := by
  obtain ⟨hi, ha, hb, ⟨p1, p2, p3⟩, ⟨q1, q2, q3⟩, n1, n2, n3⟩ := hR
  have := lift (n := n) (okT.spec trCOpen (ropenW (x := H.x) hB hh hd hs ho hl h0 h1)) [(1, i), (2, a), (3, b)] rfl rfl rfl (by omega) rfl rfl
    ⟨sub_ro rfl p1 hi rfl, sub_ro rfl p2 ha rfl, sub_ro rfl p3 hb rfl, trivial⟩ (by simp [rp3s, apartB, apart1, rn, lk]) (by simp [rp3s, wrNZ, rn, lk]) (by omega)
  exact this
end
end Go.Sx
/- Slices of calls (Op) that came in. -/
set_option linter.unusedVariables false
set_option linter.unusedSimpArgs false
set_option maxRecDepth 100000
namespace Go.Sx
open Go.Proofs Go.ChangeShapes Go.WideShapes Go.ChangeAt Go.RowKit Go.Deep
variable {H : Type} {enc : TypeId × Value → H} {W : World}
theorem op_cells {fuel : Nat} {cs : List Value} {x : DataW H × List MemPlace} (h : DataW.trod enc Tryz.prog W 0 (fun _ => true) true fuel 31 cs = some x) :
    ∃ (u : Int) (nm : ByteArray) (s : ByteArray) (k : Int) (kv : Value) (n : Nat) (y : DataW H × List MemPlace), cs = [.int .u8 u, .string nm, .string s, .int .i64 k, kv] ∧ (Lit.int .u8 u).wf = true ∧ (Lit.int .i64 k).wf = true ∧ DataW.trod enc Tryz.prog W 0 (fun _ => true) true n 23 [kv] = some y := by
  obtain ⟨xs, n, rfl, rfl, hl, hxl, hf⟩ := DataW.trod_struct Tryz.underlying31 h
  have h0 := hf 0 { name := "Kind", type := 5, offset := 0, embedded := false, tag := "", pkgPath := "", byteOffset := 0 } rfl
  have h1 := hf 1 { name := "Name", type := 9, offset := 1, embedded := false, tag := "", pkgPath := "", byteOffset := 8 } rfl
  have h2 := hf 2 { name := "Text", type := 9, offset := 2, embedded := false, tag := "", pkgPath := "", byteOffset := 24 } rfl
  have h3 := hf 3 { name := "N", type := 3, offset := 3, embedded := false, tag := "", pkgPath := "", byteOffset := 40 } rfl
  have h4 := hf 4 { name := "Fate", type := 25, offset := 4, embedded := false, tag := "", pkgPath := "", byteOffset := 48 } rfl
  have c_5 : Tryz.prog.cellsOf 5 = 1 := by kernel_rfl
  have c_9 : Tryz.prog.cellsOf 9 = 1 := by kernel_rfl
  have c_3 : Tryz.prog.cellsOf 3 = 1 := by kernel_rfl
  have cF : Tryz.prog.cellsOf 25 = 1 := by kernel_rfl
  have cO : Tryz.prog.cellsOf 31 = 5 := by kernel_rfl
  rw [cO] at hl
  match cs, hl with
  | [a0, a1, a2, a3, a4], _ =>
    match xs, hxl with
    | [y0, y1, y2, y3, y4], _ =>
      simp only [c_5, c_9, c_3, cF, List.drop_succ_cons, List.drop_zero, List.take_succ_cons, List.take_zero, List.getElem?_cons_succ, List.getElem?_cons_zero] at h0 h1 h2 h3 h4
      obtain ⟨u, e0, w0⟩ := DataW.trod_int Tryz.underlying5 h0
      obtain ⟨nm, e1, w1⟩ := DataW.trod_string Tryz.underlying9 h1
      obtain ⟨s, e2, w2⟩ := DataW.trod_string Tryz.underlying9 h2
      obtain ⟨k, e3, w3⟩ := DataW.trod_int Tryz.underlying3 h3
      obtain ⟨xs', n', rfl, eF, hl', hxl', hf'⟩ := DataW.trod_struct Tryz.underlying25 h4
      have hK := hf' 0 { name := "Keep", type := 23, offset := 0, embedded := false, tag := "", pkgPath := "", byteOffset := 0 } rfl
      have cK : Tryz.prog.cellsOf 23 = 1 := by kernel_rfl
      simp only [cK, List.drop_zero, List.take_succ_cons, List.take_zero] at hK
      obtain ⟨yK, gK⟩ : ∃ y, xs'[0]? = some y := ⟨_, List.getElem?_eq_getElem (by rw [hxl']; decide)⟩
      rw [gK] at hK
      simp only [List.cons.injEq, and_true] at e0 e1 e2 e3
      subst e0; subst e1; subst e2; subst e3
      exact ⟨u, nm, s, k, a4, _, _, rfl, w0.2, w3.2, hK⟩
theorem cells?_get {W : World} {b n : Nat} {a : Addr} {cs : List Value} (h : W.cells? b a n = some cs) (i : Nat) (hi : i < n) : W.cell? (a.add i) = cs[i]? := by
  unfold World.cells? at h
  split at h
  · exact mapM_some_get h i i (by simp [hi])
  · cases h
structure KV (W : World) (l : Loc) (zs : List Int) (m : Nat) (kv : Value) : Prop where
  row : ∀ ρ, ObjOK ρ W l ⟨false, .ints .i64 zs⟩
  live : ∀ k, l.blk = some k → k < W.heap.size
  sl : slrel l 0 m 1 kv
  len : m ≤ zs.length
  sh : l.sh = none
theorem in_kv {fuel : Nat} {kv : Value} {y : DataW H × List MemPlace} (h0 : DataW.trod enc Tryz.prog W 0 (fun _ => true) true fuel 23 [kv] = some y) : ∃ l zs m, KV W l zs m kv := by
  rcases open_ints Tryz.underlying23 Tryz.underlying3 (by kernel_rfl) h0 with ⟨hcs, hx⟩ | ⟨a, len, cap, zs, hcs, _, hl, hm, hz, hx, hcell, hws⟩
  · cases hcs
    exact ⟨⟨none, 0, 0, false, none⟩, [], 0, fun ρ => ⟨rfl, exOK_ro rfl⟩, fun k hk => (by cases hk), ⟨rfl, .inl rfl⟩, Nat.le_refl _, rfl⟩
  · cases hcs
    replace hz : zs.length = cap := by simpa using hz
    by_cases h00 : cap = 0
    · subst h00
      have : len = 0 := by omega
      subst this
      exact ⟨⟨none, 0, 1, false, none⟩, [], 0, fun ρ => ⟨rfl, exOK_ro rfl⟩, fun k hk => (by cases hk), ⟨rfl, .inr ⟨by decide, a, rfl⟩⟩, Nat.le_refl _, rfl⟩
    · have hc0 := hcell 0 (by omega)
      have hs : a.spot = none := by
        have := World.cell?_spot hc0
        simpa [Addr.add] using this
      obtain ⟨c, T, fr, hb⟩ : ∃ c T fr, W.heap[a.block]? = some (.cells c T fr) := by
        have e : a.add 0 = a := by simp [Addr.add]
        rw [e] at hc0
        unfold World.cell? at hc0
        split at hc0
        · rename_i c T fr hb; exact ⟨c, T, fr, hb⟩
        · cases hc0
      have hsz : a.off + zs.length ≤ c.size := by
        have := hcell (zs.length - 1) (by omega)
        rw [cell_at hs hb] at this
        have := (Array.getElem?_eq_some_iff.1 this).1
        omega
      refine ⟨⟨some a.block, a.off, cap, false, none⟩, zs, len, fun ρ => ⟨?_, exOK_ro rfl⟩, fun k hk => (by cases hk; exact (Array.getElem?_eq_some_iff.1 hb).1), ?_, by omega, rfl⟩
      · refine ⟨c, T, fr, hb, by simp only; omega, by simp [Body.cells, hz], ?_, fun h => by cases h⟩
        intro j x hj
        simp only [Body.cells, List.getElem?_map] at hj
        have hj' : j < zs.length := by
          cases hq : zs[j]? with
          | none => rw [hq] at hj; cases hj
          | some q => exact (List.getElem?_eq_some_iff.1 hq).1
        refine ⟨.int .i64 (zs.getD j 0), by rw [← cell_at hs hb]; exact hcell j hj', ?_⟩
        rw [List.getElem?_eq_getElem hj'] at hj
        simp only [Option.map_some, Option.some.injEq] at hj
        subst hj
        simp [crel, arel, List.getD_eq_getElem?_getD, List.getElem?_eq_getElem hj']
      · refine ⟨cap, a.off, hl, ⟨by simp, fun e => by cases e⟩, fun h => by simp, ?_⟩
        cases a; cases hs; rfl
structure OpV where
  u : Int
  nm : ByteArray
  s : ByteArray
  k : Int
  zs : List Int
  m : Nat
def ocell (id : Nat) (o : OpV) : List SV := [.v (.int .u8 o.u), .v (.string o.nm), .v (.string o.s), .v (.int .i64 o.k), .sl id 0 o.m 1]
def orow (A : Nat) : Nat → List OpV → List SV
  | _, [] => []
  | j, o :: r => ocell (1000 + 4 * j + A) o ++ orow A (j + 1) r
theorem orow_len {A : Nat} : ∀ {l : List OpV} {j : Nat}, (orow A j l).length = l.length * 5
  | [], _ => rfl
  | o :: r, j => by simp only [orow, List.length_append, orow_len, ocell, List.length_cons, List.length_nil]; omega
theorem orow_at {A : Nat} {o0 : OpV} : ∀ {l : List OpV} {j0 j : Nat}, j < l.length → ((orow A j0 l).drop (j * 5)).take 5 = ocell (1000 + 4 * (j0 + j) + A) (l.getD j o0)
  | [], _, _, h => by simp at h
  | o :: r, j0, 0, _ => by simp [orow, ocell]
  | o :: r, j0, j + 1, h => by
    have := orow_at (A := A) (o0 := o0) (l := r) (j0 := j0 + 1) (j := j) (by simpa using h)
    have e : (orow A j0 (o :: r)).drop ((j + 1) * 5) = (orow A (j0 + 1) r).drop (j * 5) := by
      rw [show (j + 1) * 5 = 5 + j * 5 by omega, ← List.drop_drop]; rfl
    rw [e, this, show j0 + 1 + j = j0 + (j + 1) by omega]; rfl
def OpV.rng (o : OpV) : Prop := (0 ≤ o.u ∧ o.u ≤ 255) ∧ (-9223372036854775808 ≤ o.k ∧ o.k ≤ 9223372036854775807)
structure OpsIn (W : World) (v : Value) (ops : List OpV) (m : Nat) (lf : Nat → Loc) : Prop where
  lem : m ≤ ops.length
  rng : ∀ j, j < ops.length → (ops.getD j ⟨0, .empty, .empty, 0, [], 0⟩).rng
  sh : ∀ j, (lf j).sh = none
  ok : ∃ vs : List Value, vs.length = ops.length * 5 ∧ (∀ j, j < ops.length → ∃ kv, (vs.drop (j * 5)).take 5 = [.int .u8 (ops.getD j ⟨0, .empty, .empty, 0, [], 0⟩).u, .string (ops.getD j ⟨0, .empty, .empty, 0, [], 0⟩).nm, .string (ops.getD j ⟨0, .empty, .empty, 0, [], 0⟩).s, .int .i64 (ops.getD j ⟨0, .empty, .empty, 0, [], 0⟩).k, kv] ∧
      KV W (lf j) (ops.getD j ⟨0, .empty, .empty, 0, [], 0⟩).zs (ops.getD j ⟨0, .empty, .empty, 0, [], 0⟩).m kv) ∧
    ((v = .slice none 0 0 ∧ ops = [] ∧ m = 0) ∨ ∃ a c T fr, v = .slice (some a) m ops.length ∧ a.spot = none ∧ W.heap[a.block]? = some (.cells c T fr) ∧ ∀ i, i < vs.length → W.cell? (a.add i) = vs[i]?)
theorem in_ops {b0 : Nat} {v : Value} {d : DataW H} {ps : List MemPlace} (hval : Value.okWide Tryz.prog W .any b0 22 v) (h0 : DataW.Trod enc Tryz.prog W 0 (fun _ => true) true 22 v d ps) : ∃ ops m lf, OpsIn W v ops m lf := by
  obtain ⟨a0, len, cap, rfl⟩ := okWide_slice Tryz.underlying22 hval
  obtain ⟨fuel, hf⟩ := h0
  rcases open_slice Tryz.underlying22 hf with ⟨hcs, hx⟩ | ⟨a, len', cap', m, n', D, Pl, hcs, _, hl, hm, hmm, hx, hall⟩
  · simp only [Value.cells] at hcs
    cases hcs
    exact ⟨[], 0, fun _ => ⟨none, 0, 0, false, none⟩, Nat.le_refl _, fun j hj => (by simp at hj), fun _ => rfl, [], rfl, fun j hj => (by simp at hj), .inl ⟨rfl, rfl, rfl⟩⟩
  · simp only [Value.cells] at hcs
    cases hcs
    simp only [if_true] at hmm
    subst hmm
    obtain ⟨hs, c, T, fr, hb⟩ := spot_none Tryz.underlying22 hval
    have c55 : Tryz.prog.cellsOf 31 = 5 := by kernel_rfl
    rw [c55] at hall
    have each : ∀ j, ∃ (o : OpV) (l : Loc) (kv : Value), l.sh = none ∧ (j < m → W.cells? 0 (a.add (j * 5)) 5 = some [.int .u8 o.u, .string o.nm, .string o.s, .int .i64 o.k, kv] ∧ KV W l o.zs o.m kv ∧ o.rng) := by
      intro j
      by_cases hj : j < m
      · obtain ⟨cs', g1, g2⟩ := hall j hj
        obtain ⟨b0, b1, b2, b3, kv, n'', y, rfl, r0, r1, hk⟩ := op_cells g2
        obtain ⟨l, zs, q, hkv⟩ := in_kv hk
        exact ⟨⟨b0, b1, b2, b3, zs, q⟩, l, kv, hkv.sh, fun _ => ⟨g1, hkv, by simpa [Lit.wf, IntKind.min, IntKind.max, IntKind.signed, IntKind.bits] using r0, by simpa [Lit.wf, IntKind.min, IntKind.max, IntKind.signed, IntKind.bits] using r1⟩⟩
      · exact ⟨⟨0, .empty, .empty, 0, [], 0⟩, ⟨none, 0, 0, false, none⟩, .bool false, rfl, fun h => absurd h hj⟩
    obtain ⟨of, hof⟩ := Classical.axiomOfChoice each
    obtain ⟨lf, hlf⟩ := Classical.axiomOfChoice hof
    obtain ⟨kf, hkf⟩ := Classical.axiomOfChoice hlf
    have hget : ∀ j, j < m → ((List.range m).map of).getD j ⟨0, .empty, .empty, 0, [], 0⟩ = of j := fun j hj => by
      rw [List.getD_eq_getElem?_getD, List.getElem?_map, List.getElem?_range hj]; rfl
    refine ⟨(List.range m).map of, len, lf, by simp; exact hl, fun j hj => by rw [hget j (by simpa using hj)]; exact ((hkf j).2 (by simpa using hj)).2.2, fun j => (hkf j).1, ((List.range m).map fun j => [Value.int .u8 (of j).u, .string (of j).nm, .string (of j).s, .int .i64 (of j).k, kf j]).flatten, ?_, ?_, .inr ⟨a, c, T, fr, by simp, hs, hb, ?_⟩⟩
    · rw [flat_len (z := 5) (by intro s hs; simp at hs; obtain ⟨j, _, rfl⟩ := hs; rfl)]; simp
    · intro j hj
      have hj' : j < m := by simpa using hj
      refine ⟨kf j, ?_, ?_⟩
      · rw [flat_take (z := 5) (by intro s hs; simp at hs; obtain ⟨j, _, rfl⟩ := hs; rfl) (by simpa using hj'), hget j hj', List.getD_eq_getElem?_getD, List.getElem?_map, List.getElem?_range hj']; rfl
      · rw [hget j hj']; exact ((hkf j).2 hj').2.1
    · intro i hi
      rw [flat_len (z := 5) (by intro s hs; simp at hs; obtain ⟨j, _, rfl⟩ := hs; rfl)] at hi
      simp only [List.length_map, List.length_range] at hi
      have hj : i / 5 < m := by omega
      have h1 := ((hkf (i / 5)).2 hj).1
      have h2 := flat_take (z := 5) (l := (List.range m).map fun j => [Value.int .u8 (of j).u, .string (of j).nm, .string (of j).s, .int .i64 (of j).k, kf j]) (j := i / 5) (by intro s hs; simp at hs; obtain ⟨j, _, rfl⟩ := hs; rfl) (by simpa using hj)
      rw [List.getD_eq_getElem?_getD, List.getElem?_map, List.getElem?_range hj] at h2
      simp only [Option.map_some, Option.getD_some] at h2
      have h3 : (((List.range m).map fun j => [Value.int .u8 (of j).u, .string (of j).nm, .string (of j).s, .int .i64 (of j).k, kf j]).flatten)[i]? = [Value.int .u8 (of (i / 5)).u, .string (of (i / 5)).nm, .string (of (i / 5)).s, .int .i64 (of (i / 5)).k, kf (i / 5)][i % 5]? := by
        rw [← h2, List.getElem?_take, if_pos (Nat.mod_lt _ (by decide)), List.getElem?_drop]
        congr 1; omega
      rw [h3]
      have h4 := cells?_get h1 (i % 5) (Nat.mod_lt _ (by decide))
      rw [← h4]
      rw [cell_at hs hb]
      obtain ⟨s1, s2, s3⟩ := add_spot hs (i / 5 * 5)
      rw [cell_at (a := a.add (i / 5 * 5)) s1 (by rw [s2]; exact hb), s3]
      congr 1; omega
theorem row_loc {a : Addr} {len cap z : Nat} {c : Array Value} {T : TypeId} {fr : Nat × Nat} {vs : List Value} (hz0 : 0 < z) (hs : a.spot = none) (hb : W.heap[a.block]? = some (.cells c T fr)) (hl : len ≤ cap)
    (hvs : vs.length = cap * z) (hcell : ∀ i, i < vs.length → W.cell? (a.add i) = vs[i]?) :
    ∃ l : Loc, (∀ (ρ : Nat → Loc) (b : Body), (∀ es, b ≠ .mp es) → All2 (crel ρ) b.cells vs → ObjOK ρ W l ⟨false, b⟩) ∧ (∀ k, l.blk = some k → k < W.heap.size) ∧ slrel l 0 len z (.slice (some a) len cap) ∧ l.sh = none := by
  have hblk : a.block < W.heap.size := (Array.getElem?_eq_some_iff.1 hb).1
  have hsz : vs.length ≠ 0 → a.off + vs.length ≤ c.size := by
    intro h
    have := hcell (vs.length - 1) (by omega)
    rw [cell_at hs hb, List.getElem?_eq_getElem (by omega)] at this
    have := (Array.getElem?_eq_some_iff.1 this).1
    omega
  have hobj : ∀ (ρ : Nat → Loc) (l : Loc) (b : Body), l.ex = false → (∀ es, b ≠ .mp es) → RowOK ρ W l false b.cells → ObjOK ρ W l ⟨false, b⟩ := fun ρ l b hx hnm h => ObjOK.mk hnm h (exOK_ro hx)
  by_cases h00 : vs.length = 0
  · refine ⟨⟨some a.block, 0, 0, false, none⟩, fun ρ b hnm hcr => hobj ρ _ b rfl hnm ?_, fun k hk => (by cases hk; exact hblk), ?_, rfl⟩
    · have hlen := hcr.length
      refine ⟨c, T, fr, hb, Nat.zero_le _, by rw [hlen, h00]; exact Nat.le_refl _, ?_, fun h => by cases h⟩
      intro j x hj
      have : j < b.cells.length := (List.getElem?_eq_some_iff.1 hj).1
      omega
    · have hc : cap = 0 := by
        rcases Nat.mul_eq_zero.1 (hvs ▸ h00) with h | h
        · exact h
        · omega
      refine ⟨cap, a.off, hl, ⟨by simp [hc], fun e => by cases e⟩, fun h => absurd hc h, ?_⟩
      cases a; cases hs; rfl
  · refine ⟨⟨some a.block, a.off, cap * z, false, none⟩, fun ρ b hnm hcr => hobj ρ _ b rfl hnm ?_, fun k hk => (by cases hk; exact hblk), ?_, rfl⟩
    · have hlen := hcr.length
      refine ⟨c, T, fr, hb, by simp only; have := hsz h00; omega, by simp only; omega, ?_, fun h => by cases h⟩
      intro j x hj
      have hj' : j < vs.length := by rw [← hlen]; exact (List.getElem?_eq_some_iff.1 hj).1
      obtain ⟨y, hy, hr⟩ := hcr.get hj
      exact ⟨y, by rw [← cell_at hs hb, hcell j hj', hy], hr⟩
    · refine ⟨cap, a.off, hl, ⟨by simp, fun e => by cases e⟩, fun h => by simp, ?_⟩
      cases a; cases hs; rfl
def argX (opsA : Nat → List OpV) (rb : Nat → Option Body) (i : Nat) : Option SO :=
  if i < 1000 then none else if (i - 1000) % 4 = 3 then (rb ((i - 1000) / 4)).map (fun b => ⟨false, b⟩)
  else if (i - 1000) / 4 < (opsA ((i - 1000) % 4)).length then some ⟨false, .ints .i64 ((opsA ((i - 1000) % 4)).getD ((i - 1000) / 4) ⟨0, .empty, .empty, 0, [], 0⟩).zs⟩ else none
def argR (lfA : Nat → Nat → Loc) (lr : Nat → Loc) (i : Nat) : Loc := if i < 1000 then ⟨none, 0, 0, false, none⟩ else if (i - 1000) % 4 = 3 then lr ((i - 1000) / 4) else lfA ((i - 1000) % 4) ((i - 1000) / 4)
theorem argX_row {opsA : Nat → List OpV} {rb : Nat → Option Body} {j : Nat} {b : Body} (h : rb j = some b) : argX opsA rb (1003 + 4 * j) = some ⟨false, b⟩ := by
  unfold argX
  rw [if_neg (by omega), show (1003 + 4 * j - 1000) / 4 = j by omega, if_pos (by omega), h]; rfl
theorem argR_at {lfA : Nat → Nat → Loc} {lr : Nat → Loc} {j A : Nat} (hA : A < 3) : argR lfA lr (1000 + 4 * j + A) = lfA A j := by
  unfold argR
  rw [if_neg (by omega), show (1000 + 4 * j + A - 1000) / 4 = j by omega, show (1000 + 4 * j + A - 1000) % 4 = A by omega, if_neg (by omega)]
theorem argR_row {lfA : Nat → Nat → Loc} {lr : Nat → Loc} {j : Nat} : argR lfA lr (1003 + 4 * j) = lr j := by
  unfold argR
  rw [if_neg (by omega), show (1003 + 4 * j - 1000) / 4 = j by omega, if_pos (by omega)]
theorem hrel_args {opsA : Nat → List OpV} {lfA : Nat → Nat → Loc} {vA : Nat → Value} {mA : Nat → Nat} {rb : Nat → Option Body} {lr : Nat → Loc} (h : ∀ A, A < 3 → OpsIn W (vA A) (opsA A) (mA A) (lfA A))
    (hr : ∀ j b, rb j = some b → b.lt 1 = true ∧ (∀ k, (lr j).blk = some k → k < W.heap.size) ∧ ObjOK (argR lfA lr) W (lr j) ⟨false, b⟩) (hsh : ∀ j, (lr j).sh = none) (hsf : ∀ A j, (lfA A j).sh = none) :
    HRel (· < W.heap.size) W (argR lfA lr) 1 ⟨[], argX opsA rb⟩ W := by
  have hx : ∀ i s, argX opsA rb i = some s → 1000 ≤ i ∧ s.wr = false ∧ s.b.lt 1 = true ∧ ObjOK (argR lfA lr) W (argR lfA lr i) s ∧ ∀ k, (argR lfA lr i).blk = some k → k < W.heap.size := by
    intro i s hs
    unfold argX at hs
    split at hs
    · cases hs
    · rename_i hi
      split at hs
      · rename_i h3
        rw [Option.map_eq_some_iff] at hs
        obtain ⟨b, hb, rfl⟩ := hs
        obtain ⟨e1, e2, e3⟩ := hr _ b hb
        have e : argR lfA lr i = lr ((i - 1000) / 4) := by unfold argR; rw [if_neg hi, if_pos h3]
        rw [e]
        exact ⟨by omega, rfl, e1, e3, e2⟩
      · rename_i h3
        split at hs
        · rename_i hj
          cases hs
          obtain ⟨vs, _, hv, _⟩ := (h ((i - 1000) % 4) (by have := Nat.mod_lt (i - 1000) (by decide : 0 < 4); omega)).ok
          obtain ⟨kv, _, hk⟩ := hv _ hj
          have e : argR lfA lr i = lfA ((i - 1000) % 4) ((i - 1000) / 4) := by unfold argR; rw [if_neg hi, if_neg h3]
          rw [e]
          exact ⟨by omega, rfl, rfl, hk.row _, hk.live⟩
        · cases hs
  have hg : ∀ i, Hp.get ⟨[], argX opsA rb⟩ i = argX opsA rb i := fun i => rfl
  refine { os := rfl, tape := rfl, output := rfl, size := Nat.le_refl _, keep := fun _ _ => rfl, old := fun _ h => h, nil := ⟨rfl, rfl⟩, pos := by omega, obj := ?_, lt := ?_, own := ?_, inj := ?_, live := ?_, xok := ?_, shk := ShKeep.refl _, shp := fun i T c b e1 _ => (by
    unfold argR at e1
    split at e1
    · cases e1
    split at e1
    · rw [hsh] at e1; cases e1
    · rw [hsf] at e1; cases e1) }
  · exact fun i s hs => (hx i s (hg i ▸ hs)).2.2.2.1
  · intro i s hs
    obtain ⟨h1, _, h2, _, _⟩ := hx i s (hg i ▸ hs)
    exact ⟨by unfold idOK; simp; omega, h2⟩
  · intro i s b hs hw
    rw [(hx i s (hg i ▸ hs)).2.1] at hw; cases hw
  · intro i j s s' b _ hs _ hw
    rw [(hx i s (hg i ▸ hs)).2.1] at hw; cases hw
  · exact fun i s b hs hb => (hx i s (hg i ▸ hs)).2.2.2.2 b hb
  · intro i s hs
    obtain ⟨h1, h2, h3, _, _⟩ := hx i s hs
    exact ⟨h1, h2, h3, rfl⟩
theorem orow_lt {A n : Nat} : ∀ {l : List OpV} {j : Nat}, (orow A j l).all (ltB n) = true
  | [], _ => rfl
  | o :: r, j => by
    simp only [orow, List.all_append, orow_lt, Bool.and_true, ocell, List.all_cons, List.all_nil, ltB, ltA, idOK]
    simp; omega
theorem ops_loc {A m : Nat} {v : Value} {ops : List OpV} {lf : Nat → Loc} (h : OpsIn W v ops m lf) :
    ∃ l : Loc, (∀ ρ : Nat → Loc, (∀ j, ρ (1000 + 4 * j + A) = lf j) → ObjOK ρ W l ⟨false, .sv (orow A 0 ops)⟩) ∧ (∀ k, l.blk = some k → k < W.heap.size) ∧ slrel l 0 m 5 v ∧ l.sh = none := by
  obtain ⟨hm, _, _, vs, hvl, hv, hcase⟩ := h
  rcases hcase with ⟨rfl, rfl, rfl⟩ | ⟨a, c, T, fr, rfl, hs, hb, hcell⟩
  · exact ⟨⟨none, 0, 0, false, none⟩, fun ρ _ => ⟨rfl, exOK_ro rfl⟩, fun k hk => (by cases hk), ⟨rfl, .inl rfl⟩, rfl⟩
  · obtain ⟨l, g1, g2, g3, g4⟩ := row_loc (vs := vs) (z := 5) (by decide) hs hb hm (by omega) hcell
    refine ⟨l, fun ρ hρ => g1 ρ _ (by simp) ?_, g2, g3, g4⟩
    refine All2.of_get (by simp only [Body.cells]; rw [orow_len, hvl]) fun i x hx => ?_
    simp only [Body.cells] at hx
    have hi : i < ops.length * 5 := by rw [← orow_len (A := A) (l := ops) (j := 0)]; exact (List.getElem?_eq_some_iff.1 hx).1
    have hj : i / 5 < ops.length := by omega
    obtain ⟨kv, h1, h2⟩ := hv (i / 5) hj
    have h3 := orow_at (A := A) (o0 := ⟨0, .empty, .empty, 0, [], 0⟩) (l := ops) (j0 := 0) hj
    have e1 : (orow A 0 ops)[i]? = (ocell (1000 + 4 * (0 + i / 5) + A) (ops.getD (i / 5) ⟨0, .empty, .empty, 0, [], 0⟩))[i % 5]? := by
      rw [← h3, List.getElem?_take, if_pos (Nat.mod_lt _ (by decide)), List.getElem?_drop]; congr 1; omega
    have e2 : vs[i]? = [Value.int .u8 (ops.getD (i / 5) ⟨0, .empty, .empty, 0, [], 0⟩).u, .string (ops.getD (i / 5) ⟨0, .empty, .empty, 0, [], 0⟩).nm, .string (ops.getD (i / 5) ⟨0, .empty, .empty, 0, [], 0⟩).s, .int .i64 (ops.getD (i / 5) ⟨0, .empty, .empty, 0, [], 0⟩).k, kv][i % 5]? := by
      rw [← h1, List.getElem?_take, if_pos (Nat.mod_lt _ (by decide)), List.getElem?_drop]; congr 1; omega
    rw [e1] at hx
    rw [e2]
    have hid : ρ (1000 + 4 * (0 + i / 5) + A) = lf (i / 5) := by rw [Nat.zero_add]; exact hρ _
    generalize ops.getD (i / 5) ⟨0, .empty, .empty, 0, [], 0⟩ = o at hx h2 ⊢
    have h4 : i % 5 = 0 ∨ i % 5 = 1 ∨ i % 5 = 2 ∨ i % 5 = 3 ∨ i % 5 = 4 := by omega
    rcases h4 with h4 | h4 | h4 | h4 | h4 <;> rw [h4] at hx ⊢ <;> simp only [ocell, List.getElem?_cons_zero, List.getElem?_cons_succ, Option.some.injEq] at hx ⊢ <;> subst hx
    · exact ⟨_, rfl, rfl⟩
    · exact ⟨_, rfl, rfl⟩
    · exact ⟨_, rfl, rfl⟩
    · exact ⟨_, rfl, rfl⟩
    · refine ⟨_, rfl, ?_⟩
      show slrel (ρ (1000 + 4 * (0 + i / 5) + A)) 0 o.m 1 kv
      rw [hid]; exact h2.sl
end Go.Sx

/- Cells: CellWhole. -/
set_option linter.unusedVariables false
set_option linter.unusedSimpArgs false
set_option maxRecDepth 100000
namespace Go.Sx
attribute [local go_sem ↓] bind_mk intsB_mk strsB_mk svB_mk fnVC ob_some vc_skip vc_exit vc_ret vc_seq vc_block kSeq_normal kSeq_exit kSeq_ret kBlock_normal kBlock_exit kBlock_ret vc_reg vc_regD vc_cond condK_true condK_false vc_loop kLoop_exit kLoop_ret kRoll_normal kRoll_exit kRoll_ret vcOps_nil vcOps_cons gd_bool gd_undef put_some put_none vcT_fin vcT_pure vcT_act vcT_acts vcT_stop stab_none stab_some stabM_nil stabM_cons stabO_ld stabO_ldn stabO_slP stabO_b2s fldOf_ai fldOf_agg fldOf_ait fldOf_aggt intsOf_nil intsOf_cons strsOf_nil strsOf_cons c_omap ob_if lk_nil lk_cons ev_t ev_k z_mov z_pick z_bin z_binB z_binP z_un z_r2s z_conv z_s2b z_b2s z_mkM z_luM z_upM z_lenM lenMk_mp lenMk_nil plsOf_v z_delM asM_so plV_v plV_agg mpOf_mp mpOf_nil mpUp_mp asM_mp luV_ok luV_v z_allocT aggOf_mk z_boxT z_alloc z_bld z_bldI z_rowI z_rowS z_ld z_ldn z_st z_stn asN_ptr asN_fn z_nilck z_fld z_fadr z_idxA z_idxP z_idxS z_idxV z_slS z_slL z_slP z_mk z_lenS z_lenL z_app appC_ints appC_pl appC_sv appC_strs isS_strs loose_ints loose_pl loose_sv z_slM z_callv callvK_fn callvK_f callvK_yl vc_rangeF rfEnd_eq rfGo_none rfGo_ret rfGo_exit yGo_mk yEnd_n yEnd_r yEnd_e yRdy_mk yMid_n putPs_nil putPs_cons leaf_v leaf_ptr leaf_sl leaf_yl leaf_mp z_appS z_appST z_appZ z_cpyS z_mkfn reps_int reps_str z_rowV z_slnil nilK_zero z_cpy z_call asT_tup z_extT z_box boxOf_ai boxOf_agg boxOf_int boxOf_str boxOf_bool boxOf_ptr boxOf_sl sbin_int sbin_str sbinB_mk sbinP_nn sbinP_pn sbinP_np i_add i_sub i_mul i_quo i_rem i_and i_or i_xor i_andNot i_shl i_shr i_eql i_neq i_lss i_leq i_gtr i_geq st_add st_eql st_neq st_lss st_leq st_gtr st_geq bo_eql bo_neq pt_eql pt_neq un_neg un_xor un_not asI_mk asB_mk asS_mk asP_mk asSl_mk asBy_mk bnd_none bnd_some get_mk hput_mk hdel_mk kill_eq wrOf_eq rowOf_eq rsvs_0 rsvs_1 rsvs_2 rsvs_3 rsv_t rsv_c1 rsv_cn nt_v nt_ptr nt_sl nt_agg nt_ai get_ints get_strs get_pl get_sv getN_ints getN_sv set_ints set_strs set_sv setN_ints setN_sv part_ints part_strs part_sv cat_ints cat_strs cat_sv over_ints over_strs over_sv ones_ints ones_strs evs_nil evs_cons condK_eqt condK_eqf det_callP V_ns V_nn V_gs V_gn obC_mk fresh_ev freshT_ev freshR_ev setN_plagg setN_intsv setN_svai setN_svagg over_intsv set_pl setN_pl setN_plai getN_pl getN_strs part_pl cat_pl over_pl over_plints z_mm
attribute [local go_sem] initTm ne_eq not_true_eq_false not_false_eq_true true_and and_true List.length_cons List.length_nil Int.toNat_natCast Nat.add_zero Nat.zero_add Nat.mul_one List.getElem?_cons_zero List.drop_zero List.take_length List.take_succ_cons List.take_zero List.take_nil List.drop_succ_cons Option.map_some Nat.le_refl implies_true List.getElem?_cons_succ decide_true decide_false Bool.not_true Bool.not_false beq_self_eq_true Nat.succ_ne_self Nat.one_ne_zero Nat.zero_ne_one vk_mk hk_mk nk_mk tok_eq plsOf_map intsOf_map bodyOf_pl bodyOf_ints bodyOf_strs bodyOf_sv part_aggv part_agg part_ai part_int part_str part_bool part_sl part_ptr part_nil numsOf_map u_int u_str u_bool u_pnil u_sl u_ptr u_oci u_ocs evq_nil evq_cons fillS_nil fillS_cons u_ocb ones_pl cells_sv cells_ints cells_strs cells_pl smms_nil smms_cons smm_min smm_max plsOf_nil List.nil_append List.all_cons List.all_nil Bool.and_self Bool.true_and Bool.and_true zws_len zw_len zi_len List.set_cons_zero List.set_cons_succ List.flatMap_cons List.flatMap_nil List.append_nil
attribute [local go_sem_proc] Nat.reduceEqDiff Nat.reduceAdd Nat.reduceMul Nat.reduceLT Nat.reduceLeDiff Nat.reduceSub Int.reduceToNat Int.reduceLE Int.reduceLT reduceCtorEq Int.reduceEq Int.reduceGT Int.reduceGE Int.reduceNeg
attribute [local go_sem_proc ↓] reduceIte
section
open Go.Proofs
variable {H : Hp} {n : Nat} {x : Nat → Option SO} {d d' : Fd} {C C' : Ce}
theorem newNo {k j : Nat} (h : j < k) : NoHd (secT (newD k) j) := by
  have hz : (newD k).seen.getD j [] = z64 := by
    show (List.replicate k (zi 64)).getD j [] = z64
    rw [List.getD_eq_getElem?_getD, List.getElem?_replicate, if_pos h]; rfl
  exact z64_Z.no hz (.inl z64_get)
theorem prs_nil : prs [] = [] := List.length_eq_zero_iff.1 (by rw [prs_len]; rfl)
end
end Go.Sx
/- Cells: a fate that came in. -/
set_option linter.unusedVariables false
set_option linter.unusedSimpArgs false
set_option maxRecDepth 100000
namespace Go.Sx
open Go.Proofs Go.ChangeShapes Go.WideShapes Go.ChangeAt Go.RowKit Go.Deep
variable {H : Type} {enc : TypeId × Value → H} {W : World}
theorem rel_argrow' {lfA : Nat → Nat → Loc} {lr : Nat → Loc} {o m z : Nat} {v : Value} (j : Nat) (h : slrel (lr j) o m z v) : slrel (argR lfA lr (1003 + 4 * j)) o m z v := by rw [argR_row]; exact h
end Go.Sx

/- Cells: a call of a cell, to which it was done already elsewhere. -/
set_option linter.unusedVariables false
set_option linter.unusedSimpArgs false
set_option maxRecDepth 100000
namespace Go.Sx
attribute [local go_sem ↓] bind_mk intsB_mk strsB_mk svB_mk fnVC ob_some vc_skip vc_exit vc_ret vc_seq vc_block kSeq_normal kSeq_exit kSeq_ret kBlock_normal kBlock_exit kBlock_ret vc_reg vc_regD vc_cond condK_true condK_false vc_loop kLoop_exit kLoop_ret kRoll_normal kRoll_exit kRoll_ret vcOps_nil vcOps_cons gd_bool gd_undef put_some put_none vcT_fin vcT_pure vcT_act vcT_acts vcT_stop stab_none stab_some stabM_nil stabM_cons stabO_ld stabO_ldn stabO_slP stabO_b2s fldOf_ai fldOf_agg fldOf_ait fldOf_aggt intsOf_nil intsOf_cons strsOf_nil strsOf_cons c_omap ob_if lk_nil lk_cons ev_t ev_k z_mov z_pick z_bin z_binB z_binP z_un z_r2s z_conv z_s2b z_b2s z_mkM z_luM z_upM z_lenM lenMk_mp lenMk_nil plsOf_v z_delM asM_so plV_v plV_agg mpOf_mp mpOf_nil mpUp_mp asM_mp luV_ok luV_v z_allocT aggOf_mk z_boxT z_alloc z_bld z_bldI z_rowI z_rowS z_ld z_ldn z_st z_stn asN_ptr asN_fn z_nilck z_fld z_fadr z_idxA z_idxP z_idxS z_idxV z_slS z_slL z_slP z_mk z_lenS z_lenL z_app appC_ints appC_pl appC_sv appC_strs isS_strs loose_ints loose_pl loose_sv z_slM z_callv callvK_fn callvK_f callvK_yl vc_rangeF rfEnd_eq rfGo_none rfGo_ret rfGo_exit yGo_mk yEnd_n yEnd_r yEnd_e yRdy_mk yMid_n putPs_nil putPs_cons leaf_v leaf_ptr leaf_sl leaf_yl leaf_mp z_appS z_appST z_appZ z_cpyS z_mkfn reps_int reps_str z_rowV z_slnil nilK_zero z_cpy z_call asT_tup z_extT z_box boxOf_ai boxOf_agg boxOf_int boxOf_str boxOf_bool boxOf_ptr boxOf_sl sbin_int sbin_str sbinB_mk sbinP_nn sbinP_pn sbinP_np i_add i_sub i_mul i_quo i_rem i_and i_or i_xor i_andNot i_shl i_shr i_eql i_neq i_lss i_leq i_gtr i_geq st_add st_eql st_neq st_lss st_leq st_gtr st_geq bo_eql bo_neq pt_eql pt_neq un_neg un_xor un_not asI_mk asB_mk asS_mk asP_mk asSl_mk asBy_mk bnd_none bnd_some get_mk hput_mk hdel_mk kill_eq wrOf_eq rowOf_eq rsvs_0 rsvs_1 rsvs_2 rsvs_3 rsv_t rsv_c1 rsv_cn nt_v nt_ptr nt_sl nt_agg nt_ai get_ints get_strs get_pl get_sv getN_ints getN_sv set_ints set_strs set_sv setN_ints setN_sv part_ints part_strs part_sv cat_ints cat_strs cat_sv over_ints over_strs over_sv ones_ints ones_strs evs_nil evs_cons condK_eqt condK_eqf det_callP V_ns V_nn V_gs V_gn obC_mk fresh_ev freshT_ev freshR_ev setN_plagg setN_intsv setN_svai setN_svagg over_intsv set_pl setN_pl setN_plai getN_pl getN_strs part_pl cat_pl over_pl over_plints z_mm
attribute [local go_sem] initTm ne_eq not_true_eq_false not_false_eq_true true_and and_true List.length_cons List.length_nil Int.toNat_natCast Nat.add_zero Nat.zero_add Nat.mul_one List.getElem?_cons_zero List.drop_zero List.take_length List.take_succ_cons List.take_zero List.take_nil List.drop_succ_cons Option.map_some Nat.le_refl implies_true List.getElem?_cons_succ decide_true decide_false Bool.not_true Bool.not_false beq_self_eq_true Nat.succ_ne_self Nat.one_ne_zero Nat.zero_ne_one vk_mk hk_mk nk_mk tok_eq plsOf_map intsOf_map bodyOf_pl bodyOf_ints bodyOf_strs bodyOf_sv part_aggv part_agg part_ai part_int part_str part_bool part_sl part_ptr part_nil numsOf_map u_int u_str u_bool u_pnil u_sl u_ptr u_oci u_ocs evq_nil evq_cons fillS_nil fillS_cons u_ocb ones_pl cells_sv cells_ints cells_strs cells_pl smms_nil smms_cons smm_min smm_max plsOf_nil List.nil_append List.all_cons List.all_nil Bool.and_self Bool.true_and Bool.and_true zws_len zw_len zi_len List.set_cons_zero List.set_cons_succ List.flatMap_cons List.flatMap_nil List.append_nil
attribute [local go_sem_proc] Nat.reduceEqDiff Nat.reduceAdd Nat.reduceMul Nat.reduceLT Nat.reduceLeDiff Nat.reduceSub Int.reduceToNat Int.reduceLE Int.reduceLT reduceCtorEq Int.reduceEq Int.reduceGT Int.reduceGE Int.reduceNeg
attribute [local go_sem_proc ↓] reduceIte
section
open Go.Proofs
variable {H : Hp} {n : Nat} {x : Nat → Option SO} {d d' d2 : Fd} {C C' : Ce}
def stR (C : Ce) (d : Fd) (kq : Int) (nm t : ByteArray) : Ce × Fd :=
  if kq = 3 then ({ C with now := dlS C.now nm }, d) else if kq = 4 then ({ C with now := C.was }, d) else if kq = 5 ∨ kq = 6 then (coR C d).2 else ({ C with now := putEs C.now nm t }, d)
def alL (C C2 : Ce) (d d2 : Fd) : List (Nat × Option SO) := [(1, some ⟨true, cellB C 2 6 7⟩), (2, some ⟨true, devB d 3 4 5⟩), (3, some ⟨true, secB d.seen⟩), (4, some ⟨true, secB d.safe⟩), (5, some ⟨true, .pl (prow d.pend)⟩), (6, some ⟨true, .mp (.map C.now)⟩), (7, some ⟨true, .mp (.map C.was)⟩),
  (8, some ⟨false, cellB C2 9 10 11⟩), (9, some ⟨false, devB d2 12 13 14⟩), (10, some ⟨false, .mp (.map C2.now)⟩), (11, some ⟨false, .mp (.map C2.was)⟩), (12, some ⟨false, secB d2.seen⟩), (13, some ⟨false, secB d2.safe⟩), (14, some ⟨false, .pl (prow d2.pend)⟩)]
def alN (C : Ce) (d : Fd) : List (Nat × Option SO) := [(1, some ⟨true, cellB C 2 18 19⟩), (2, some ⟨true, devB d 15 16 17⟩), (3, none), (4, none), (5, none), (6, none), (7, none), (15, some ⟨true, secB d.seen⟩), (16, some ⟨true, secB d.safe⟩), (17, some ⟨true, .pl (prow d.pend)⟩), (18, some ⟨true, .mp (.map C.now)⟩), (19, some ⟨true, .mp (.map C.was)⟩)]
set_option maxHeartbeats 4000000 in
theorem alikeW {k m : Int} {nm t : ByteArray} {r q mm tt : Nat} {kq : Int} (hkq : k.tmod 10 = kq) (hk : 0 ≤ kq ∧ kq < 7) (hC : C.ok) (hP : Pl d mm tt) (ht : tt + 1000 < 1000000) (hst : stR C d kq nm t = (C', d')) (hE : Es C'.now) :
    fnVC CT malike [.ptr 1 0, opA k nm t m r q, .ptr 8 0] ⟨alL C C' d d2, x⟩ 15 fun v H' n' => Sub 15 ⟨[(0, .v (.bool true))], ⟨alN C' d', x⟩, 20⟩ ⟨[(0, v)], H', n'⟩ := by
  have hEC := hC.now
  have hlen := hE.len
  have hkl := srtK_len (es := C'.now)
  unfold malike alL opA
  simp -implicitDefEqProofs only [↓fnVC, initTm]
  by_cases k3 : kq = 3
  · have d3 : decide (kq = 3) = true := decide_eq_true (by omega)
    obtain ⟨hC', hd'⟩ : C' = { C with now := dlS C.now nm } ∧ d' = d := by
      have : stR C d kq nm t = ({ C with now := dlS C.now nm }, d) := by unfold stR; rw [if_pos k3]
      rw [this] at hst; cases hst; exact ⟨rfl, rfl⟩
    simp -implicitDefEqProofs only [go_sem, hkq, d3]
    refine at_call tCDrop (dropS (C := C) (d := d) (i := 1) (D := 2) (a := 3) (b := 4) (c := 5) (M := 6) (W := 7) ⟨by rfl, by rfl, by rfl, by rfl, by rfl, by rfl, by rfl, by decide, by rfl, by rfl⟩ hEC) ?_
    have hn' : dlS C.now nm = C'.now := by rw [hC']
    have hw' : C.was = C'.was := by rw [hC']
    have hc' : ∀ a b c, cellB C a b c = cellB C' a b c := fun a b c => by rw [hC']; rfl
    rw [hn', hw', hc', ← hd']
    simp -implicitDefEqProofs only [go_sem]
    refine at_call tCNames (cNamesS (C := C') (d := d') (i := 1) (D := 2) (a := 3) (b := 4) (c := 5) (M := 6) (W := 7) ⟨by rfl, by rfl, by rfl, by rfl, by rfl, by rfl, by rfl, by decide, by rfl, by rfl⟩ hE (by decide)) ?_
    simp -implicitDefEqProofs only [go_sem]
    refine in_call mixT tCNames ?_
    unfold mCNames
    simp -implicitDefEqProofs only [↓fnVC, initTm]
    unfold cellB
    simp -implicitDefEqProofs only [go_sem]
    refine at_call tcnames (namesS (i := 10) (by rfl) rfl (by decide) hE.keys (fun e he => Nat.le_trans (hE.kl e he) (by decide)) (by omega) (by decide)) ?_
    have n0 : decide ((C'.now.length : Int) = (C'.now.length : Int)) = true := decide_eq_true rfl
    have n1 : decide ((C'.num : Int) = (C'.num : Int)) = true := decide_eq_true rfl
    simp -implicitDefEqProofs only [go_sem, n0]
    refine at_call tCNumber (numS' (C := C') (i := 1) (D := 2) (M := 6) (W := 7) (by rfl) rfl) ?_
    simp -implicitDefEqProofs only [go_sem]
    refine in_call mixT tCNumber ?_
    unfold mCNumber
    simp -implicitDefEqProofs only [↓fnVC, initTm]
    simp -implicitDefEqProofs only [go_sem, n1]
    refine loop_fam (fun (j : Nat) => j ≤ C'.now.length) (fun j => ⟨[(0, .ptr 1 0), (2, .ptr 8 0), (7, .sl 16 0 C'.now.length 1), (8, .sl 17 0 C'.now.length 1), (55, .v (.int .i64 C'.now.length)), (56, .v (.int .i64 j))],
      ⟨[(1, some ⟨true, cellB C' 2 6 7⟩), (2, some ⟨true, devB d' 3 4 5⟩), (3, some ⟨true, secB d'.seen⟩), (4, some ⟨true, secB d'.safe⟩), (5, some ⟨true, .pl (prow d'.pend)⟩), (6, some ⟨true, .mp (.map C'.now)⟩), (7, some ⟨true, .mp (.map C'.was)⟩), (8, some ⟨false, cellB C' 9 10 11⟩), (10, some ⟨false, .mp (.map C'.now)⟩), (16, some ⟨true, .strs (srtK C'.now)⟩), (17, some ⟨true, .strs (srtK C'.now)⟩)], x⟩, 18⟩) (fun j => C'.now.length - j) 0 (Nat.zero_le _) ?_ ?_
    · refine sub_mk [] rfl rfl rfl ?_
      simp only [tmSub, hpSub, objSub, eqTm, eqHp, rn, lk, SV.ren, SV.renC, SV.renB, SV.renA, ren_ints, ren_strs, ren_pl, ren_svs, SV.v.injEq, Value.int.injEq, Body.ints.injEq, SV.ptr.injEq, SV.sl.injEq, Value.string.injEq, Value.bool.injEq, List.map_cons, List.map_nil, forall_const, Nat.reduceLT, Nat.lt_add_one, imp_self, true_and, and_true, and_self, ob_some, get_mk, lk_cons, ↓reduceIte, Nat.reduceEqDiff, ne_eq, not_true_eq_false, not_false_eq_true, Nat.one_ne_zero, Nat.zero_ne_one, Nat.succ_ne_self, Nat.reduceAdd, Bool.false_eq_true, false_implies, implies_true, reduceCtorEq, cellB, devB, secB]
      repeat' (first | rfl | apply And.intro)
    · intro j hj
      simp -implicitDefEqProofs only [go_sem]
      refine condK_bb (fun c => ?_) (fun c => ?_)
      · have c1 : j < C'.now.length := by have := of_decide_eq_true c; omega
        have w2 : IntKind.i64.wrap ((j : Int) + 1) = ((j + 1 : Nat) : Int) := by rw [wrap_i64 (by omega) (by omega)]; omega
        have hnm : (srtK C'.now).getD j .empty = nmAt C'.now j := rfl
        have hk2 := hE.keys
        have hg := hE.el (nmAt C'.now j)
        have s1 : seq (nmAt C'.now j) (nmAt C'.now j) = true := seq_self _
        have s2 : seq (tOf C'.now (nmAt C'.now j)) (tOf C'.now (nmAt C'.now j)) = true := seq_self _
        simp -implicitDefEqProofs only [go_sem, c, hnm]
        refine ⟨⟨by omega, by omega⟩, by omega, ?_⟩
        refine at_call tCGet (getS (C := C') (d := d') (i := 1) (D := 2) (a := 3) (b := 4) (c := 5) (M := 6) (W := 7) ⟨by rfl, by rfl, by rfl, by rfl, by rfl, by rfl, by rfl, by decide, by rfl, by rfl⟩ hE) ?_
        unfold getV
        simp -implicitDefEqProofs only [go_sem, hnm]
        refine ⟨⟨by omega, by omega⟩, by omega, ?_⟩
        refine in_call mixT tCGet ?_
        unfold mCGet cellB
        simp -implicitDefEqProofs only [↓fnVC, initTm]
        simp -implicitDefEqProofs only [go_sem, asM_so, hk2, hg, spl1, hnm, s1, s2, Bool.not_true, w2]
        refine ⟨⟨by omega, by omega⟩, by omega, ⟨by omega, by omega⟩, by omega, ?_⟩
        refine kLoop_mk (j + 1) (by omega) (by omega) ?_
        refine sub_mk [] rfl rfl rfl ?_
        simp only [tmSub, hpSub, objSub, eqTm, eqHp, rn, lk, SV.ren, SV.renC, SV.renB, SV.renA, ren_ints, ren_strs, ren_pl, ren_svs, SV.v.injEq, Value.int.injEq, Body.ints.injEq, SV.ptr.injEq, SV.sl.injEq, Value.string.injEq, Value.bool.injEq, List.map_cons, List.map_nil, forall_const, Nat.reduceLT, Nat.lt_add_one, imp_self, true_and, and_true, and_self, ob_some, get_mk, lk_cons, ↓reduceIte, Nat.reduceEqDiff, ne_eq, not_true_eq_false, not_false_eq_true, Nat.one_ne_zero, Nat.zero_ne_one, Nat.succ_ne_self, Nat.reduceAdd, Bool.false_eq_true, false_implies, implies_true, reduceCtorEq, cellB, devB, secB]
        repeat' (first | rfl | exact w2 | apply And.intro)
      · simp -implicitDefEqProofs only [go_sem, c]
        unfold alN
        refine sub_mk [(15, 3), (16, 4), (17, 5), (18, 6), (19, 7)] rfl rfl rfl ?_
        simp only [tmSub, hpSub, objSub, eqTm, eqHp, rn, lk, SV.ren, SV.renC, SV.renB, SV.renA, ren_ints, ren_strs, ren_pl, ren_svs, SV.v.injEq, Value.int.injEq, Body.ints.injEq, SV.ptr.injEq, SV.sl.injEq, Value.string.injEq, Value.bool.injEq, List.map_cons, List.map_nil, forall_const, Nat.reduceLT, Nat.lt_add_one, imp_self, true_and, and_true, and_self, ob_some, get_mk, lk_cons, ↓reduceIte, Nat.reduceEqDiff, ne_eq, not_true_eq_false, not_false_eq_true, Nat.one_ne_zero, Nat.zero_ne_one, Nat.succ_ne_self, Nat.reduceAdd, Bool.false_eq_true, false_implies, implies_true, reduceCtorEq, cellB, devB, secB]
        repeat' (first | rfl | apply And.intro)
  by_cases k4 : kq = 4
  · have d3 : decide (kq = 3) = false := decide_eq_false (by omega)
    have d4 : decide (kq = 4) = true := decide_eq_true (by omega)
    obtain ⟨hC', hd'⟩ : C' = { C with now := C.was } ∧ d' = d := by
      have : stR C d kq nm t = ({ C with now := C.was }, d) := by unfold stR; rw [if_neg k3, if_pos k4]
      rw [this] at hst; cases hst; exact ⟨rfl, rfl⟩
    simp -implicitDefEqProofs only [go_sem, hkq, d3, d4]
    refine at_call tCUndo (undoS (C := C) (d := d) (i := 1) (D := 2) (a := 3) (b := 4) (c := 5) (M := 6) (W := 7) ⟨by rfl, by rfl, by rfl, by rfl, by rfl, by rfl, by rfl, by decide, by rfl, by rfl⟩ (by decide)) ?_
    have hn' : (C.was, C.was) = (C'.now, C'.was) := by rw [hC']
    have hw1 : C.was = C'.was := by rw [hC']
    have hw2 : C'.was = C'.now := by rw [hC']
    rw [← hC', ← hd', hw1]
    have hmm : (16, some (⟨true, .mp (.map C'.was)⟩ : SO)) = (16, some ⟨true, .mp (.map C'.now)⟩) := by rw [hw2]
    simp only [hmm]
    simp -implicitDefEqProofs only [go_sem]
    refine at_call tCNames (cNamesS (C := C') (d := d') (i := 1) (D := 2) (a := 3) (b := 4) (c := 5) (M := 16) (W := 7) ⟨by rfl, by rfl, by rfl, by rfl, by rfl, by rfl, by rfl, by decide, by rfl, by rfl⟩ hE (by decide)) ?_
    simp -implicitDefEqProofs only [go_sem]
    refine in_call mixT tCNames ?_
    unfold mCNames
    simp -implicitDefEqProofs only [↓fnVC, initTm]
    unfold cellB
    simp -implicitDefEqProofs only [go_sem]
    refine at_call tcnames (namesS (i := 10) (by rfl) rfl (by decide) hE.keys (fun e he => Nat.le_trans (hE.kl e he) (by decide)) (by omega) (by decide)) ?_
    have n0 : decide ((C'.now.length : Int) = (C'.now.length : Int)) = true := decide_eq_true rfl
    have n1 : decide ((C'.num : Int) = (C'.num : Int)) = true := decide_eq_true rfl
    simp -implicitDefEqProofs only [go_sem, n0]
    refine at_call tCNumber (numS' (C := C') (i := 1) (D := 2) (M := 16) (W := 7) (by rfl) rfl) ?_
    simp -implicitDefEqProofs only [go_sem]
    refine in_call mixT tCNumber ?_
    unfold mCNumber
    simp -implicitDefEqProofs only [↓fnVC, initTm]
    simp -implicitDefEqProofs only [go_sem, n1]
    refine loop_fam (fun (j : Nat) => j ≤ C'.now.length) (fun j => ⟨[(0, .ptr 1 0), (2, .ptr 8 0), (7, .sl 17 0 C'.now.length 1), (8, .sl 18 0 C'.now.length 1), (55, .v (.int .i64 C'.now.length)), (56, .v (.int .i64 j))],
      ⟨[(1, some ⟨true, cellB C' 2 16 7⟩), (2, some ⟨true, devB d' 3 4 5⟩), (3, some ⟨true, secB d'.seen⟩), (4, some ⟨true, secB d'.safe⟩), (5, some ⟨true, .pl (prow d'.pend)⟩), (16, some ⟨true, .mp (.map C'.now)⟩), (7, some ⟨true, .mp (.map C'.was)⟩), (8, some ⟨false, cellB C' 9 10 11⟩), (10, some ⟨false, .mp (.map C'.now)⟩), (17, some ⟨true, .strs (srtK C'.now)⟩), (18, some ⟨true, .strs (srtK C'.now)⟩)], x⟩, 19⟩) (fun j => C'.now.length - j) 0 (Nat.zero_le _) ?_ ?_
    · refine sub_mk [] rfl rfl rfl ?_
      simp only [tmSub, hpSub, objSub, eqTm, eqHp, rn, lk, SV.ren, SV.renC, SV.renB, SV.renA, ren_ints, ren_strs, ren_pl, ren_svs, SV.v.injEq, Value.int.injEq, Body.ints.injEq, SV.ptr.injEq, SV.sl.injEq, Value.string.injEq, Value.bool.injEq, List.map_cons, List.map_nil, forall_const, Nat.reduceLT, Nat.lt_add_one, imp_self, true_and, and_true, and_self, ob_some, get_mk, lk_cons, ↓reduceIte, Nat.reduceEqDiff, ne_eq, not_true_eq_false, not_false_eq_true, Nat.one_ne_zero, Nat.zero_ne_one, Nat.succ_ne_self, Nat.reduceAdd, Bool.false_eq_true, false_implies, implies_true, reduceCtorEq, cellB, devB, secB]
      repeat' (first | rfl | apply And.intro)
    · intro j hj
      simp -implicitDefEqProofs only [go_sem]
      refine condK_bb (fun c => ?_) (fun c => ?_)
      · have c1 : j < C'.now.length := by have := of_decide_eq_true c; omega
        have w2 : IntKind.i64.wrap ((j : Int) + 1) = ((j + 1 : Nat) : Int) := by rw [wrap_i64 (by omega) (by omega)]; omega
        have hnm : (srtK C'.now).getD j .empty = nmAt C'.now j := rfl
        have hk2 := hE.keys
        have hg := hE.el (nmAt C'.now j)
        have s1 : seq (nmAt C'.now j) (nmAt C'.now j) = true := seq_self _
        have s2 : seq (tOf C'.now (nmAt C'.now j)) (tOf C'.now (nmAt C'.now j)) = true := seq_self _
        simp -implicitDefEqProofs only [go_sem, c, hnm]
        refine ⟨⟨by omega, by omega⟩, by omega, ?_⟩
        refine at_call tCGet (getS (C := C') (d := d') (i := 1) (D := 2) (a := 3) (b := 4) (c := 5) (M := 16) (W := 7) ⟨by rfl, by rfl, by rfl, by rfl, by rfl, by rfl, by rfl, by decide, by rfl, by rfl⟩ hE) ?_
        unfold getV
        simp -implicitDefEqProofs only [go_sem, hnm]
        refine ⟨⟨by omega, by omega⟩, by omega, ?_⟩
        refine in_call mixT tCGet ?_
        unfold mCGet cellB
        simp -implicitDefEqProofs only [↓fnVC, initTm]
        simp -implicitDefEqProofs only [go_sem, asM_so, hk2, hg, spl1, hnm, s1, s2, Bool.not_true, w2]
        refine ⟨⟨by omega, by omega⟩, by omega, ⟨by omega, by omega⟩, by omega, ?_⟩
        refine kLoop_mk (j + 1) (by omega) (by omega) ?_
        refine sub_mk [] rfl rfl rfl ?_
        simp only [tmSub, hpSub, objSub, eqTm, eqHp, rn, lk, SV.ren, SV.renC, SV.renB, SV.renA, ren_ints, ren_strs, ren_pl, ren_svs, SV.v.injEq, Value.int.injEq, Body.ints.injEq, SV.ptr.injEq, SV.sl.injEq, Value.string.injEq, Value.bool.injEq, List.map_cons, List.map_nil, forall_const, Nat.reduceLT, Nat.lt_add_one, imp_self, true_and, and_true, and_self, ob_some, get_mk, lk_cons, ↓reduceIte, Nat.reduceEqDiff, ne_eq, not_true_eq_false, not_false_eq_true, Nat.one_ne_zero, Nat.zero_ne_one, Nat.succ_ne_self, Nat.reduceAdd, Bool.false_eq_true, false_implies, implies_true, reduceCtorEq, cellB, devB, secB]
        repeat' (first | rfl | exact w2 | apply And.intro)
      · simp -implicitDefEqProofs only [go_sem, c]
        unfold alN
        refine sub_mk [(15, 3), (16, 4), (17, 5), (18, 16), (19, 7)] rfl rfl rfl ?_
        simp only [tmSub, hpSub, objSub, eqTm, eqHp, rn, lk, SV.ren, SV.renC, SV.renB, SV.renA, ren_ints, ren_strs, ren_pl, ren_svs, SV.v.injEq, Value.int.injEq, Body.ints.injEq, SV.ptr.injEq, SV.sl.injEq, Value.string.injEq, Value.bool.injEq, List.map_cons, List.map_nil, forall_const, Nat.reduceLT, Nat.lt_add_one, imp_self, true_and, and_true, and_self, ob_some, get_mk, lk_cons, ↓reduceIte, Nat.reduceEqDiff, ne_eq, not_true_eq_false, not_false_eq_true, Nat.one_ne_zero, Nat.zero_ne_one, Nat.succ_ne_self, Nat.reduceAdd, Bool.false_eq_true, false_implies, implies_true, reduceCtorEq, cellB, devB, secB]
        repeat' (first | rfl | apply And.intro)
  by_cases k5 : kq = 5
  · have d3 : decide (kq = 3) = false := decide_eq_false (by omega)
    have d4 : decide (kq = 4) = false := decide_eq_false (by omega)
    have d5 : decide (kq = 5) = true := decide_eq_true (by omega)
    obtain ⟨e, hq⟩ : ∃ e, coR C d = (e, C', d') := by
      have : stR C d kq nm t = (coR C d).2 := by unfold stR; rw [if_neg k3, if_neg k4, if_pos (by omega)]
      rw [this] at hst
      exact ⟨(coR C d).1, by rw [← hst]⟩
    simp -implicitDefEqProofs only [go_sem, hkq, d3, d4, d5]
    refine at_call tCCommit (commitS (C := C) (d := d) (i := 1) (D := 2) (a := 3) (b := 4) (c := 5) (M := 6) (W := 7) ⟨by rfl, by rfl, by rfl, by rfl, by rfl, by rfl, by rfl, by decide, by rfl, by rfl⟩ hC hP ht (by decide) hq) ?_
    simp -implicitDefEqProofs only [go_sem]
    refine at_call tCNames (cNamesS (C := C') (d := d') (i := 1) (D := 2) (a := 16) (b := 17) (c := 18) (M := 6) (W := 19) ⟨by rfl, by rfl, by rfl, by rfl, by rfl, by rfl, by rfl, by decide, by rfl, by rfl⟩ hE (by decide)) ?_
    simp -implicitDefEqProofs only [go_sem]
    refine in_call mixT tCNames ?_
    unfold mCNames
    simp -implicitDefEqProofs only [↓fnVC, initTm]
    unfold cellB
    simp -implicitDefEqProofs only [go_sem]
    refine at_call tcnames (namesS (i := 10) (by rfl) rfl (by decide) hE.keys (fun e he => Nat.le_trans (hE.kl e he) (by decide)) (by omega) (by decide)) ?_
    have n0 : decide ((C'.now.length : Int) = (C'.now.length : Int)) = true := decide_eq_true rfl
    have n1 : decide ((C'.num : Int) = (C'.num : Int)) = true := decide_eq_true rfl
    simp -implicitDefEqProofs only [go_sem, n0]
    refine at_call tCNumber (numS' (C := C') (i := 1) (D := 2) (M := 6) (W := 19) (by rfl) rfl) ?_
    simp -implicitDefEqProofs only [go_sem]
    refine in_call mixT tCNumber ?_
    unfold mCNumber
    simp -implicitDefEqProofs only [↓fnVC, initTm]
    simp -implicitDefEqProofs only [go_sem, n1]
    refine loop_fam (fun (j : Nat) => j ≤ C'.now.length) (fun j => ⟨[(0, .ptr 1 0), (2, .ptr 8 0), (7, .sl 20 0 C'.now.length 1), (8, .sl 21 0 C'.now.length 1), (55, .v (.int .i64 C'.now.length)), (56, .v (.int .i64 j))],
      ⟨[(1, some ⟨true, cellB C' 2 6 19⟩), (2, some ⟨true, devB d' 16 17 18⟩), (16, some ⟨true, secB d'.seen⟩), (17, some ⟨true, secB d'.safe⟩), (18, some ⟨true, .pl (prow d'.pend)⟩), (6, some ⟨true, .mp (.map C'.now)⟩), (19, some ⟨true, .mp (.map C'.was)⟩), (8, some ⟨false, cellB C' 9 10 11⟩), (10, some ⟨false, .mp (.map C'.now)⟩), (20, some ⟨true, .strs (srtK C'.now)⟩), (21, some ⟨true, .strs (srtK C'.now)⟩)], x⟩, 22⟩) (fun j => C'.now.length - j) 0 (Nat.zero_le _) ?_ ?_
    · refine sub_mk [] rfl rfl rfl ?_
      simp only [tmSub, hpSub, objSub, eqTm, eqHp, rn, lk, SV.ren, SV.renC, SV.renB, SV.renA, ren_ints, ren_strs, ren_pl, ren_svs, SV.v.injEq, Value.int.injEq, Body.ints.injEq, SV.ptr.injEq, SV.sl.injEq, Value.string.injEq, Value.bool.injEq, List.map_cons, List.map_nil, forall_const, Nat.reduceLT, Nat.lt_add_one, imp_self, true_and, and_true, and_self, ob_some, get_mk, lk_cons, ↓reduceIte, Nat.reduceEqDiff, ne_eq, not_true_eq_false, not_false_eq_true, Nat.one_ne_zero, Nat.zero_ne_one, Nat.succ_ne_self, Nat.reduceAdd, Bool.false_eq_true, false_implies, implies_true, reduceCtorEq, cellB, devB, secB]
      repeat' (first | rfl | apply And.intro)
    · intro j hj
      simp -implicitDefEqProofs only [go_sem]
      refine condK_bb (fun c => ?_) (fun c => ?_)
      · have c1 : j < C'.now.length := by have := of_decide_eq_true c; omega
        have w2 : IntKind.i64.wrap ((j : Int) + 1) = ((j + 1 : Nat) : Int) := by rw [wrap_i64 (by omega) (by omega)]; omega
        have hnm : (srtK C'.now).getD j .empty = nmAt C'.now j := rfl
        have hk2 := hE.keys
        have hg := hE.el (nmAt C'.now j)
        have s1 : seq (nmAt C'.now j) (nmAt C'.now j) = true := seq_self _
        have s2 : seq (tOf C'.now (nmAt C'.now j)) (tOf C'.now (nmAt C'.now j)) = true := seq_self _
        simp -implicitDefEqProofs only [go_sem, c, hnm]
        refine ⟨⟨by omega, by omega⟩, by omega, ?_⟩
        refine at_call tCGet (getS (C := C') (d := d') (i := 1) (D := 2) (a := 16) (b := 17) (c := 18) (M := 6) (W := 19) ⟨by rfl, by rfl, by rfl, by rfl, by rfl, by rfl, by rfl, by decide, by rfl, by rfl⟩ hE) ?_
        unfold getV
        simp -implicitDefEqProofs only [go_sem, hnm]
        refine ⟨⟨by omega, by omega⟩, by omega, ?_⟩
        refine in_call mixT tCGet ?_
        unfold mCGet cellB
        simp -implicitDefEqProofs only [↓fnVC, initTm]
        simp -implicitDefEqProofs only [go_sem, asM_so, hk2, hg, spl1, hnm, s1, s2, Bool.not_true, w2]
        refine ⟨⟨by omega, by omega⟩, by omega, ⟨by omega, by omega⟩, by omega, ?_⟩
        refine kLoop_mk (j + 1) (by omega) (by omega) ?_
        refine sub_mk [] rfl rfl rfl ?_
        simp only [tmSub, hpSub, objSub, eqTm, eqHp, rn, lk, SV.ren, SV.renC, SV.renB, SV.renA, ren_ints, ren_strs, ren_pl, ren_svs, SV.v.injEq, Value.int.injEq, Body.ints.injEq, SV.ptr.injEq, SV.sl.injEq, Value.string.injEq, Value.bool.injEq, List.map_cons, List.map_nil, forall_const, Nat.reduceLT, Nat.lt_add_one, imp_self, true_and, and_true, and_self, ob_some, get_mk, lk_cons, ↓reduceIte, Nat.reduceEqDiff, ne_eq, not_true_eq_false, not_false_eq_true, Nat.one_ne_zero, Nat.zero_ne_one, Nat.succ_ne_self, Nat.reduceAdd, Bool.false_eq_true, false_implies, implies_true, reduceCtorEq, cellB, devB, secB]
        repeat' (first | rfl | exact w2 | apply And.intro)
      · simp -implicitDefEqProofs only [go_sem, c]
        unfold alN
        refine sub_mk [(15, 16), (16, 17), (17, 18), (18, 6), (19, 19)] rfl rfl rfl ?_
        simp only [tmSub, hpSub, objSub, eqTm, eqHp, rn, lk, SV.ren, SV.renC, SV.renB, SV.renA, ren_ints, ren_strs, ren_pl, ren_svs, SV.v.injEq, Value.int.injEq, Body.ints.injEq, SV.ptr.injEq, SV.sl.injEq, Value.string.injEq, Value.bool.injEq, List.map_cons, List.map_nil, forall_const, Nat.reduceLT, Nat.lt_add_one, imp_self, true_and, and_true, and_self, ob_some, get_mk, lk_cons, ↓reduceIte, Nat.reduceEqDiff, ne_eq, not_true_eq_false, not_false_eq_true, Nat.one_ne_zero, Nat.zero_ne_one, Nat.succ_ne_self, Nat.reduceAdd, Bool.false_eq_true, false_implies, implies_true, reduceCtorEq, cellB, devB, secB]
        repeat' (first | rfl | apply And.intro)
  by_cases k6 : kq = 6
  · have d3 : decide (kq = 3) = false := decide_eq_false (by omega)
    have d4 : decide (kq = 4) = false := decide_eq_false (by omega)
    have d5 : decide (kq = 5) = false := decide_eq_false (by omega)
    have d6 : decide (kq = 6) = true := decide_eq_true (by omega)
    obtain ⟨e, hq⟩ : ∃ e, coR C d = (e, C', d') := by
      have : stR C d kq nm t = (coR C d).2 := by unfold stR; rw [if_neg k3, if_neg k4, if_pos (by omega)]
      rw [this] at hst
      exact ⟨(coR C d).1, by rw [← hst]⟩
    simp -implicitDefEqProofs only [go_sem, hkq, d3, d4, d5, d6]
    refine at_call tCCommit (commitS (C := C) (d := d) (i := 1) (D := 2) (a := 3) (b := 4) (c := 5) (M := 6) (W := 7) ⟨by rfl, by rfl, by rfl, by rfl, by rfl, by rfl, by rfl, by decide, by rfl, by rfl⟩ hC hP ht (by decide) hq) ?_
    simp -implicitDefEqProofs only [go_sem]
    refine at_call tCNames (cNamesS (C := C') (d := d') (i := 1) (D := 2) (a := 16) (b := 17) (c := 18) (M := 6) (W := 19) ⟨by rfl, by rfl, by rfl, by rfl, by rfl, by rfl, by rfl, by decide, by rfl, by rfl⟩ hE (by decide)) ?_
    simp -implicitDefEqProofs only [go_sem]
    refine in_call mixT tCNames ?_
    unfold mCNames
    simp -implicitDefEqProofs only [↓fnVC, initTm]
    unfold cellB
    simp -implicitDefEqProofs only [go_sem]
    refine at_call tcnames (namesS (i := 10) (by rfl) rfl (by decide) hE.keys (fun e he => Nat.le_trans (hE.kl e he) (by decide)) (by omega) (by decide)) ?_
    have n0 : decide ((C'.now.length : Int) = (C'.now.length : Int)) = true := decide_eq_true rfl
    have n1 : decide ((C'.num : Int) = (C'.num : Int)) = true := decide_eq_true rfl
    simp -implicitDefEqProofs only [go_sem, n0]
    refine at_call tCNumber (numS' (C := C') (i := 1) (D := 2) (M := 6) (W := 19) (by rfl) rfl) ?_
    simp -implicitDefEqProofs only [go_sem]
    refine in_call mixT tCNumber ?_
    unfold mCNumber
    simp -implicitDefEqProofs only [↓fnVC, initTm]
    simp -implicitDefEqProofs only [go_sem, n1]
    refine loop_fam (fun (j : Nat) => j ≤ C'.now.length) (fun j => ⟨[(0, .ptr 1 0), (2, .ptr 8 0), (7, .sl 20 0 C'.now.length 1), (8, .sl 21 0 C'.now.length 1), (55, .v (.int .i64 C'.now.length)), (56, .v (.int .i64 j))],
      ⟨[(1, some ⟨true, cellB C' 2 6 19⟩), (2, some ⟨true, devB d' 16 17 18⟩), (16, some ⟨true, secB d'.seen⟩), (17, some ⟨true, secB d'.safe⟩), (18, some ⟨true, .pl (prow d'.pend)⟩), (6, some ⟨true, .mp (.map C'.now)⟩), (19, some ⟨true, .mp (.map C'.was)⟩), (8, some ⟨false, cellB C' 9 10 11⟩), (10, some ⟨false, .mp (.map C'.now)⟩), (20, some ⟨true, .strs (srtK C'.now)⟩), (21, some ⟨true, .strs (srtK C'.now)⟩)], x⟩, 22⟩) (fun j => C'.now.length - j) 0 (Nat.zero_le _) ?_ ?_
    · refine sub_mk [] rfl rfl rfl ?_
      simp only [tmSub, hpSub, objSub, eqTm, eqHp, rn, lk, SV.ren, SV.renC, SV.renB, SV.renA, ren_ints, ren_strs, ren_pl, ren_svs, SV.v.injEq, Value.int.injEq, Body.ints.injEq, SV.ptr.injEq, SV.sl.injEq, Value.string.injEq, Value.bool.injEq, List.map_cons, List.map_nil, forall_const, Nat.reduceLT, Nat.lt_add_one, imp_self, true_and, and_true, and_self, ob_some, get_mk, lk_cons, ↓reduceIte, Nat.reduceEqDiff, ne_eq, not_true_eq_false, not_false_eq_true, Nat.one_ne_zero, Nat.zero_ne_one, Nat.succ_ne_self, Nat.reduceAdd, Bool.false_eq_true, false_implies, implies_true, reduceCtorEq, cellB, devB, secB]
      repeat' (first | rfl | apply And.intro)
    · intro j hj
      simp -implicitDefEqProofs only [go_sem]
      refine condK_bb (fun c => ?_) (fun c => ?_)
      · have c1 : j < C'.now.length := by have := of_decide_eq_true c; omega
        have w2 : IntKind.i64.wrap ((j : Int) + 1) = ((j + 1 : Nat) : Int) := by rw [wrap_i64 (by omega) (by omega)]; omega
        have hnm : (srtK C'.now).getD j .empty = nmAt C'.now j := rfl
        have hk2 := hE.keys
        have hg := hE.el (nmAt C'.now j)
        have s1 : seq (nmAt C'.now j) (nmAt C'.now j) = true := seq_self _
        have s2 : seq (tOf C'.now (nmAt C'.now j)) (tOf C'.now (nmAt C'.now j)) = true := seq_self _
        simp -implicitDefEqProofs only [go_sem, c, hnm]
        refine ⟨⟨by omega, by omega⟩, by omega, ?_⟩
        refine at_call tCGet (getS (C := C') (d := d') (i := 1) (D := 2) (a := 16) (b := 17) (c := 18) (M := 6) (W := 19) ⟨by rfl, by rfl, by rfl, by rfl, by rfl, by rfl, by rfl, by decide, by rfl, by rfl⟩ hE) ?_
        unfold getV
        simp -implicitDefEqProofs only [go_sem, hnm]
        refine ⟨⟨by omega, by omega⟩, by omega, ?_⟩
        refine in_call mixT tCGet ?_
        unfold mCGet cellB
        simp -implicitDefEqProofs only [↓fnVC, initTm]
        simp -implicitDefEqProofs only [go_sem, asM_so, hk2, hg, spl1, hnm, s1, s2, Bool.not_true, w2]
        refine ⟨⟨by omega, by omega⟩, by omega, ⟨by omega, by omega⟩, by omega, ?_⟩
        refine kLoop_mk (j + 1) (by omega) (by omega) ?_
        refine sub_mk [] rfl rfl rfl ?_
        simp only [tmSub, hpSub, objSub, eqTm, eqHp, rn, lk, SV.ren, SV.renC, SV.renB, SV.renA, ren_ints, ren_strs, ren_pl, ren_svs, SV.v.injEq, Value.int.injEq, Body.ints.injEq, SV.ptr.injEq, SV.sl.injEq, Value.string.injEq, Value.bool.injEq, List.map_cons, List.map_nil, forall_const, Nat.reduceLT, Nat.lt_add_one, imp_self, true_and, and_true, and_self, ob_some, get_mk, lk_cons, ↓reduceIte, Nat.reduceEqDiff, ne_eq, not_true_eq_false, not_false_eq_true, Nat.one_ne_zero, Nat.zero_ne_one, Nat.succ_ne_self, Nat.reduceAdd, Bool.false_eq_true, false_implies, implies_true, reduceCtorEq, cellB, devB, secB]
        repeat' (first | rfl | exact w2 | apply And.intro)
      · simp -implicitDefEqProofs only [go_sem, c]
        unfold alN
        refine sub_mk [(15, 16), (16, 17), (17, 18), (18, 6), (19, 19)] rfl rfl rfl ?_
        simp only [tmSub, hpSub, objSub, eqTm, eqHp, rn, lk, SV.ren, SV.renC, SV.renB, SV.renA, ren_ints, ren_strs, ren_pl, ren_svs, SV.v.injEq, Value.int.injEq, Body.ints.injEq, SV.ptr.injEq, SV.sl.injEq, Value.string.injEq, Value.bool.injEq, List.map_cons, List.map_nil, forall_const, Nat.reduceLT, Nat.lt_add_one, imp_self, true_and, and_true, and_self, ob_some, get_mk, lk_cons, ↓reduceIte, Nat.reduceEqDiff, ne_eq, not_true_eq_false, not_false_eq_true, Nat.one_ne_zero, Nat.zero_ne_one, Nat.succ_ne_self, Nat.reduceAdd, Bool.false_eq_true, false_implies, implies_true, reduceCtorEq, cellB, devB, secB]
        repeat' (first | rfl | apply And.intro)
  · have d3 : decide (kq = 3) = false := decide_eq_false (by omega)
    have d4 : decide (kq = 4) = false := decide_eq_false (by omega)
    have d5 : decide (kq = 5) = false := decide_eq_false (by omega)
    have d6 : decide (kq = 6) = false := decide_eq_false (by omega)
    obtain ⟨hC', hd'⟩ : C' = { C with now := putEs C.now nm t } ∧ d' = d := by
      have : stR C d kq nm t = ({ C with now := putEs C.now nm t }, d) := by unfold stR; rw [if_neg k3, if_neg k4, if_neg (by omega)]
      rw [this] at hst; cases hst; exact ⟨rfl, rfl⟩
    simp -implicitDefEqProofs only [go_sem, hkq, d3, d4, d5, d6]
    refine at_call tCPut (putS' (C := C) (d := d) (i := 1) (D := 2) (a := 3) (b := 4) (c := 5) (M := 6) (W := 7) ⟨by rfl, by rfl, by rfl, by rfl, by rfl, by rfl, by rfl, by decide, by rfl, by rfl⟩ hEC rfl rfl) ?_
    have hn' : putEs C.now nm t = C'.now := by rw [hC']
    have hw' : C.was = C'.was := by rw [hC']
    have hc' : ∀ a b c, cellB C a b c = cellB C' a b c := fun a b c => by rw [hC']; rfl
    rw [hn', hw', hc', ← hd']
    simp -implicitDefEqProofs only [go_sem]
    refine at_call tCNames (cNamesS (C := C') (d := d') (i := 1) (D := 2) (a := 3) (b := 4) (c := 5) (M := 6) (W := 7) ⟨by rfl, by rfl, by rfl, by rfl, by rfl, by rfl, by rfl, by decide, by rfl, by rfl⟩ hE (by decide)) ?_
    simp -implicitDefEqProofs only [go_sem]
    refine in_call mixT tCNames ?_
    unfold mCNames
    simp -implicitDefEqProofs only [↓fnVC, initTm]
    unfold cellB
    simp -implicitDefEqProofs only [go_sem]
    refine at_call tcnames (namesS (i := 10) (by rfl) rfl (by decide) hE.keys (fun e he => Nat.le_trans (hE.kl e he) (by decide)) (by omega) (by decide)) ?_
    have n0 : decide ((C'.now.length : Int) = (C'.now.length : Int)) = true := decide_eq_true rfl
    have n1 : decide ((C'.num : Int) = (C'.num : Int)) = true := decide_eq_true rfl
    simp -implicitDefEqProofs only [go_sem, n0]
    refine at_call tCNumber (numS' (C := C') (i := 1) (D := 2) (M := 6) (W := 7) (by rfl) rfl) ?_
    simp -implicitDefEqProofs only [go_sem]
    refine in_call mixT tCNumber ?_
    unfold mCNumber
    simp -implicitDefEqProofs only [↓fnVC, initTm]
    simp -implicitDefEqProofs only [go_sem, n1]
    refine loop_fam (fun (j : Nat) => j ≤ C'.now.length) (fun j => ⟨[(0, .ptr 1 0), (2, .ptr 8 0), (7, .sl 16 0 C'.now.length 1), (8, .sl 17 0 C'.now.length 1), (55, .v (.int .i64 C'.now.length)), (56, .v (.int .i64 j))],
      ⟨[(1, some ⟨true, cellB C' 2 6 7⟩), (2, some ⟨true, devB d' 3 4 5⟩), (3, some ⟨true, secB d'.seen⟩), (4, some ⟨true, secB d'.safe⟩), (5, some ⟨true, .pl (prow d'.pend)⟩), (6, some ⟨true, .mp (.map C'.now)⟩), (7, some ⟨true, .mp (.map C'.was)⟩), (8, some ⟨false, cellB C' 9 10 11⟩), (10, some ⟨false, .mp (.map C'.now)⟩), (16, some ⟨true, .strs (srtK C'.now)⟩), (17, some ⟨true, .strs (srtK C'.now)⟩)], x⟩, 18⟩) (fun j => C'.now.length - j) 0 (Nat.zero_le _) ?_ ?_
    · refine sub_mk [] rfl rfl rfl ?_
      simp only [tmSub, hpSub, objSub, eqTm, eqHp, rn, lk, SV.ren, SV.renC, SV.renB, SV.renA, ren_ints, ren_strs, ren_pl, ren_svs, SV.v.injEq, Value.int.injEq, Body.ints.injEq, SV.ptr.injEq, SV.sl.injEq, Value.string.injEq, Value.bool.injEq, List.map_cons, List.map_nil, forall_const, Nat.reduceLT, Nat.lt_add_one, imp_self, true_and, and_true, and_self, ob_some, get_mk, lk_cons, ↓reduceIte, Nat.reduceEqDiff, ne_eq, not_true_eq_false, not_false_eq_true, Nat.one_ne_zero, Nat.zero_ne_one, Nat.succ_ne_self, Nat.reduceAdd, Bool.false_eq_true, false_implies, implies_true, reduceCtorEq, cellB, devB, secB]
      repeat' (first | rfl | apply And.intro)
    · intro j hj
      simp -implicitDefEqProofs only [go_sem]
      refine condK_bb (fun c => ?_) (fun c => ?_)
      · have c1 : j < C'.now.length := by have := of_decide_eq_true c; omega
        have w2 : IntKind.i64.wrap ((j : Int) + 1) = ((j + 1 : Nat) : Int) := by rw [wrap_i64 (by omega) (by omega)]; omega
        have hnm : (srtK C'.now).getD j .empty = nmAt C'.now j := rfl
        have hk2 := hE.keys
        have hg := hE.el (nmAt C'.now j)
        have s1 : seq (nmAt C'.now j) (nmAt C'.now j) = true := seq_self _
        have s2 : seq (tOf C'.now (nmAt C'.now j)) (tOf C'.now (nmAt C'.now j)) = true := seq_self _
        simp -implicitDefEqProofs only [go_sem, c, hnm]
        refine ⟨⟨by omega, by omega⟩, by omega, ?_⟩
        refine at_call tCGet (getS (C := C') (d := d') (i := 1) (D := 2) (a := 3) (b := 4) (c := 5) (M := 6) (W := 7) ⟨by rfl, by rfl, by rfl, by rfl, by rfl, by rfl, by rfl, by decide, by rfl, by rfl⟩ hE) ?_
        unfold getV
        simp -implicitDefEqProofs only [go_sem, hnm]
        refine ⟨⟨by omega, by omega⟩, by omega, ?_⟩
        refine in_call mixT tCGet ?_
        unfold mCGet cellB
        simp -implicitDefEqProofs only [↓fnVC, initTm]
        simp -implicitDefEqProofs only [go_sem, asM_so, hk2, hg, spl1, hnm, s1, s2, Bool.not_true, w2]
        refine ⟨⟨by omega, by omega⟩, by omega, ⟨by omega, by omega⟩, by omega, ?_⟩
        refine kLoop_mk (j + 1) (by omega) (by omega) ?_
        refine sub_mk [] rfl rfl rfl ?_
        simp only [tmSub, hpSub, objSub, eqTm, eqHp, rn, lk, SV.ren, SV.renC, SV.renB, SV.renA, ren_ints, ren_strs, ren_pl, ren_svs, SV.v.injEq, Value.int.injEq, Body.ints.injEq, SV.ptr.injEq, SV.sl.injEq, Value.string.injEq, Value.bool.injEq, List.map_cons, List.map_nil, forall_const, Nat.reduceLT, Nat.lt_add_one, imp_self, true_and, and_true, and_self, ob_some, get_mk, lk_cons, ↓reduceIte, Nat.reduceEqDiff, ne_eq, not_true_eq_false, not_false_eq_true, Nat.one_ne_zero, Nat.zero_ne_one, Nat.succ_ne_self, Nat.reduceAdd, Bool.false_eq_true, false_implies, implies_true, reduceCtorEq, cellB, devB, secB]
        repeat' (first | rfl | exact w2 | apply And.intro)
      · simp -implicitDefEqProofs only [go_sem, c]
        unfold alN
        refine sub_mk [(15, 3), (16, 4), (17, 5), (18, 6), (19, 7)] rfl rfl rfl ?_
        simp only [tmSub, hpSub, objSub, eqTm, eqHp, rn, lk, SV.ren, SV.renC, SV.renB, SV.renA, ren_ints, ren_strs, ren_pl, ren_svs, SV.v.injEq, Value.int.injEq, Body.ints.injEq, SV.ptr.injEq, SV.sl.injEq, Value.string.injEq, Value.bool.injEq, List.map_cons, List.map_nil, forall_const, Nat.reduceLT, Nat.lt_add_one, imp_self, true_and, and_true, and_self, ob_some, get_mk, lk_cons, ↓reduceIte, Nat.reduceEqDiff, ne_eq, not_true_eq_false, not_false_eq_true, Nat.one_ne_zero, Nat.zero_ne_one, Nat.succ_ne_self, Nat.reduceAdd, Bool.false_eq_true, false_implies, implies_true, reduceCtorEq, cellB, devB, secB]
        repeat' (first | rfl | apply And.intro)
def alP (i D a b c M W q E e1 e2 e3 M2 W2 : Nat) : List (Nat × Nat) := [(1, i), (2, D), (3, a), (4, b), (5, c), (6, M), (7, W), (8, q), (9, E), (10, M2), (11, W2), (12, e1), (13, e2), (14, e3)]
def alM (C : Ce) (d : Fd) (n i D a b c M W : Nat) (l : List (Nat × Option SO)) : List (Nat × Option SO) := (i, some ⟨true, cellB C D (n + 3) (n + 4)⟩) :: (D, some ⟨true, devB d n (n + 1) (n + 2)⟩) :: (a, none) :: (b, none) :: (c, none) :: (M, none) :: (W, none) :: (n, some ⟨true, secB d.seen⟩) :: (n + 1, some ⟨true, secB d.safe⟩) :: (n + 2, some ⟨true, .pl (prow d.pend)⟩) :: (n + 3, some ⟨true, .mp (.map C.now)⟩) :: (n + 4, some ⟨true, .mp (.map C.was)⟩) :: l
theorem alikeS {k m : Int} {nm t : ByteArray} {r z mm tt : Nat} {kq : Int} {i D a b c M W q E e1 e2 e3 M2 W2 : Nat} (h1 : CellAt H C d i D a b c M W) (h2 : CellAt H C' d2 q E e1 e2 e3 M2 W2) (hap : apartB (alP i D a b c M W q E e1 e2 e3 M2 W2) (alL C C' d d2) (alL C C' d d2) = true) (hnz : wrNZ (alP i D a b c M W q E e1 e2 e3 M2 W2) (alL C C' d d2) = true) (hr : 1000 ≤ r) (hn : n + 5 ≤ 1000)
    (hkq : k.tmod 10 = kq) (hk : 0 ≤ kq ∧ kq < 7) (hC : C.ok) (hP : Pl d mm tt) (ht : tt + 1000 < 1000000) (hst : stR C d kq nm t = (C', d')) (hE : Es C'.now) :
    SpecAt Tryz.prog nalike [.ptr i 0, opA k nm t m r z, .ptr q 0] H n (.v (.bool true)) ⟨alM C' d' n i D a b c M W H.l, H.x⟩ (n + 5) := by
  obtain ⟨g1, g2, g3, g4, g5, g6, g7, hp, _, _⟩ := h1
  simp at hp
  obtain ⟨f1, f2, f3, f4, f5, f6, f7, hq, _, _⟩ := h2
  simp at hq
  have hlt : ([.ptr 1 0, opA k nm t m r z, .ptr 8 0] : List SV).all (ltT 15) = true := by simp [opA, ltT, ltC, ltB, ltA, idOK, hr]
  have := lift (n := n) (okT.spec talike (alikeW (x := H.x) (d2 := d2) (m := m) (r := r) (q := z) hkq hk hC hP ht hst hE)) (alP i D a b c M W q E e1 e2 e3 M2 W2) rfl rfl hlt (by omega) rfl rfl
    ⟨sub_wr rfl hp.1.1 hp.1.2 g1 rfl, sub_wr rfl hp.2.1.1 hp.2.1.2 g2 rfl, sub_wr rfl hp.2.2.1.1 hp.2.2.1.2 g3 rfl, sub_wr rfl hp.2.2.2.1.1 hp.2.2.2.1.2 g4 rfl, sub_wr rfl hp.2.2.2.2.1.1 hp.2.2.2.2.1.2 g5 rfl, sub_wr rfl hp.2.2.2.2.2.1.1 hp.2.2.2.2.2.1.2 g6 rfl, sub_wr rfl hp.2.2.2.2.2.2.1 hp.2.2.2.2.2.2.2 g7 rfl,
      sub_ro rfl hq.1.1 f1 rfl, sub_ro rfl hq.2.1.1 f2 rfl, sub_ro rfl hq.2.2.2.2.2.1.1 f6 rfl, sub_ro rfl hq.2.2.2.2.2.2.1 f7 rfl, sub_ro rfl hq.2.2.1.1 f3 rfl, sub_ro rfl hq.2.2.2.1.1 f4 rfl, sub_ro rfl hq.2.2.2.2.1.1 f5 rfl, trivial⟩ hap hnz (fun _ => hn)
  rw [List.map_cons, List.map_cons, opA_ren hr rfl] at this
  exact this
end
end Go.Sx
/- Cells: one call of both, whatever it is. -/
set_option linter.unusedVariables false
set_option linter.unusedSimpArgs false
set_option maxRecDepth 100000
namespace Go.Sx
open Go.Proofs
variable {H : Hp} {n : Nat} {x : Nat → Option SO} {d d' d2 : Fd} {C C' : Ce} {i D a b c q M W E f g p R S : Nat}
def ceR (C : Ce) (kq : Int) (nm t : ByteArray) : Ce :=
  if kq = 3 then { C with now := dlS C.now nm } else if kq = 4 then { C with now := C.was } else if kq = 5 ∨ kq = 6 then (if 64 * (C.half - 1) < (encB C.now).size then C else { C with last := 1 - C.last, num := C.num + 1, was := C.now }) else { C with now := putEs C.now nm t }
theorem Wo.st {B h m t : Nat} {nm tx : ByteArray} (w : Wo B h m t C d) (hl : B + 2 * h ≤ m) (hh : 2 ≤ h ∧ h ≤ 129) (ht : t ≤ 254) (kq : Int) :
    ∃ d', stR C d kq nm tx = (ceR C kq nm tx, d') ∧ Wo B h m (t + 1) (ceR C kq nm tx) d' ∧ ∀ k, k < B ∨ B + 2 * h ≤ k → d'.seen.getD k [] = d.seen.getD k [] := by
  unfold stR ceR
  by_cases k3 : kq = 3
  · rw [if_pos k3, if_pos k3]
    exact ⟨d, rfl, w.set (w.now.drop _), fun _ _ => rfl⟩
  rw [if_neg k3, if_neg k3]
  by_cases k4 : kq = 4
  · rw [if_pos k4, if_pos k4]
    exact ⟨d, rfl, w.set w.was, fun _ _ => rfl⟩
  rw [if_neg k4, if_neg k4]
  by_cases k5 : kq = 5 ∨ kq = 6
  · rw [if_pos k5, if_pos k5]
    rcases w.commit hl hh ht with hq | ⟨C', d', hq, rfl, w', hk⟩
    · have hc : 64 * (C.half - 1) < (encB C.now).size := by
        refine Classical.byContradiction fun hc => ?_
        obtain ⟨d1, h1, _⟩ := coR_good w.dead (by rw [w.half]; exact hh.1) (by omega) w.good (by rw [w.base, w.half]; exact hl) w.last
        rw [hq] at h1
        cases h1
      rw [if_pos hc, hq]
      exact ⟨d, rfl, w.skip, fun _ _ => rfl⟩
    · have hc : ¬ 64 * (C.half - 1) < (encB C.now).size := by
        intro hc
        have : coR C d = (4, C, d) := by unfold coR; rw [if_neg (by rw [w.dead]; decide), if_pos hc]
        rw [hq] at this
        have h04 : (0 : Int) = 4 := congrArg Prod.fst this
        exact absurd h04 (by decide)
      rw [if_neg hc, hq]
      refine ⟨d', rfl, w', fun k h => hk k ?_⟩
      have := w.last
      unfold ceTo
      rw [w.base, w.half]
      have hc : C.last = 0 ∨ C.last = 1 := by omega
      rcases hc with e | e <;> rw [e] <;> omega
  · rw [if_neg k5, if_neg k5]
    exact ⟨d, rfl, w.set (w.now.put _ _), fun _ _ => rfl⟩
theorem Wo.other {B h m t B2 h2 : Nat} {C2 : Ce} (w : Wo B h m t C d) (w2 : Wo B2 h2 m (t + 1) C2 d') (hh : 1 ≤ h) (he : ∀ k, k < B2 ∨ B2 + 2 * h2 ≤ k → d'.seen.getD k [] = d.seen.getD k []) (hd : B2 + 2 * h2 ≤ B ∨ B + 2 * h ≤ B2) : Wo B h m (t + 1) C d' :=
  ⟨w.base, w.half, w.dead, w.now, w.was, by have := w.num; omega, w.reg.congr hh fun k k1 k2 => he k (by omega), w2.good, w2.pl⟩
theorem woSK : Sub 15 ⟨[(0, .v (.bool true))], ⟨woN C d 13 14 [(22, none)], x⟩, 23⟩ ⟨[(0, .v (.bool true))], ⟨woN C d 13 14 [], x⟩, 22⟩ := by
  refine sub_mk [] rfl rfl rfl ?_
  simp only [tmSub, hpSub, objSub, eqTm, eqHp, rn, lk, SV.ren, SV.renC, SV.renB, SV.renA, ren_ints, ren_strs, ren_pl, ren_svs, SV.v.injEq, Value.int.injEq, Body.ints.injEq, SV.ptr.injEq, SV.sl.injEq, Value.string.injEq, Value.bool.injEq, List.map_cons, List.map_nil, forall_const, Nat.reduceLT, Nat.lt_add_one, imp_self, true_and, and_true, and_self, ob_some, get_mk, lk_cons, ↓reduceIte, Nat.reduceEqDiff, ne_eq, not_true_eq_false, not_false_eq_true, Nat.one_ne_zero, Nat.zero_ne_one, Nat.succ_ne_self, Nat.reduceAdd, Bool.false_eq_true, false_implies, implies_true, reduceCtorEq, woN, devB, cellB, refB, rcellB, rcL, secB, strB, rowP]
  repeat' (first | rfl | apply And.intro)
theorem woSU : Sub 15 ⟨[(0, .v (.bool true))], ⟨woN C d 14 14 [(22, none)], x⟩, 23⟩ ⟨[(0, .v (.bool true))], ⟨woN C d 14 14 [], x⟩, 22⟩ := by
  refine sub_mk [] rfl rfl rfl ?_
  simp only [tmSub, hpSub, objSub, eqTm, eqHp, rn, lk, SV.ren, SV.renC, SV.renB, SV.renA, ren_ints, ren_strs, ren_pl, ren_svs, SV.v.injEq, Value.int.injEq, Body.ints.injEq, SV.ptr.injEq, SV.sl.injEq, Value.string.injEq, Value.bool.injEq, List.map_cons, List.map_nil, forall_const, Nat.reduceLT, Nat.lt_add_one, imp_self, true_and, and_true, and_self, ob_some, get_mk, lk_cons, ↓reduceIte, Nat.reduceEqDiff, ne_eq, not_true_eq_false, not_false_eq_true, Nat.one_ne_zero, Nat.zero_ne_one, Nat.succ_ne_self, Nat.reduceAdd, Bool.false_eq_true, false_implies, implies_true, reduceCtorEq, woN, devB, cellB, refB, rcellB, rcL, secB, strB, rowP]
  repeat' (first | rfl | apply And.intro)
theorem woSC : Sub 15 ⟨[(0, .v (.bool true))], ⟨woN C d 13 13 [(22, none)], x⟩, 23⟩ ⟨[(0, .v (.bool true))], ⟨woN C d 13 13 [], x⟩, 22⟩ := by
  refine sub_mk [] rfl rfl rfl ?_
  simp only [tmSub, hpSub, objSub, eqTm, eqHp, rn, lk, SV.ren, SV.renC, SV.renB, SV.renA, ren_ints, ren_strs, ren_pl, ren_svs, SV.v.injEq, Value.int.injEq, Body.ints.injEq, SV.ptr.injEq, SV.sl.injEq, Value.string.injEq, Value.bool.injEq, List.map_cons, List.map_nil, forall_const, Nat.reduceLT, Nat.lt_add_one, imp_self, true_and, and_true, and_self, ob_some, get_mk, lk_cons, ↓reduceIte, Nat.reduceEqDiff, ne_eq, not_true_eq_false, not_false_eq_true, Nat.one_ne_zero, Nat.zero_ne_one, Nat.succ_ne_self, Nat.reduceAdd, Bool.false_eq_true, false_implies, implies_true, reduceCtorEq, woN, devB, cellB, refB, rcellB, rcL, secB, strB, rowP]
  repeat' (first | rfl | apply And.intro)
def RSx (n R S : Nat) (C C' : Ce) (R' S' : Nat) (q : Option SO) : Prop :=
  (R' = n + 7 ∧ S' = S ∧ q = some ⟨true, rowP C'.now⟩ ∧ True ∧ C'.was = C.was) ∨ (R' = R ∧ S' = S ∧ q = none ∧ C'.now = C.now ∧ C'.was = C.was) ∨
    (R' = S ∧ S' = S ∧ q = none ∧ C'.now = C.was ∧ C'.was = C.was) ∨ (R' = R ∧ S' = R ∧ q = none ∧ C'.now = C.now ∧ C'.was = C.now)
theorem stepG {k m B h : Int} {nm t : ByteArray} {r z mm tt Bs hf : Nat} {kq : Int} (hr : 1000 ≤ r) (hn : n + 8 ≤ 1000) (hkq : k.tmod 10 = kq) (hk : 0 ≤ kq ∧ kq < 7)
    (w : Wo Bs hf mm tt C d) (hl : Bs + 2 * hf ≤ mm) (hh : 2 ≤ hf ∧ hf ≤ 129) (hB : Bs ≤ 4096) (ht : tt ≤ 254) (hst : stR C d kq nm t = (C', d')) :
    ∃ R' S' o, RSx n R S C C' R' S' o ∧ ∀ H : Hp, WoAt H C d i D a b c q M W E f g p R S → SpecAt Tryz.prog nwstep [.ptr i 0, opA k nm t m r z, .v (.int .i64 B), .v (.int .i64 h)] H n (.v (.bool true)) ⟨woM C' d' n i D a b c q M W E f g p R' S' ((n + 7, o) :: H.l), H.x⟩ (n + 8) := by
  have hok := w.ok hh hB ht
  have hto := w.to hl
  unfold stR at hst
  by_cases k3 : kq = 3
  · rw [if_pos k3] at hst
    cases hst
    exact ⟨_, _, _, .inl ⟨rfl, rfl, rfl, trivial, rfl⟩, fun H hw => stepL hw hr (okT.spec twstep (stepNW (x := H.x) hkq w.now (.inr ⟨k3, rfl⟩))) rfl hn⟩
  rw [if_neg k3] at hst
  by_cases k4 : kq = 4
  · rw [if_pos k4] at hst
    cases hst
    exact ⟨_, _, _, .inr (.inr (.inl ⟨rfl, rfl, rfl, rfl, rfl⟩)), fun H hw => stepL hw hr ((okT.spec twstep (stepUW (x := H.x) (by rw [hkq, k4]))).sub woSU) rfl hn⟩
  rw [if_neg k4] at hst
  by_cases k5 : kq = 5 ∨ kq = 6
  · rw [if_pos k5] at hst
    rcases w.commit hl hh ht with hq | ⟨C1, d1, hq, hC1, _, _⟩
    · rw [hq] at hst
      cases hst
      exact ⟨_, _, _, .inr (.inl ⟨rfl, rfl, rfl, rfl, rfl⟩), fun H hw => stepL hw hr ((okT.spec twstep (stepKW (x := H.x) hkq w.pl (by omega) hto hok (.inr ⟨by omega, by omega, hq⟩))).sub woSK) rfl hn⟩
    · rw [hq] at hst
      cases hst
      exact ⟨_, _, _, .inr (.inr (.inr ⟨rfl, rfl, rfl, by rw [hC1], by rw [hC1]⟩)), fun H hw => stepL hw hr ((okT.spec twstep (stepCW (x := H.x) hkq w.pl (by omega) hto hok ⟨by omega, by omega⟩ hq)).sub woSC) rfl hn⟩
  rw [if_neg k5] at hst
  cases hst
  by_cases hp : putE C.now nm t = 0
  · exact ⟨_, _, _, .inl ⟨rfl, rfl, rfl, trivial, rfl⟩, fun H hw => stepL hw hr (okT.spec twstep (stepNW (x := H.x) hkq w.now (.inl ⟨hk.1, by omega, hp, rfl⟩))) rfl hn⟩
  · have hs : putEs C.now nm t = C.now := if_neg hp
    rw [hs]
    exact ⟨_, _, _, .inr (.inl ⟨rfl, rfl, rfl, rfl, rfl⟩), fun H hw => stepL hw hr ((okT.spec twstep (stepKW (x := H.x) hkq w.pl (by omega) hto hok (.inl ⟨hk.1, by omega, hp⟩))).sub woSK) rfl hn⟩
end Go.Sx

/- Cells: CellApart. -/
set_option linter.unusedVariables false
set_option linter.unusedSimpArgs false
set_option maxRecDepth 100000
namespace Go.Sx
attribute [local go_sem ↓] bind_mk intsB_mk strsB_mk svB_mk fnVC ob_some vc_skip vc_exit vc_ret vc_seq vc_block kSeq_normal kSeq_exit kSeq_ret kBlock_normal kBlock_exit kBlock_ret vc_reg vc_regD vc_cond condK_true condK_false vc_loop kLoop_exit kLoop_ret kRoll_normal kRoll_exit kRoll_ret vcOps_nil vcOps_cons gd_bool gd_undef put_some put_none vcT_fin vcT_pure vcT_act vcT_acts vcT_stop stab_none stab_some stabM_nil stabM_cons stabO_ld stabO_ldn stabO_slP stabO_b2s fldOf_ai fldOf_agg fldOf_ait fldOf_aggt intsOf_nil intsOf_cons strsOf_nil strsOf_cons c_omap ob_if lk_nil lk_cons ev_t ev_k z_mov z_pick z_bin z_binB z_binP z_un z_r2s z_conv z_s2b z_b2s z_mkM z_luM z_upM z_lenM lenMk_mp lenMk_nil plsOf_v z_delM asM_so plV_v plV_agg mpOf_mp mpOf_nil mpUp_mp asM_mp luV_ok luV_v z_allocT aggOf_mk z_boxT z_alloc z_bld z_bldI z_rowI z_rowS z_ld z_ldn z_st z_stn asN_ptr asN_fn z_nilck z_fld z_fadr z_idxA z_idxP z_idxS z_idxV z_slS z_slL z_slP z_mk z_lenS z_lenL z_app appC_ints appC_pl appC_sv appC_strs isS_strs loose_ints loose_pl loose_sv z_slM z_callv callvK_fn callvK_f callvK_yl vc_rangeF rfEnd_eq rfGo_none rfGo_ret rfGo_exit yGo_mk yEnd_n yEnd_r yEnd_e yRdy_mk yMid_n putPs_nil putPs_cons leaf_v leaf_ptr leaf_sl leaf_yl leaf_mp z_appS z_appST z_appZ z_cpyS z_mkfn reps_int reps_str z_rowV z_slnil nilK_zero z_cpy z_call asT_tup z_extT z_box boxOf_ai boxOf_agg boxOf_int boxOf_str boxOf_bool boxOf_ptr boxOf_sl sbin_int sbin_str sbinB_mk sbinP_nn sbinP_pn sbinP_np i_add i_sub i_mul i_quo i_rem i_and i_or i_xor i_andNot i_shl i_shr i_eql i_neq i_lss i_leq i_gtr i_geq st_add st_eql st_neq st_lss st_leq st_gtr st_geq bo_eql bo_neq pt_eql pt_neq un_neg un_xor un_not asI_mk asB_mk asS_mk asP_mk asSl_mk asBy_mk bnd_none bnd_some get_mk hput_mk hdel_mk kill_eq wrOf_eq rowOf_eq rsvs_0 rsvs_1 rsvs_2 rsvs_3 rsv_t rsv_c1 rsv_cn nt_v nt_ptr nt_sl nt_agg nt_ai get_ints get_strs get_pl get_sv getN_ints getN_sv set_ints set_strs set_sv setN_ints setN_sv part_ints part_strs part_sv cat_ints cat_strs cat_sv over_ints over_strs over_sv ones_ints ones_strs evs_nil evs_cons condK_eqt condK_eqf det_callP V_ns V_nn V_gs V_gn obC_mk fresh_ev freshT_ev freshR_ev setN_plagg setN_intsv setN_svai setN_svagg over_intsv set_pl setN_pl setN_plai getN_pl getN_strs part_pl cat_pl over_pl over_plints z_mm
attribute [local go_sem] initTm ne_eq not_true_eq_false not_false_eq_true true_and and_true List.length_cons List.length_nil Int.toNat_natCast Nat.add_zero Nat.zero_add Nat.mul_one List.getElem?_cons_zero List.drop_zero List.take_length List.take_succ_cons List.take_zero List.take_nil List.drop_succ_cons Option.map_some Nat.le_refl implies_true List.getElem?_cons_succ decide_true decide_false Bool.not_true Bool.not_false beq_self_eq_true Nat.succ_ne_self Nat.one_ne_zero Nat.zero_ne_one vk_mk hk_mk nk_mk tok_eq plsOf_map intsOf_map bodyOf_pl bodyOf_ints bodyOf_strs bodyOf_sv part_aggv part_agg part_ai part_int part_str part_bool part_sl part_ptr part_nil numsOf_map u_int u_str u_bool u_pnil u_sl u_ptr u_oci u_ocs evq_nil evq_cons fillS_nil fillS_cons u_ocb ones_pl cells_sv cells_ints cells_strs cells_pl smms_nil smms_cons smm_min smm_max plsOf_nil List.nil_append List.all_cons List.all_nil Bool.and_self Bool.true_and Bool.and_true zws_len zw_len zi_len List.set_cons_zero List.set_cons_succ List.flatMap_cons List.flatMap_nil List.append_nil
attribute [local go_sem_proc] Nat.reduceEqDiff Nat.reduceAdd Nat.reduceMul Nat.reduceLT Nat.reduceLeDiff Nat.reduceSub Int.reduceToNat Int.reduceLE Int.reduceLT reduceCtorEq Int.reduceEq Int.reduceGT Int.reduceGE Int.reduceNeg
attribute [local go_sem_proc ↓] reduceIte
section
open Go.Proofs
variable {H : Hp} {n : Nat} {x : Nat → Option SO} {d d' d2 : Fd} {C C' : Ce}
structure Apx where
  j : Nat
  C1 : Ce
  C2 : Ce
  d1 : Fd
  d2 : Fd
  d : Fd
structure ApOK (p : Apx) : Prop where
  j : p.j ≤ 30
  w1 : Wo 0 5 30 p.j p.C1 p.d1
  w2 : Wo 10 10 30 p.j p.C2 p.d2
  u1 : Wo 0 5 30 (p.j + p.j) p.C1 p.d
  u2 : Wo 10 10 30 (p.j + p.j) p.C2 p.d
def apI (m1 m2 : Nat) (x : Nat → Option SO) (p : Apx) : St :=
  ⟨[(0, .sl 1003 0 m1 5), (1, .sl 1007 0 m2 5), (5, .ptr 1 0), (6, .ptr 7 0), (8, .ptr 10 0), (10, .ptr 13 0), (11, .ptr 27 0), (58, .v (.int .i64 p.j))],
   ⟨[(1, some ⟨true, .sv [.ptr 2 0, .v (.pointer none), .ptr 3 0, .v (.pointer none)]⟩), (2, some ⟨true, devB p.d 4 5 6⟩), (4, some ⟨true, secB p.d.seen⟩), (5, some ⟨true, secB p.d.safe⟩), (6, some ⟨true, .pl (prow p.d.pend)⟩), (7, some ⟨true, cellB p.C1 2 8 9⟩), (8, some ⟨true, .mp (.map p.C1.now)⟩), (9, some ⟨true, .mp (.map p.C1.was)⟩), (10, some ⟨true, cellB p.C2 2 11 12⟩), (11, some ⟨true, .mp (.map p.C2.now)⟩), (12, some ⟨true, .mp (.map p.C2.was)⟩),
     (13, some ⟨true, .sv [.ptr 14 0, .ptr 18 0, .ptr 21 0, .ptr 24 0]⟩), (14, some ⟨true, devB p.d1 15 16 17⟩), (15, some ⟨true, secB p.d1.seen⟩), (16, some ⟨true, secB p.d1.safe⟩), (17, some ⟨true, .pl (prow p.d1.pend)⟩), (18, some ⟨true, cellB p.C1 14 19 20⟩), (19, some ⟨true, .mp (.map p.C1.now)⟩), (20, some ⟨true, .mp (.map p.C1.was)⟩), (21, some ⟨true, refB p.d1 22 23⟩), (22, some ⟨true, strB p.d1.safe⟩), (23, some ⟨true, .pl (qrow p.d1.pend)⟩), (24, some ⟨true, rcellB p.C1 21 25 26⟩), (25, some ⟨false, rowP p.C1.now⟩), (26, some ⟨false, rowP p.C1.was⟩),
     (27, some ⟨true, .sv [.ptr 28 0, .ptr 32 0, .ptr 35 0, .ptr 38 0]⟩), (28, some ⟨true, devB p.d2 29 30 31⟩), (29, some ⟨true, secB p.d2.seen⟩), (30, some ⟨true, secB p.d2.safe⟩), (31, some ⟨true, .pl (prow p.d2.pend)⟩), (32, some ⟨true, cellB p.C2 28 33 34⟩), (33, some ⟨true, .mp (.map p.C2.now)⟩), (34, some ⟨true, .mp (.map p.C2.was)⟩), (35, some ⟨true, refB p.d2 36 37⟩), (36, some ⟨true, strB p.d2.safe⟩), (37, some ⟨true, .pl (qrow p.d2.pend)⟩), (38, some ⟨true, rcellB p.C2 35 39 40⟩), (39, some ⟨false, rowP p.C2.now⟩), (40, some ⟨false, rowP p.C2.was⟩)], x⟩, 41⟩
set_option maxHeartbeats 40000000 in
theorem wApart {ops1 ops2 : List OpV} {m1 m2 : Nat} (h1 : m1 ≤ ops1.length) (h2 : m2 ≤ ops2.length) (hrng1 : ∀ j, j < ops1.length → (ops1.getD j ⟨0, .empty, .empty, 0, [], 0⟩).rng) (hrng2 : ∀ j, j < ops2.length → (ops2.getD j ⟨0, .empty, .empty, 0, [], 0⟩).rng)
    (hx1 : x 1003 = some ⟨false, .sv (orow 0 0 ops1)⟩) (hx2 : x 1007 = some ⟨false, .sv (orow 1 0 ops2)⟩) :
    fnVC CT mCellApart [.sl 1003 0 m1 5, .sl 1007 0 m2 5] ⟨[], x⟩ 1 fun v H' n' => Sub 1 ⟨[(0, .v (.bool true))], ⟨[], x⟩, 1⟩ ⟨[(0, v)], H', n'⟩ := by
  have rl1 := orow_len (A := 0) (l := ops1) (j := 0)
  have ra1 := fun j (hj : j < ops1.length) => orow_at (A := 0) (o0 := ⟨0, .empty, .empty, 0, [], 0⟩) (l := ops1) (j0 := 0) hj
  generalize hr1 : orow 0 0 ops1 = r1 at rl1 ra1 hx1
  have rl2 := orow_len (A := 1) (l := ops2) (j := 0)
  have ra2 := fun j (hj : j < ops2.length) => orow_at (A := 1) (o0 := ⟨0, .empty, .empty, 0, [], 0⟩) (l := ops2) (j0 := 0) hj
  generalize hr2 : orow 1 0 ops2 = r2 at rl2 ra2 hx2
  unfold mCellApart
  simp -implicitDefEqProofs only [↓fnVC, initTm]
  simp -implicitDefEqProofs only [go_sem]
  refine at_call tcommits commitsS ?_
  simp -implicitDefEqProofs only [go_sem]
  have hno : ∀ j : Nat, j < 30 → NoHd (secT (newD 30) ((j : Nat) : Int)) := fun j hj => newNo hj
  have w01 : Wo 0 5 30 0 ⟨0, 5, 0, 1, false, [], []⟩ (newD 30) := Wo.new (by decide) (by decide) (by decide)
  have w02 : Wo 10 10 30 0 ⟨10, 10, 0, 1, false, [], []⟩ (newD 30) := Wo.new (by decide) (by decide) (by decide)
  obtain ⟨d0, h0⟩ : ∃ d, newD 30 = d := ⟨_, rfl⟩
  rw [h0] at hno w01 w02
  refine in_call mixT tbegun ?_
  unfold mbegun
  simp -implicitDefEqProofs only [↓fnVC, initTm]
  simp -implicitDefEqProofs only [go_sem]
  refine at_call tFNew (nwD (k := 30) (by decide) (by decide) (by decide)) ?_
  rw [h0]
  unfold devL
  simp -implicitDefEqProofs only [go_sem]
  refine at_call trFNew (rnwG (k := 30) (by decide) (by decide) (by decide)) ?_
  rw [h0]
  unfold refL
  simp -implicitDefEqProofs only [go_sem, splice_zero, splice_succ, List.drop_succ_cons, List.drop_zero, List.drop_nil, List.cons_append, List.nil_append, List.length_cons, List.length_nil, if_true, Option.bind_some, Option.bind_none]
  refine at_call tCOpen (openR (B := 0) (h := 5) (i := 1) (a := 2) (b := 3) (c := 4) (d := d0) ⟨by rfl, by rfl, by rfl, by rfl, by decide⟩ (by decide) (by decide) w01.pl.ok w01.good.off (by rw [w01.pl.len]; decide) w01.reg srtE_nil (by decide)) ?_
  simp -implicitDefEqProofs only [go_sem, splice_zero, splice_succ, List.drop_succ_cons, List.drop_zero, List.drop_nil, List.cons_append, List.nil_append, List.length_cons, List.length_nil, if_true, Option.bind_some, Option.bind_none]
  refine at_call tCOpen (openR (B := 10) (h := 10) (i := 1) (a := 2) (b := 3) (c := 4) (d := d0) ⟨by rfl, by rfl, by rfl, by rfl, by decide⟩ (by decide) (by decide) w02.pl.ok w02.good.off (by rw [w02.pl.len]; decide) w02.reg srtE_nil (by decide)) ?_
  simp -implicitDefEqProofs only [go_sem, splice_zero, splice_succ, List.drop_succ_cons, List.drop_zero, List.drop_nil, List.cons_append, List.nil_append, List.length_cons, List.length_nil, if_true, Option.bind_some, Option.bind_none]
  refine in_call mixT tbegun ?_
  unfold mbegun
  simp -implicitDefEqProofs only [↓fnVC, initTm]
  simp -implicitDefEqProofs only [go_sem]
  refine at_call tFNew (nwD (k := 30) (by decide) (by decide) (by decide)) ?_
  rw [h0]
  unfold devL
  simp -implicitDefEqProofs only [go_sem]
  refine at_call trFNew (rnwG (k := 30) (by decide) (by decide) (by decide)) ?_
  rw [h0]
  unfold refL
  simp -implicitDefEqProofs only [go_sem, splice_zero, splice_succ, List.drop_succ_cons, List.drop_zero, List.drop_nil, List.cons_append, List.nil_append, List.length_cons, List.length_nil, if_true, Option.bind_some, Option.bind_none]
  refine in_call mixT tbegun ?_
  unfold mbegun
  simp -implicitDefEqProofs only [↓fnVC, initTm]
  simp -implicitDefEqProofs only [go_sem]
  refine at_call tFNew (nwD (k := 30) (by decide) (by decide) (by decide)) ?_
  rw [h0]
  unfold devL
  simp -implicitDefEqProofs only [go_sem]
  refine at_call trFNew (rnwG (k := 30) (by decide) (by decide) (by decide)) ?_
  rw [h0]
  unfold refL
  simp -implicitDefEqProofs only [go_sem, splice_zero, splice_succ, List.drop_succ_cons, List.drop_zero, List.drop_nil, List.cons_append, List.nil_append, List.length_cons, List.length_nil, if_true, Option.bind_some, Option.bind_none]
  refine in_call mixT twopen ?_
  unfold mwopen
  simp -implicitDefEqProofs only [↓fnVC, initTm]
  simp -implicitDefEqProofs only [go_sem, splice_zero, splice_succ, List.drop_succ_cons, List.drop_zero, List.drop_nil, List.cons_append, List.nil_append, List.length_cons, List.length_nil, if_true, Option.bind_some, Option.bind_none]
  refine at_call tCOpen (openR (B := 0) (h := 5) (i := 15) (a := 16) (b := 17) (c := 18) (d := d0) ⟨by rfl, by rfl, by rfl, by rfl, by decide⟩ (by decide) (by decide) w01.pl.ok w01.good.off (by rw [w01.pl.len]; decide) w01.reg srtE_nil (by decide)) ?_
  simp -implicitDefEqProofs only [go_sem, splice_zero, splice_succ, List.drop_succ_cons, List.drop_zero, List.drop_nil, List.cons_append, List.nil_append, List.length_cons, List.length_nil, if_true, Option.bind_some, Option.bind_none]
  refine at_call trCOpen (ropenS (B := 0) (h := 5) (i := 19) (a := 20) (b := 21) (d := d0) ⟨by rfl, by rfl, by rfl, by decide⟩ (by decide) (by decide) w01.pl.ok w01.pl.sn w01.good.off (by rw [w01.pl.len]; decide) (hno 0 (by decide)) (hno 5 (by decide)) (by decide)) ?_
  simp -implicitDefEqProofs only [go_sem, splice_zero, splice_succ, List.drop_succ_cons, List.drop_zero, List.drop_nil, List.cons_append, List.nil_append, List.length_cons, List.length_nil, if_true, Option.bind_some, Option.bind_none]
  refine in_call mixT twopen ?_
  unfold mwopen
  simp -implicitDefEqProofs only [↓fnVC, initTm]
  simp -implicitDefEqProofs only [go_sem, splice_zero, splice_succ, List.drop_succ_cons, List.drop_zero, List.drop_nil, List.cons_append, List.nil_append, List.length_cons, List.length_nil, if_true, Option.bind_some, Option.bind_none]
  refine at_call tCOpen (openR (B := 10) (h := 10) (i := 23) (a := 24) (b := 25) (c := 26) (d := d0) ⟨by rfl, by rfl, by rfl, by rfl, by decide⟩ (by decide) (by decide) w02.pl.ok w02.good.off (by rw [w02.pl.len]; decide) w02.reg srtE_nil (by decide)) ?_
  simp -implicitDefEqProofs only [go_sem, splice_zero, splice_succ, List.drop_succ_cons, List.drop_zero, List.drop_nil, List.cons_append, List.nil_append, List.length_cons, List.length_nil, if_true, Option.bind_some, Option.bind_none]
  refine at_call trCOpen (ropenS (B := 10) (h := 10) (i := 27) (a := 28) (b := 29) (d := d0) ⟨by rfl, by rfl, by rfl, by decide⟩ (by decide) (by decide) w02.pl.ok w02.pl.sn w02.good.off (by rw [w02.pl.len]; decide) (hno 10 (by decide)) (hno 20 (by decide)) (by decide)) ?_
  simp -implicitDefEqProofs only [go_sem, splice_zero, splice_succ, List.drop_succ_cons, List.drop_zero, List.drop_nil, List.cons_append, List.nil_append, List.length_cons, List.length_nil, if_true, Option.bind_some, Option.bind_none]
  refine loop_fam ApOK (apI m1 m2 x) (fun p => 30 - p.j) ⟨0, ⟨0, 5, 0, 1, false, [], []⟩, ⟨10, 10, 0, 1, false, [], []⟩, d0, d0, d0⟩ ⟨Nat.zero_le _, w01, w02, w01, w02⟩ ?_ ?_
  · unfold apI
    refine sub_mk [(1, 8), (2, 1), (3, 5), (4, 2), (5, 3), (6, 4), (7, 9), (8, 10), (9, 11), (10, 12), (11, 13), (12, 14), (13, 22), (14, 15), (15, 16), (16, 17), (17, 18), (18, 31), (19, 32), (20, 33), (21, 19), (22, 20), (23, 21), (24, 34), (25, 0), (26, 0), (27, 30), (28, 23), (29, 24), (30, 25), (31, 26), (32, 35), (33, 36), (34, 37), (35, 27), (36, 28), (37, 29), (38, 38), (39, 0), (40, 0)] rfl rfl rfl ?_
    simp only [tmSub, hpSub, objSub, eqTm, eqHp, rn, lk, SV.ren, SV.renC, SV.renB, SV.renA, ren_ints, ren_strs, ren_pl, ren_svs, SV.v.injEq, Value.int.injEq, Body.ints.injEq, SV.ptr.injEq, SV.sl.injEq, Value.string.injEq, Value.bool.injEq, List.map_cons, List.map_nil, forall_const, Nat.reduceLT, Nat.lt_add_one, imp_self, true_and, and_true, and_self, ob_some, get_mk, lk_cons, ↓reduceIte, Nat.reduceEqDiff, ne_eq, not_true_eq_false, not_false_eq_true, Nat.one_ne_zero, Nat.zero_ne_one, Nat.succ_ne_self, Nat.reduceAdd, Bool.false_eq_true, false_implies, implies_true, reduceCtorEq, devB, cellB, refB, rcellB, rcL, secB, strB, rowP, rnwB]
    rw [prs_nil]
    repeat' (first | rfl | apply And.intro)
  · rintro ⟨j, C1, C2, d1, d2, d⟩ ⟨hj, w1, w2, u1, u2⟩
    simp only at hj w1 w2 u1 u2
    unfold apI
    simp only
    simp -implicitDefEqProofs only [go_sem]
    refine condK_bb (fun c => ?_) (fun c => ?_)
    · have c1 : j < 30 := by have := of_decide_eq_true c; omega
      have hw : IntKind.i64.wrap ((j : Int) + 1) = ((j + 1 : Nat) : Int) := by rw [wrap_i64 (by omega) (by omega)]; omega
      simp -implicitDefEqProofs only [go_sem, c]
      by_cases cM : j < m1
      · have hraM := ra1 j (by omega)
        have hrgM := hrng1 j (by omega)
        generalize ops1.getD j ⟨0, .empty, .empty, 0, [], 0⟩ = oM at hraM hrgM
        rw [Nat.zero_add] at hraM
        generalize hridM : 1000 + 4 * j + 0 = ridM at hraM
        have hgeM : 1000 ≤ ridM := by omega
        obtain ⟨kqM, hkqM⟩ : ∃ kq : Int, oM.u.tmod 10 = kq := ⟨_, rfl⟩
        have hr0M : r1[j * 5]? = some (.v (.int .u8 oM.u)) := by
          have := congrArg (fun l => l[0]?) hraM
          simpa [List.getElem?_take, List.getElem?_drop, ocell] using this
        have hkbM : 0 ≤ kqM ∧ kqM < 10 := by rw [← hkqM, Int.tmod_eq_emod_of_nonneg hrgM.1.1]; omega
        have aM : decide ((j : Int) < (m1 : Int)) = true := decide_eq_true (by omega)
        simp -implicitDefEqProofs only [go_sem, aM, hx1, hr0M]
        refine ⟨⟨by omega, by omega⟩, ?_⟩
        rw [hkqM]
        by_cases c7M : kqM < 7
        · have d7M : decide (kqM < 7) = true := decide_eq_true c7M
          simp -implicitDefEqProofs only [go_sem, d7M, hx1, hraM, ocell, splice_zero]
          refine ⟨⟨by omega, by omega⟩, by omega, ?_⟩
          have hokM := w1.ok (by decide) (by decide) (by omega)
          obtain ⟨dNM, hsbM, wNM, _⟩ := w1.st (nm := oM.nm) (tx := oM.s) (by decide) (by decide) (by omega) kqM
          obtain ⟨dSM, hstM, uNM, hSM⟩ := u1.st (nm := oM.nm) (tx := oM.s) (by decide) (by decide) (by omega) kqM
          have uOM := u2.other uNM (by decide) hSM (by decide)
          generalize ceR C1 kqM oM.nm oM.s = CNM at hsbM wNM hstM uNM
          have hEM := wNM.now
          obtain ⟨RM, SM, qM, hrM, hGM⟩ := stepG (n := 41) (k := oM.u) (m := oM.k) (B := 0) (h := 5) (r := ridM) (z := oM.m) (i := 13) (D := 14) (a := 15) (b := 16) (c := 17) (q := 18) (M := 19) (W := 20) (E := 21) (f := 22) (g := 23) (p := 24) (R := 25) (S := 26) (C := C1) (d := d1) hgeM (by decide) hkqM ⟨hkbM.1, by omega⟩ w1 (by decide) (by decide) (by decide) (by omega) hsbM
          refine at_call twstep (hGM _ ⟨by rfl, by rfl, by rfl, by rfl, by rfl, by rfl, by rfl, by rfl, by rfl, by rfl, by rfl, by rfl, ⟨_, by rfl⟩, ⟨_, by rfl⟩, by decide, by rfl, by rfl⟩) ?_
          clear hGM
          unfold woM
          simp -implicitDefEqProofs only [go_sem, d7M, hx1, hraM, ocell, splice_zero, Bool.not_true, Bool.false_eq_true, if_false]
          refine ⟨⟨by omega, by omega⟩, by omega, ?_⟩
          refine at_call talike (alikeS (C := C1) (C' := CNM) (d := d) (d2 := dNM) (i := 7) (D := 2) (a := 4) (b := 5) (c := 6) (M := 8) (W := 9) (q := 18) (E := 14) (e1 := 41) (e2 := 42) (e3 := 43) (M2 := 44) (W2 := 45) ⟨by rfl, by rfl, by rfl, by rfl, by rfl, by rfl, by rfl, by decide, by rfl, by rfl⟩ ⟨by rfl, by rfl, by rfl, by rfl, by rfl, by rfl, by rfl, by decide, by rfl, by rfl⟩ (by rfl) (by rfl) hgeM (by decide) hkqM ⟨hkbM.1, by omega⟩ hokM u1.pl (by omega) hstM hEM) ?_
          unfold alM
          simp -implicitDefEqProofs only [go_sem, d7M]
          by_cases cI : j < m2
          · have hraI := ra2 j (by omega)
            have hrgI := hrng2 j (by omega)
            generalize ops2.getD j ⟨0, .empty, .empty, 0, [], 0⟩ = oI at hraI hrgI
            rw [Nat.zero_add] at hraI
            generalize hridI : 1000 + 4 * j + 1 = ridI at hraI
            have hgeI : 1000 ≤ ridI := by omega
            obtain ⟨kqI, hkqI⟩ : ∃ kq : Int, oI.u.tmod 10 = kq := ⟨_, rfl⟩
            have hr0I : r2[j * 5]? = some (.v (.int .u8 oI.u)) := by
              have := congrArg (fun l => l[0]?) hraI
              simpa [List.getElem?_take, List.getElem?_drop, ocell] using this
            have hkbI : 0 ≤ kqI ∧ kqI < 10 := by rw [← hkqI, Int.tmod_eq_emod_of_nonneg hrgI.1.1]; omega
            have aI : decide ((j : Int) < (m2 : Int)) = true := decide_eq_true (by omega)
            simp -implicitDefEqProofs only [go_sem, aI, hx2, hr0I]
            refine ⟨⟨by omega, by omega⟩, ?_⟩
            rw [hkqI]
            by_cases c7I : kqI < 7
            · have d7I : decide (kqI < 7) = true := decide_eq_true c7I
              simp -implicitDefEqProofs only [go_sem, d7I, hx2, hraI, ocell, splice_zero]
              refine ⟨⟨by omega, by omega⟩, by omega, ?_⟩
              have hokI := w2.ok (by decide) (by decide) (by omega)
              obtain ⟨dNI, hsbI, wNI, _⟩ := w2.st (nm := oI.nm) (tx := oI.s) (by decide) (by decide) (by omega) kqI
              obtain ⟨dSI, hstI, uNI, hSI⟩ := uOM.st (nm := oI.nm) (tx := oI.s) (by decide) (by decide) (by omega) kqI
              have uOI := uNM.other uNI (by decide) hSI (by decide)
              generalize ceR C2 kqI oI.nm oI.s = CNI at hsbI wNI hstI uNI
              have hEI := wNI.now
              obtain ⟨RI, SI, qI, hrI, hGI⟩ := stepG (n := 54) (k := oI.u) (m := oI.k) (B := 10) (h := 10) (r := ridI) (z := oI.m) (i := 27) (D := 28) (a := 29) (b := 30) (c := 31) (q := 32) (M := 33) (W := 34) (E := 35) (f := 36) (g := 37) (p := 38) (R := 39) (S := 40) (C := C2) (d := d2) hgeI (by decide) hkqI ⟨hkbI.1, by omega⟩ w2 (by decide) (by decide) (by decide) (by omega) hsbI
              refine at_call twstep (hGI _ ⟨by rfl, by rfl, by rfl, by rfl, by rfl, by rfl, by rfl, by rfl, by rfl, by rfl, by rfl, by rfl, ⟨_, by rfl⟩, ⟨_, by rfl⟩, by decide, by rfl, by rfl⟩) ?_
              clear hGI
              unfold woM
              simp -implicitDefEqProofs only [go_sem, d7I, hx2, hraI, ocell, splice_zero, Bool.not_true, Bool.false_eq_true, if_false]
              refine ⟨⟨by omega, by omega⟩, by omega, ?_⟩
              refine at_call talike (alikeS (C := C2) (C' := CNI) (d := dSM) (d2 := dNI) (i := 10) (D := 2) (a := 49) (b := 50) (c := 51) (M := 11) (W := 12) (q := 32) (E := 28) (e1 := 54) (e2 := 55) (e3 := 56) (M2 := 57) (W2 := 58) ⟨by rfl, by rfl, by rfl, by rfl, by rfl, by rfl, by rfl, by decide, by rfl, by rfl⟩ ⟨by rfl, by rfl, by rfl, by rfl, by rfl, by rfl, by rfl, by decide, by rfl, by rfl⟩ (by rfl) (by rfl) hgeI (by decide) hkqI ⟨hkbI.1, by omega⟩ hokI uOM.pl (by omega) hstI hEI) ?_
              unfold alM
              simp -implicitDefEqProofs only [go_sem, d7I]
              simp -implicitDefEqProofs only [go_sem, hw]
              refine kLoop_mk ⟨j + 1, CNM, CNI, dNM, dNI, dSI⟩ ⟨by show j + 1 ≤ 30; omega, wNM, wNI, ((show j + j + 1 + 1 = j + 1 + (j + 1) by omega) ▸ uOI), ((show j + j + 1 + 1 = j + 1 + (j + 1) by omega) ▸ uNI)⟩ (by show 30 - (j + 1) < 30 - j; omega) ?_
              obtain ⟨π, hπ⟩ : ∃ π : List (Nat × Nat), π = [(4, 62), (5, 63), (6, 64), (8, 52), (9, 53), (11, 65), (12, 66), (15, 41), (16, 42), (17, 43), (19, 44), (20, 45), (22, 46), (23, 47), (25, RM), (26, SM), (29, 54), (30, 55), (31, 56), (33, 57), (34, 58), (36, 59), (37, 60), (39, RI), (40, SI)] := ⟨_, rfl⟩
              rcases hrM with ⟨r1M, r2M, r3M, e1M, e2M⟩ | ⟨r1M, r2M, r3M, e1M, e2M⟩ | ⟨r1M, r2M, r3M, e1M, e2M⟩ | ⟨r1M, r2M, r3M, e1M, e2M⟩ <;> rcases hrI with ⟨r1I, r2I, r3I, e1I, e2I⟩ | ⟨r1I, r2I, r3I, e1I, e2I⟩ | ⟨r1I, r2I, r3I, e1I, e2I⟩ | ⟨r1I, r2I, r3I, e1I, e2I⟩ <;> (
                subst r1M; subst r2M; subst r3M; subst r1I; subst r2I; subst r3I
                refine sub_mk π (by rw [hπ]; rfl) rfl (by rw [hπ]; rfl) ?_
                rw [hπ]
                simp only [tmSub, hpSub, objSub, eqTm, eqHp, rn, lk, SV.ren, SV.renC, SV.renB, SV.renA, ren_ints, ren_strs, ren_pl, ren_svs, SV.v.injEq, Value.int.injEq, Body.ints.injEq, SV.ptr.injEq, SV.sl.injEq, Value.string.injEq, Value.bool.injEq, List.map_cons, List.map_nil, forall_const, Nat.reduceLT, Nat.lt_add_one, imp_self, true_and, and_true, and_self, ob_some, get_mk, lk_cons, ↓reduceIte, Nat.reduceEqDiff, ne_eq, not_true_eq_false, not_false_eq_true, Nat.one_ne_zero, Nat.zero_ne_one, Nat.succ_ne_self, Nat.reduceAdd, Bool.false_eq_true, false_implies, implies_true, reduceCtorEq, devB, cellB, refB, rcellB, rcL, secB, strB, rowP, e1M, e2M, e1I, e2I]
                repeat' (first | rfl | exact hw | apply And.intro))
            · have d7I : decide (kqI < 7) = false := decide_eq_false c7I
              simp -implicitDefEqProofs only [go_sem, d7I]
              simp -implicitDefEqProofs only [go_sem, hw]
              refine kLoop_mk ⟨j + 1, CNM, C2, dNM, d2, dSM⟩ ⟨by show j + 1 ≤ 30; omega, wNM, w2.skip, ((show j + j + 1 + 1 = j + 1 + (j + 1) by omega) ▸ uNM.skip), ((show j + j + 1 + 1 = j + 1 + (j + 1) by omega) ▸ uOM.skip)⟩ (by show 30 - (j + 1) < 30 - j; omega) ?_
              obtain ⟨π, hπ⟩ : ∃ π : List (Nat × Nat), π = [(4, 49), (5, 50), (6, 51), (8, 52), (9, 53), (15, 41), (16, 42), (17, 43), (19, 44), (20, 45), (22, 46), (23, 47), (25, RM), (26, SM)] := ⟨_, rfl⟩
              rcases hrM with ⟨r1M, r2M, r3M, e1M, e2M⟩ | ⟨r1M, r2M, r3M, e1M, e2M⟩ | ⟨r1M, r2M, r3M, e1M, e2M⟩ | ⟨r1M, r2M, r3M, e1M, e2M⟩ <;> (
                subst r1M; subst r2M; subst r3M
                refine sub_mk π (by rw [hπ]; rfl) rfl (by rw [hπ]; rfl) ?_
                rw [hπ]
                simp only [tmSub, hpSub, objSub, eqTm, eqHp, rn, lk, SV.ren, SV.renC, SV.renB, SV.renA, ren_ints, ren_strs, ren_pl, ren_svs, SV.v.injEq, Value.int.injEq, Body.ints.injEq, SV.ptr.injEq, SV.sl.injEq, Value.string.injEq, Value.bool.injEq, List.map_cons, List.map_nil, forall_const, Nat.reduceLT, Nat.lt_add_one, imp_self, true_and, and_true, and_self, ob_some, get_mk, lk_cons, ↓reduceIte, Nat.reduceEqDiff, ne_eq, not_true_eq_false, not_false_eq_true, Nat.one_ne_zero, Nat.zero_ne_one, Nat.succ_ne_self, Nat.reduceAdd, Bool.false_eq_true, false_implies, implies_true, reduceCtorEq, devB, cellB, refB, rcellB, rcL, secB, strB, rowP, e1M, e2M]
                repeat' (first | rfl | exact hw | apply And.intro))
          · have aI : decide ((j : Int) < (m2 : Int)) = false := decide_eq_false (by omega)
            simp -implicitDefEqProofs only [go_sem, aI]
            simp -implicitDefEqProofs only [go_sem, hw]
            refine kLoop_mk ⟨j + 1, CNM, C2, dNM, d2, dSM⟩ ⟨by show j + 1 ≤ 30; omega, wNM, w2.skip, ((show j + j + 1 + 1 = j + 1 + (j + 1) by omega) ▸ uNM.skip), ((show j + j + 1 + 1 = j + 1 + (j + 1) by omega) ▸ uOM.skip)⟩ (by show 30 - (j + 1) < 30 - j; omega) ?_
            obtain ⟨π, hπ⟩ : ∃ π : List (Nat × Nat), π = [(4, 49), (5, 50), (6, 51), (8, 52), (9, 53), (15, 41), (16, 42), (17, 43), (19, 44), (20, 45), (22, 46), (23, 47), (25, RM), (26, SM)] := ⟨_, rfl⟩
            rcases hrM with ⟨r1M, r2M, r3M, e1M, e2M⟩ | ⟨r1M, r2M, r3M, e1M, e2M⟩ | ⟨r1M, r2M, r3M, e1M, e2M⟩ | ⟨r1M, r2M, r3M, e1M, e2M⟩ <;> (
              subst r1M; subst r2M; subst r3M
              refine sub_mk π (by rw [hπ]; rfl) rfl (by rw [hπ]; rfl) ?_
              rw [hπ]
              simp only [tmSub, hpSub, objSub, eqTm, eqHp, rn, lk, SV.ren, SV.renC, SV.renB, SV.renA, ren_ints, ren_strs, ren_pl, ren_svs, SV.v.injEq, Value.int.injEq, Body.ints.injEq, SV.ptr.injEq, SV.sl.injEq, Value.string.injEq, Value.bool.injEq, List.map_cons, List.map_nil, forall_const, Nat.reduceLT, Nat.lt_add_one, imp_self, true_and, and_true, and_self, ob_some, get_mk, lk_cons, ↓reduceIte, Nat.reduceEqDiff, ne_eq, not_true_eq_false, not_false_eq_true, Nat.one_ne_zero, Nat.zero_ne_one, Nat.succ_ne_self, Nat.reduceAdd, Bool.false_eq_true, false_implies, implies_true, reduceCtorEq, devB, cellB, refB, rcellB, rcL, secB, strB, rowP, e1M, e2M]
              repeat' (first | rfl | exact hw | apply And.intro))
        · have d7M : decide (kqM < 7) = false := decide_eq_false c7M
          simp -implicitDefEqProofs only [go_sem, d7M]
          by_cases cI : j < m2
          · have hraI := ra2 j (by omega)
            have hrgI := hrng2 j (by omega)
            generalize ops2.getD j ⟨0, .empty, .empty, 0, [], 0⟩ = oI at hraI hrgI
            rw [Nat.zero_add] at hraI
            generalize hridI : 1000 + 4 * j + 1 = ridI at hraI
            have hgeI : 1000 ≤ ridI := by omega
            obtain ⟨kqI, hkqI⟩ : ∃ kq : Int, oI.u.tmod 10 = kq := ⟨_, rfl⟩
            have hr0I : r2[j * 5]? = some (.v (.int .u8 oI.u)) := by
              have := congrArg (fun l => l[0]?) hraI
              simpa [List.getElem?_take, List.getElem?_drop, ocell] using this
            have hkbI : 0 ≤ kqI ∧ kqI < 10 := by rw [← hkqI, Int.tmod_eq_emod_of_nonneg hrgI.1.1]; omega
            have aI : decide ((j : Int) < (m2 : Int)) = true := decide_eq_true (by omega)
            simp -implicitDefEqProofs only [go_sem, aI, hx2, hr0I]
            refine ⟨⟨by omega, by omega⟩, ?_⟩
            rw [hkqI]
            by_cases c7I : kqI < 7
            · have d7I : decide (kqI < 7) = true := decide_eq_true c7I
              simp -implicitDefEqProofs only [go_sem, d7I, hx2, hraI, ocell, splice_zero]
              refine ⟨⟨by omega, by omega⟩, by omega, ?_⟩
              have hokI := w2.ok (by decide) (by decide) (by omega)
              obtain ⟨dNI, hsbI, wNI, _⟩ := w2.st (nm := oI.nm) (tx := oI.s) (by decide) (by decide) (by omega) kqI
              obtain ⟨dSI, hstI, uNI, hSI⟩ := u2.st (nm := oI.nm) (tx := oI.s) (by decide) (by decide) (by omega) kqI
              have uOI := u1.other uNI (by decide) hSI (by decide)
              generalize ceR C2 kqI oI.nm oI.s = CNI at hsbI wNI hstI uNI
              have hEI := wNI.now
              obtain ⟨RI, SI, qI, hrI, hGI⟩ := stepG (n := 41) (k := oI.u) (m := oI.k) (B := 10) (h := 10) (r := ridI) (z := oI.m) (i := 27) (D := 28) (a := 29) (b := 30) (c := 31) (q := 32) (M := 33) (W := 34) (E := 35) (f := 36) (g := 37) (p := 38) (R := 39) (S := 40) (C := C2) (d := d2) hgeI (by decide) hkqI ⟨hkbI.1, by omega⟩ w2 (by decide) (by decide) (by decide) (by omega) hsbI
              refine at_call twstep (hGI _ ⟨by rfl, by rfl, by rfl, by rfl, by rfl, by rfl, by rfl, by rfl, by rfl, by rfl, by rfl, by rfl, ⟨_, by rfl⟩, ⟨_, by rfl⟩, by decide, by rfl, by rfl⟩) ?_
              clear hGI
              unfold woM
              simp -implicitDefEqProofs only [go_sem, d7I, hx2, hraI, ocell, splice_zero, Bool.not_true, Bool.false_eq_true, if_false]
              refine ⟨⟨by omega, by omega⟩, by omega, ?_⟩
              refine at_call talike (alikeS (C := C2) (C' := CNI) (d := d) (d2 := dNI) (i := 10) (D := 2) (a := 4) (b := 5) (c := 6) (M := 11) (W := 12) (q := 32) (E := 28) (e1 := 41) (e2 := 42) (e3 := 43) (M2 := 44) (W2 := 45) ⟨by rfl, by rfl, by rfl, by rfl, by rfl, by rfl, by rfl, by decide, by rfl, by rfl⟩ ⟨by rfl, by rfl, by rfl, by rfl, by rfl, by rfl, by rfl, by decide, by rfl, by rfl⟩ (by rfl) (by rfl) hgeI (by decide) hkqI ⟨hkbI.1, by omega⟩ hokI u2.pl (by omega) hstI hEI) ?_
              unfold alM
              simp -implicitDefEqProofs only [go_sem, d7I]
              simp -implicitDefEqProofs only [go_sem, hw]
              refine kLoop_mk ⟨j + 1, C1, CNI, d1, dNI, dSI⟩ ⟨by show j + 1 ≤ 30; omega, w1.skip, wNI, ((show j + j + 1 + 1 = j + 1 + (j + 1) by omega) ▸ uOI.skip), ((show j + j + 1 + 1 = j + 1 + (j + 1) by omega) ▸ uNI.skip)⟩ (by show 30 - (j + 1) < 30 - j; omega) ?_
              obtain ⟨π, hπ⟩ : ∃ π : List (Nat × Nat), π = [(4, 49), (5, 50), (6, 51), (11, 52), (12, 53), (29, 41), (30, 42), (31, 43), (33, 44), (34, 45), (36, 46), (37, 47), (39, RI), (40, SI)] := ⟨_, rfl⟩
              rcases hrI with ⟨r1I, r2I, r3I, e1I, e2I⟩ | ⟨r1I, r2I, r3I, e1I, e2I⟩ | ⟨r1I, r2I, r3I, e1I, e2I⟩ | ⟨r1I, r2I, r3I, e1I, e2I⟩ <;> (
                subst r1I; subst r2I; subst r3I
                refine sub_mk π (by rw [hπ]; rfl) rfl (by rw [hπ]; rfl) ?_
                rw [hπ]
                simp only [tmSub, hpSub, objSub, eqTm, eqHp, rn, lk, SV.ren, SV.renC, SV.renB, SV.renA, ren_ints, ren_strs, ren_pl, ren_svs, SV.v.injEq, Value.int.injEq, Body.ints.injEq, SV.ptr.injEq, SV.sl.injEq, Value.string.injEq, Value.bool.injEq, List.map_cons, List.map_nil, forall_const, Nat.reduceLT, Nat.lt_add_one, imp_self, true_and, and_true, and_self, ob_some, get_mk, lk_cons, ↓reduceIte, Nat.reduceEqDiff, ne_eq, not_true_eq_false, not_false_eq_true, Nat.one_ne_zero, Nat.zero_ne_one, Nat.succ_ne_self, Nat.reduceAdd, Bool.false_eq_true, false_implies, implies_true, reduceCtorEq, devB, cellB, refB, rcellB, rcL, secB, strB, rowP, e1I, e2I]
                repeat' (first | rfl | exact hw | apply And.intro))
            · have d7I : decide (kqI < 7) = false := decide_eq_false c7I
              simp -implicitDefEqProofs only [go_sem, d7I]
              simp -implicitDefEqProofs only [go_sem, hw]
              refine kLoop_mk ⟨j + 1, C1, C2, d1, d2, d⟩ ⟨by show j + 1 ≤ 30; omega, w1.skip, w2.skip, ((show j + j + 1 + 1 = j + 1 + (j + 1) by omega) ▸ u1.skip.skip), ((show j + j + 1 + 1 = j + 1 + (j + 1) by omega) ▸ u2.skip.skip)⟩ (by show 30 - (j + 1) < 30 - j; omega) ?_
              obtain ⟨π, hπ⟩ : ∃ π : List (Nat × Nat), π = [] := ⟨_, rfl⟩
              refine sub_mk π (by rw [hπ]; rfl) rfl (by rw [hπ]; rfl) ?_
              rw [hπ]
              simp only [tmSub, hpSub, objSub, eqTm, eqHp, rn, lk, SV.ren, SV.renC, SV.renB, SV.renA, ren_ints, ren_strs, ren_pl, ren_svs, SV.v.injEq, Value.int.injEq, Body.ints.injEq, SV.ptr.injEq, SV.sl.injEq, Value.string.injEq, Value.bool.injEq, List.map_cons, List.map_nil, forall_const, Nat.reduceLT, Nat.lt_add_one, imp_self, true_and, and_true, and_self, ob_some, get_mk, lk_cons, ↓reduceIte, Nat.reduceEqDiff, ne_eq, not_true_eq_false, not_false_eq_true, Nat.one_ne_zero, Nat.zero_ne_one, Nat.succ_ne_self, Nat.reduceAdd, Bool.false_eq_true, false_implies, implies_true, reduceCtorEq, devB, cellB, refB, rcellB, rcL, secB, strB, rowP]
              repeat' (first | rfl | exact hw | apply And.intro)
          · have aI : decide ((j : Int) < (m2 : Int)) = false := decide_eq_false (by omega)
            simp -implicitDefEqProofs only [go_sem, aI]
            simp -implicitDefEqProofs only [go_sem, hw]
            refine kLoop_mk ⟨j + 1, C1, C2, d1, d2, d⟩ ⟨by show j + 1 ≤ 30; omega, w1.skip, w2.skip, ((show j + j + 1 + 1 = j + 1 + (j + 1) by omega) ▸ u1.skip.skip), ((show j + j + 1 + 1 = j + 1 + (j + 1) by omega) ▸ u2.skip.skip)⟩ (by show 30 - (j + 1) < 30 - j; omega) ?_
            obtain ⟨π, hπ⟩ : ∃ π : List (Nat × Nat), π = [] := ⟨_, rfl⟩
            refine sub_mk π (by rw [hπ]; rfl) rfl (by rw [hπ]; rfl) ?_
            rw [hπ]
            simp only [tmSub, hpSub, objSub, eqTm, eqHp, rn, lk, SV.ren, SV.renC, SV.renB, SV.renA, ren_ints, ren_strs, ren_pl, ren_svs, SV.v.injEq, Value.int.injEq, Body.ints.injEq, SV.ptr.injEq, SV.sl.injEq, Value.string.injEq, Value.bool.injEq, List.map_cons, List.map_nil, forall_const, Nat.reduceLT, Nat.lt_add_one, imp_self, true_and, and_true, and_self, ob_some, get_mk, lk_cons, ↓reduceIte, Nat.reduceEqDiff, ne_eq, not_true_eq_false, not_false_eq_true, Nat.one_ne_zero, Nat.zero_ne_one, Nat.succ_ne_self, Nat.reduceAdd, Bool.false_eq_true, false_implies, implies_true, reduceCtorEq, devB, cellB, refB, rcellB, rcL, secB, strB, rowP]
            repeat' (first | rfl | exact hw | apply And.intro)
      · have aM : decide ((j : Int) < (m1 : Int)) = false := decide_eq_false (by omega)
        simp -implicitDefEqProofs only [go_sem, aM]
        by_cases cI : j < m2
        · have hraI := ra2 j (by omega)
          have hrgI := hrng2 j (by omega)
          generalize ops2.getD j ⟨0, .empty, .empty, 0, [], 0⟩ = oI at hraI hrgI
          rw [Nat.zero_add] at hraI
          generalize hridI : 1000 + 4 * j + 1 = ridI at hraI
          have hgeI : 1000 ≤ ridI := by omega
          obtain ⟨kqI, hkqI⟩ : ∃ kq : Int, oI.u.tmod 10 = kq := ⟨_, rfl⟩
          have hr0I : r2[j * 5]? = some (.v (.int .u8 oI.u)) := by
            have := congrArg (fun l => l[0]?) hraI
            simpa [List.getElem?_take, List.getElem?_drop, ocell] using this
          have hkbI : 0 ≤ kqI ∧ kqI < 10 := by rw [← hkqI, Int.tmod_eq_emod_of_nonneg hrgI.1.1]; omega
          have aI : decide ((j : Int) < (m2 : Int)) = true := decide_eq_true (by omega)
          simp -implicitDefEqProofs only [go_sem, aI, hx2, hr0I]
          refine ⟨⟨by omega, by omega⟩, ?_⟩
          rw [hkqI]
          by_cases c7I : kqI < 7
          · have d7I : decide (kqI < 7) = true := decide_eq_true c7I
            simp -implicitDefEqProofs only [go_sem, d7I, hx2, hraI, ocell, splice_zero]
            refine ⟨⟨by omega, by omega⟩, by omega, ?_⟩
            have hokI := w2.ok (by decide) (by decide) (by omega)
            obtain ⟨dNI, hsbI, wNI, _⟩ := w2.st (nm := oI.nm) (tx := oI.s) (by decide) (by decide) (by omega) kqI
            obtain ⟨dSI, hstI, uNI, hSI⟩ := u2.st (nm := oI.nm) (tx := oI.s) (by decide) (by decide) (by omega) kqI
            have uOI := u1.other uNI (by decide) hSI (by decide)
            generalize ceR C2 kqI oI.nm oI.s = CNI at hsbI wNI hstI uNI
            have hEI := wNI.now
            obtain ⟨RI, SI, qI, hrI, hGI⟩ := stepG (n := 41) (k := oI.u) (m := oI.k) (B := 10) (h := 10) (r := ridI) (z := oI.m) (i := 27) (D := 28) (a := 29) (b := 30) (c := 31) (q := 32) (M := 33) (W := 34) (E := 35) (f := 36) (g := 37) (p := 38) (R := 39) (S := 40) (C := C2) (d := d2) hgeI (by decide) hkqI ⟨hkbI.1, by omega⟩ w2 (by decide) (by decide) (by decide) (by omega) hsbI
            refine at_call twstep (hGI _ ⟨by rfl, by rfl, by rfl, by rfl, by rfl, by rfl, by rfl, by rfl, by rfl, by rfl, by rfl, by rfl, ⟨_, by rfl⟩, ⟨_, by rfl⟩, by decide, by rfl, by rfl⟩) ?_
            clear hGI
            unfold woM
            simp -implicitDefEqProofs only [go_sem, d7I, hx2, hraI, ocell, splice_zero, Bool.not_true, Bool.false_eq_true, if_false]
            refine ⟨⟨by omega, by omega⟩, by omega, ?_⟩
            refine at_call talike (alikeS (C := C2) (C' := CNI) (d := d) (d2 := dNI) (i := 10) (D := 2) (a := 4) (b := 5) (c := 6) (M := 11) (W := 12) (q := 32) (E := 28) (e1 := 41) (e2 := 42) (e3 := 43) (M2 := 44) (W2 := 45) ⟨by rfl, by rfl, by rfl, by rfl, by rfl, by rfl, by rfl, by decide, by rfl, by rfl⟩ ⟨by rfl, by rfl, by rfl, by rfl, by rfl, by rfl, by rfl, by decide, by rfl, by rfl⟩ (by rfl) (by rfl) hgeI (by decide) hkqI ⟨hkbI.1, by omega⟩ hokI u2.pl (by omega) hstI hEI) ?_
            unfold alM
            simp -implicitDefEqProofs only [go_sem, d7I]
            simp -implicitDefEqProofs only [go_sem, hw]
            refine kLoop_mk ⟨j + 1, C1, CNI, d1, dNI, dSI⟩ ⟨by show j + 1 ≤ 30; omega, w1.skip, wNI, ((show j + j + 1 + 1 = j + 1 + (j + 1) by omega) ▸ uOI.skip), ((show j + j + 1 + 1 = j + 1 + (j + 1) by omega) ▸ uNI.skip)⟩ (by show 30 - (j + 1) < 30 - j; omega) ?_
            obtain ⟨π, hπ⟩ : ∃ π : List (Nat × Nat), π = [(4, 49), (5, 50), (6, 51), (11, 52), (12, 53), (29, 41), (30, 42), (31, 43), (33, 44), (34, 45), (36, 46), (37, 47), (39, RI), (40, SI)] := ⟨_, rfl⟩
            rcases hrI with ⟨r1I, r2I, r3I, e1I, e2I⟩ | ⟨r1I, r2I, r3I, e1I, e2I⟩ | ⟨r1I, r2I, r3I, e1I, e2I⟩ | ⟨r1I, r2I, r3I, e1I, e2I⟩ <;> (
              subst r1I; subst r2I; subst r3I
              refine sub_mk π (by rw [hπ]; rfl) rfl (by rw [hπ]; rfl) ?_
              rw [hπ]
              simp only [tmSub, hpSub, objSub, eqTm, eqHp, rn, lk, SV.ren, SV.renC, SV.renB, SV.renA, ren_ints, ren_strs, ren_pl, ren_svs, SV.v.injEq, Value.int.injEq, Body.ints.injEq, SV.ptr.injEq, SV.sl.injEq, Value.string.injEq, Value.bool.injEq, List.map_cons, List.map_nil, forall_const, Nat.reduceLT, Nat.lt_add_one, imp_self, true_and, and_true, and_self, ob_some, get_mk, lk_cons, ↓reduceIte, Nat.reduceEqDiff, ne_eq, not_true_eq_false, not_false_eq_true, Nat.one_ne_zero, Nat.zero_ne_one, Nat.succ_ne_self, Nat.reduceAdd, Bool.false_eq_true, false_implies, implies_true, reduceCtorEq, devB, cellB, refB, rcellB, rcL, secB, strB, rowP, e1I, e2I]
              repeat' (first | rfl | exact hw | apply And.intro))
          · have d7I : decide (kqI < 7) = false := decide_eq_false c7I
            simp -implicitDefEqProofs only [go_sem, d7I]
            simp -implicitDefEqProofs only [go_sem, hw]
            refine kLoop_mk ⟨j + 1, C1, C2, d1, d2, d⟩ ⟨by show j + 1 ≤ 30; omega, w1.skip, w2.skip, ((show j + j + 1 + 1 = j + 1 + (j + 1) by omega) ▸ u1.skip.skip), ((show j + j + 1 + 1 = j + 1 + (j + 1) by omega) ▸ u2.skip.skip)⟩ (by show 30 - (j + 1) < 30 - j; omega) ?_
            obtain ⟨π, hπ⟩ : ∃ π : List (Nat × Nat), π = [] := ⟨_, rfl⟩
            refine sub_mk π (by rw [hπ]; rfl) rfl (by rw [hπ]; rfl) ?_
            rw [hπ]
            simp only [tmSub, hpSub, objSub, eqTm, eqHp, rn, lk, SV.ren, SV.renC, SV.renB, SV.renA, ren_ints, ren_strs, ren_pl, ren_svs, SV.v.injEq, Value.int.injEq, Body.ints.injEq, SV.ptr.injEq, SV.sl.injEq, Value.string.injEq, Value.bool.injEq, List.map_cons, List.map_nil, forall_const, Nat.reduceLT, Nat.lt_add_one, imp_self, true_and, and_true, and_self, ob_some, get_mk, lk_cons, ↓reduceIte, Nat.reduceEqDiff, ne_eq, not_true_eq_false, not_false_eq_true, Nat.one_ne_zero, Nat.zero_ne_one, Nat.succ_ne_self, Nat.reduceAdd, Bool.false_eq_true, false_implies, implies_true, reduceCtorEq, devB, cellB, refB, rcellB, rcL, secB, strB, rowP]
            repeat' (first | rfl | exact hw | apply And.intro)
        · have aI : decide ((j : Int) < (m2 : Int)) = false := decide_eq_false (by omega)
          simp -implicitDefEqProofs only [go_sem, aI]
          simp -implicitDefEqProofs only [go_sem, hw]
          refine kLoop_mk ⟨j + 1, C1, C2, d1, d2, d⟩ ⟨by show j + 1 ≤ 30; omega, w1.skip, w2.skip, ((show j + j + 1 + 1 = j + 1 + (j + 1) by omega) ▸ u1.skip.skip), ((show j + j + 1 + 1 = j + 1 + (j + 1) by omega) ▸ u2.skip.skip)⟩ (by show 30 - (j + 1) < 30 - j; omega) ?_
          obtain ⟨π, hπ⟩ : ∃ π : List (Nat × Nat), π = [] := ⟨_, rfl⟩
          refine sub_mk π (by rw [hπ]; rfl) rfl (by rw [hπ]; rfl) ?_
          rw [hπ]
          simp only [tmSub, hpSub, objSub, eqTm, eqHp, rn, lk, SV.ren, SV.renC, SV.renB, SV.renA, ren_ints, ren_strs, ren_pl, ren_svs, SV.v.injEq, Value.int.injEq, Body.ints.injEq, SV.ptr.injEq, SV.sl.injEq, Value.string.injEq, Value.bool.injEq, List.map_cons, List.map_nil, forall_const, Nat.reduceLT, Nat.lt_add_one, imp_self, true_and, and_true, and_self, ob_some, get_mk, lk_cons, ↓reduceIte, Nat.reduceEqDiff, ne_eq, not_true_eq_false, not_false_eq_true, Nat.one_ne_zero, Nat.zero_ne_one, Nat.succ_ne_self, Nat.reduceAdd, Bool.false_eq_true, false_implies, implies_true, reduceCtorEq, devB, cellB, refB, rcellB, rcL, secB, strB, rowP]
          repeat' (first | rfl | exact hw | apply And.intro)
    · have c1 : j = 30 := by have := of_decide_eq_false c; omega
      subst c1
      simp -implicitDefEqProofs only [go_sem, c]
      refine at_call tCOpen (openR (B := 0) (h := 5) (i := 2) (a := 4) (b := 5) (c := 6) (d := d) ⟨by rfl, by rfl, by rfl, by rfl, by decide⟩ (by decide) (by decide) u1.pl.ok u1.good.off (by rw [u1.pl.len]; decide) u1.reg rfl (by decide)) ?_
      simp -implicitDefEqProofs only [go_sem]
      refine at_call tCOpen (openR (B := 10) (h := 10) (i := 2) (a := 4) (b := 5) (c := 6) (d := d) ⟨by rfl, by rfl, by rfl, by rfl, by decide⟩ (by decide) (by decide) u1.pl.ok u1.good.off (by rw [u1.pl.len]; decide) u2.reg rfl (by decide)) ?_
      unfold rcellB rcL
      simp -implicitDefEqProofs only [go_sem]
      refine at_call twsame (sameS (C := ⟨0, 5, C1.num, C1.last, false, srtE C1.was, srtE C1.was⟩) (d := d) (i := 41) (D := 2) (a := 4) (b := 5) (c := 6) (M := 42) (W := 43) (q := 26) (P := prs C1.was) (r := true) ⟨by rfl, by rfl, by rfl, by rfl, by rfl, by rfl, by rfl, by decide, by rfl, by rfl⟩ (by rfl) (by decide) w1.was.srt (by rw [prs_len]; exact w1.was.len) prs_len.symm ⟨fun _ => prs_srt w1.was, fun _ => rfl⟩) ?_
      simp -implicitDefEqProofs only [go_sem]
      refine at_call twsame (sameS (C := ⟨10, 10, C2.num, C2.last, false, srtE C2.was, srtE C2.was⟩) (d := d) (i := 44) (D := 2) (a := 4) (b := 5) (c := 6) (M := 45) (W := 46) (q := 40) (P := prs C2.was) (r := true) ⟨by rfl, by rfl, by rfl, by rfl, by rfl, by rfl, by rfl, by decide, by rfl, by rfl⟩ (by rfl) (by decide) w2.was.srt (by rw [prs_len]; exact w2.was.len) prs_len.symm ⟨fun _ => prs_srt w2.was, fun _ => rfl⟩) ?_
      simp -implicitDefEqProofs only [go_sem]
      refine sub_mk [] rfl rfl rfl ?_
      simp only [tmSub, hpSub, objSub, eqTm, eqHp, rn, lk, SV.ren, SV.renC, SV.renB, SV.renA, ren_ints, ren_strs, ren_pl, ren_svs, SV.v.injEq, Value.int.injEq, Body.ints.injEq, SV.ptr.injEq, SV.sl.injEq, Value.string.injEq, Value.bool.injEq, List.map_cons, List.map_nil, forall_const, Nat.reduceLT, Nat.lt_add_one, imp_self, true_and, and_true, and_self, ob_some, get_mk, lk_cons, ↓reduceIte, Nat.reduceEqDiff, ne_eq, not_true_eq_false, not_false_eq_true, Nat.one_ne_zero, Nat.zero_ne_one, Nat.succ_ne_self, Nat.reduceAdd, Bool.false_eq_true, false_implies, implies_true, reduceCtorEq]
end
end Go.Sx