/- Cells: CellWhole. -/
import Derived.Test.YtaggkccjgnkloaaGreatCelH

set_option linter.unusedVariables false
set_option linter.unusedSimpArgs false
set_option maxRecDepth 100000
namespace Go.Sx
attribute [local go_sem ↓] bind_mk intsB_mk strsB_mk svB_mk fnVC ob_some vc_skip vc_exit vc_ret vc_seq vc_block kSeq_normal kSeq_exit kSeq_ret kBlock_normal kBlock_exit kBlock_ret vc_reg vc_regD vc_cond condK_true condK_false vc_loop kLoop_exit kLoop_ret kRoll_normal kRoll_exit kRoll_ret vcOps_nil vcOps_cons gd_bool gd_undef put_some put_none vcT_fin vcT_pure vcT_act vcT_acts vcT_stop stab_none stab_some stabM_nil stabM_cons stabO_ld stabO_ldn stabO_slP stabO_b2s fldOf_ai fldOf_agg fldOf_ait fldOf_aggt intsOf_nil intsOf_cons strsOf_nil strsOf_cons c_omap ob_if lk_nil lk_cons ev_t ev_k z_mov z_pick z_bin z_binB z_binP z_un z_r2s z_conv z_s2b z_b2s z_mkM z_luM z_upM z_lenM lenMk_mp lenMk_nil plsOf_v z_delM asM_so plV_v plV_agg mpOf_mp mpOf_nil mpUp_mp asM_mp luV_ok luV_v z_allocT aggOf_mk z_boxT z_alloc z_bld z_bldI z_rowI z_rowS z_ld z_ldn z_st z_stn asN_ptr asN_fn z_nilck z_fld z_fadr z_idxA z_idxP z_idxS z_idxV z_slS z_slL z_slP z_mk z_lenS z_lenL z_app appC_ints appC_pl appC_sv appC_strs isS_strs loose_ints loose_pl loose_sv z_slM z_callv callvK_fn callvK_f callvK_yl vc_rangeF rfEnd_eq rfGo_none rfGo_ret rfGo_exit yGo_mk yEnd_n yEnd_r yEnd_e yRdy_mk yMid_n putPs_nil putPs_cons leaf_v leaf_ptr leaf_sl leaf_yl leaf_mp z_appS z_appST z_appZ z_cpyS z_mkfn reps_int reps_str z_rowV z_slnil nilK_zero z_cpy z_call asT_tup z_extT z_box boxOf_ai boxOf_agg boxOf_int boxOf_str boxOf_bool boxOf_ptr boxOf_sl sbin_int sbin_str sbinB_mk sbinP_nn sbinP_pn sbinP_np i_add i_sub i_mul i_quo i_rem i_and i_or i_xor i_andNot i_shl i_shr i_eql i_neq i_lss i_leq i_gtr i_geq st_add st_eql st_neq st_lss st_leq st_gtr st_geq bo_eql bo_neq pt_eql pt_neq un_neg un_xor un_not asI_mk asB_mk asS_mk asP_mk asSl_mk asBy_mk bnd_none bnd_some get_mk hput_mk hdel_mk kill_eq wrOf_eq rowOf_eq rsvs_0 rsvs_1 rsvs_2 rsvs_3 rsv_t rsv_c1 rsv_cn nt_v nt_ptr nt_sl nt_agg nt_ai get_ints get_strs get_pl get_sv getN_ints getN_sv set_ints set_strs set_sv setN_ints setN_sv part_ints part_strs part_sv cat_ints cat_strs cat_sv over_ints over_strs over_sv ones_ints ones_strs evs_nil evs_cons condK_eqt condK_eqf det_callP V_ns V_nn V_gs V_gn obC_mk fresh_ev freshT_ev freshR_ev setN_plagg setN_intsv setN_svai setN_svagg over_intsv set_pl setN_pl setN_plai getN_pl getN_strs part_pl cat_pl over_pl over_plints z_mm
attribute [local go_sem] initTm ne_eq not_true_eq_false not_false_eq_true true_and and_true List.length_cons List.length_nil Int.toNat_natCast Nat.add_zero Nat.zero_add Nat.mul_one List.getElem?_cons_zero List.drop_zero List.take_length List.take_succ_cons List.take_zero List.take_nil List.drop_succ_cons Option.map_some Nat.le_refl implies_true List.getElem?_cons_succ decide_true decide_false Bool.not_true Bool.not_false beq_self_eq_true Nat.succ_ne_self Nat.one_ne_zero Nat.zero_ne_one vk_mk hk_mk nk_mk tok_eq plsOf_map intsOf_map bodyOf_pl bodyOf_ints bodyOf_strs bodyOf_sv part_aggv part_agg part_ai part_int part_str part_bool part_sl part_ptr part_nil numsOf_map u_int u_str u_bool u_pnil u_sl u_ptr u_oci u_ocs evq_nil evq_cons fillS_nil fillS_cons u_ocb ones_pl cells_sv cells_ints cells_strs cells_pl smms_nil smms_cons smm_min smm_max plsOf_nil List.nil_append List.all_cons List.all_nil Bool.and_self Bool.true_and Bool.and_true zws_len zw_len zi_len List.set_cons_zero List.set_cons_succ List.flatMap_cons List.flatMap_nil List.append_nil
attribute [local go_sem_proc] Nat.reduceEqDiff Nat.reduceAdd Nat.reduceMul Nat.reduceLT Nat.reduceLeDiff Nat.reduceSub Int.reduceToNat Int.reduceLE Int.reduceLT reduceCtorEq Int.reduceEq Int.reduceGT Int.reduceGE Int.reduceNeg
attribute [local go_sem_proc ↓] reduceIte
section
open Go.Proofs
variable {H : Hp} {n : Nat} {x : Nat → Option SO} {d d' : Fd} {C C' : Ce}
theorem newNo {k j : Nat} (h : j < k) : NoHd (secT (newD k) j) := by
  have hz : (newD k).seen.getD j [] = z64 := by
    show (List.replicate k (zi 64)).getD j [] = z64
    rw [List.getD_eq_getElem?_getD, List.getElem?_replicate, if_pos h]; rfl
  exact z64_Z.no hz (.inl z64_get)
theorem prs_nil : prs [] = [] := List.length_eq_zero_iff.1 (by rw [prs_len]; rfl)
def wlD (C : Ce) (d : Fd) (l : List (Nat × Option SO)) : List (Nat × Option SO) := (2, some ⟨true, .sv [.ptr 3 0, .ptr 7 0, .ptr 10 0, .ptr 13 0]⟩) :: (3, some ⟨true, devB d 4 5 6⟩) :: (4, some ⟨true, secB d.seen⟩) :: (5, some ⟨true, secB d.safe⟩) :: (6, some ⟨true, .pl (prow d.pend)⟩) :: (7, some ⟨true, cellB C 3 8 9⟩) :: (8, some ⟨true, .mp (.map C.now)⟩) :: (9, some ⟨true, .mp (.map C.was)⟩) ::
  (10, some ⟨true, refB d 11 12⟩) :: (11, some ⟨true, strB d.safe⟩) :: (12, some ⟨true, .pl (qrow d.pend)⟩) :: (13, some ⟨true, rcellB C 10 14 15⟩) :: (14, some ⟨false, rowP C.now⟩) :: (15, some ⟨false, rowP C.was⟩) :: l
theorem wlD_eq {l : List (Nat × Option SO)} : wlD C d l = (2, some ⟨true, .sv [.ptr 3 0, .ptr 7 0, .ptr 10 0, .ptr 13 0]⟩) :: (3, some ⟨true, devB d 4 5 6⟩) :: (4, some ⟨true, secB d.seen⟩) :: (5, some ⟨true, secB d.safe⟩) :: (6, some ⟨true, .pl (prow d.pend)⟩) :: (7, some ⟨true, cellB C 3 8 9⟩) :: (8, some ⟨true, .mp (.map C.now)⟩) :: (9, some ⟨true, .mp (.map C.was)⟩) ::
  (10, some ⟨true, refB d 11 12⟩) :: (11, some ⟨true, strB d.safe⟩) :: (12, some ⟨true, .pl (qrow d.pend)⟩) :: (13, some ⟨true, rcellB C 10 14 15⟩) :: (14, some ⟨false, rowP C.now⟩) :: (15, some ⟨false, rowP C.was⟩) :: l := rfl
def whI (fl : Int) (m2 M : Nat) (x : Nat → Option SO) (p : Nat × Ce × Fd) : St :=
  ⟨[(1, .v (.int .u8 fl)), (5, .ptr 1 0), (7, .ptr 2 0), (31, .sl 1003 0 M 5), (32, .v (.int .i64 M)), (33, .v (.int .i64 p.1))], ⟨wlD p.2.1 p.2.2 [(1, some ⟨true, .sv [.sl 1007 0 m2 1]⟩)], x⟩, 16⟩
set_option maxHeartbeats 4000000 in
theorem wWhole {ops : List OpV} {m1 : Nat} {fl : Int} {zs : List Int} {m2 : Nat} (h1 : m1 ≤ ops.length) (hrng : ∀ j, j < ops.length → (ops.getD j ⟨0, .empty, .empty, 0, [], 0⟩).rng) (hf : 0 ≤ fl ∧ fl ≤ 255) (hz : m2 ≤ zs.length)
    (hx1 : x 1003 = some ⟨false, .sv (orow 0 0 ops)⟩) (hx2 : x 1007 = some ⟨false, .ints .i64 zs⟩) :
    fnVC CT mCellWhole [.sl 1003 0 m1 5, .v (.int .u8 fl), .agg [.sl 1007 0 m2 1]] ⟨[], x⟩ 1 fun v H' n' => Sub 1 ⟨[(0, .v (.bool true))], ⟨[], x⟩, 1⟩ ⟨[(0, v)], H', n'⟩ := by
  have q1 : min (m1 : Int) 40 = ((min m1 40 : Nat) : Int) := by omega
  have rl1 := orow_len (A := 0) (l := ops) (j := 0)
  have ra1 := fun j (hj : j < ops.length) => orow_at (A := 0) (o0 := ⟨0, .empty, .empty, 0, [], 0⟩) (l := ops) (j0 := 0) hj
  generalize hr1 : orow 0 0 ops = r1 at rl1 ra1 hx1
  unfold mCellWhole
  simp -implicitDefEqProofs only [↓fnVC, initTm]
  simp -implicitDefEqProofs only [go_sem]
  refine at_call tcommits commitsS ?_
  simp -implicitDefEqProofs only [go_sem]
  refine in_call mixT tbegun ?_
  unfold mbegun
  simp -implicitDefEqProofs only [↓fnVC, initTm]
  simp -implicitDefEqProofs only [go_sem]
  refine at_call tFNew (nwD (k := 20) (by decide) (by decide) (by decide)) ?_
  unfold devL
  simp -implicitDefEqProofs only [go_sem]
  refine at_call trFNew (rnwG (k := 20) (by decide) (by decide) (by decide)) ?_
  unfold refL
  simp -implicitDefEqProofs only [go_sem, splice_zero, splice_succ, List.drop_succ_cons, List.drop_zero, List.drop_nil, List.cons_append, List.nil_append, List.length_cons, List.length_nil, if_true, Option.bind_some, Option.bind_none]
  have hno : ∀ j : Nat, j < 20 → NoHd (secT (newD 20) ((j : Nat) : Int)) := fun j hj => newNo hj
  have w0 : Wo 2 8 20 0 ⟨2, 8, 0, 1, false, [], []⟩ (newD 20) := Wo.new (by decide) (by decide) (by decide)
  generalize newD 20 = d0 at hno w0 ⊢
  refine in_call mixT twopen ?_
  unfold mwopen
  simp -implicitDefEqProofs only [↓fnVC, initTm]
  simp -implicitDefEqProofs only [go_sem, splice_zero, splice_succ, List.drop_succ_cons, List.drop_zero, List.drop_nil, List.cons_append, List.nil_append, List.length_cons, List.length_nil, if_true, Option.bind_some, Option.bind_none]
  refine at_call tCOpen (openR (B := 2) (h := 8) (i := 2) (a := 3) (b := 4) (c := 5) (d := d0) ⟨by rfl, by rfl, by rfl, by rfl, by decide⟩ (by decide) (by decide) w0.pl.ok w0.good.off (by rw [w0.pl.len]; decide) w0.reg srtE_nil (by decide)) ?_
  simp -implicitDefEqProofs only [go_sem, splice_zero, splice_succ, List.drop_succ_cons, List.drop_zero, List.drop_nil, List.cons_append, List.nil_append, List.length_cons, List.length_nil, if_true, Option.bind_some, Option.bind_none]
  refine at_call trCOpen (ropenS (B := 2) (h := 8) (i := 6) (a := 7) (b := 8) (d := d0) ⟨by rfl, by rfl, by rfl, by decide⟩ (by decide) (by decide) w0.pl.ok w0.pl.sn w0.good.off (by rw [w0.pl.len]; decide) (hno 2 (by decide)) (hno 10 (by decide)) (by decide)) ?_
  simp -implicitDefEqProofs only [go_sem, splice_zero, splice_succ, List.drop_succ_cons, List.drop_zero, List.drop_nil, List.cons_append, List.nil_append, List.length_cons, List.length_nil, if_true, Option.bind_some, Option.bind_none]
  obtain ⟨M, hM⟩ : ∃ M, M = min m1 40 := ⟨_, rfl⟩
  rw [← hM] at q1
  simp -implicitDefEqProofs only [go_sem, q1]
  refine ⟨by omega, ?_⟩
  refine loop_fam (fun (p : Nat × Ce × Fd) => p.1 ≤ M ∧ Wo 2 8 20 p.1 p.2.1 p.2.2) (whI fl m2 M x) (fun p => M - p.1) (0, ⟨2, 8, 0, 1, false, [], []⟩, d0) ⟨Nat.zero_le _, w0⟩ ?_ ?_
  · unfold whI wlD
    refine sub_mk [(2, 9), (3, 2), (4, 3), (5, 4), (6, 5), (7, 10), (8, 11), (9, 12), (10, 6), (11, 7), (12, 8), (13, 13), (14, 0), (15, 0)] rfl rfl rfl ?_
    simp only [tmSub, hpSub, objSub, eqTm, eqHp, rn, lk, SV.ren, SV.renC, SV.renB, SV.renA, ren_ints, ren_strs, ren_pl, ren_svs, SV.v.injEq, Value.int.injEq, Body.ints.injEq, SV.ptr.injEq, SV.sl.injEq, Value.string.injEq, Value.bool.injEq, List.map_cons, List.map_nil, forall_const, Nat.reduceLT, Nat.lt_add_one, imp_self, true_and, and_true, and_self, ob_some, get_mk, lk_cons, ↓reduceIte, Nat.reduceEqDiff, ne_eq, not_true_eq_false, not_false_eq_true, Nat.one_ne_zero, Nat.zero_ne_one, Nat.succ_ne_self, Nat.reduceAdd, Bool.false_eq_true, false_implies, implies_true, reduceCtorEq, devB, cellB, refB, rcellB, rcL, secB, strB, rowP, rnwB]
    refine ⟨⟨by omega, by omega, rfl⟩, rfl, rfl, rfl, ?_⟩
    rw [prs_nil]; rfl
  · rintro ⟨j, C, d⟩ ⟨hj, w⟩
    simp only at hj w
    unfold whI
    simp -implicitDefEqProofs only [go_sem, wlD_eq]
    refine condK_bb (fun c => ?_) (fun c => ?_)
    · have c1 : j < M := by have := of_decide_eq_true c; omega
      have hra := ra1 j (by omega)
      have hrg := hrng j (by omega)
      generalize ops.getD j ⟨0, .empty, .empty, 0, [], 0⟩ = o at hra hrg
      rw [Nat.zero_add] at hra
      generalize hrid : 1000 + 4 * j + 0 = rid at hra
      have hge : 1000 ≤ rid := by omega
      have hw : IntKind.i64.wrap ((j : Int) + 1) = ((j + 1 : Nat) : Int) := by rw [wrap_i64 (by omega) (by omega)]; omega
      obtain ⟨kq, hkq⟩ : ∃ kq : Int, o.u.tmod 10 = kq := ⟨_, rfl⟩
      have hkb : 0 ≤ kq ∧ kq < 10 := by rw [← hkq, Int.tmod_eq_emod_of_nonneg hrg.1.1]; omega
      simp -implicitDefEqProofs only [go_sem, c, hx1, hra, ocell, splice_zero]
      refine ⟨by omega, by omega, ?_⟩
      simp -implicitDefEqProofs only [go_sem, splice_zero]
      by_cases c7 : kq < 7
      · have d7 : decide (kq < 7) = true := decide_eq_true c7
        have hok := w.ok (by decide) (by decide) (by omega)
        have hto := w.to (by decide)
        rw [hkq]
        simp -implicitDefEqProofs only [go_sem, d7]
        by_cases k3 : kq ≤ 2
        · by_cases hp : putE C.now o.nm o.s = 0
          · refine at_call twstep (stepNS (es' := putEs C.now o.nm o.s) (i := 2) (D := 3) (a := 4) (b := 5) (c := 6) (q := 7) (M := 8) (W := 9) (E := 10) (f := 11) (g := 12) (p := 13) (R := 14) (S := 15) (C := C) (d := d) ⟨by rfl, by rfl, by rfl, by rfl, by rfl, by rfl, by rfl, by rfl, by rfl, by rfl, by rfl, by rfl, ⟨_, by rfl⟩, ⟨_, by rfl⟩, by decide, by rfl, by rfl⟩ hge (by decide) hkq w.now (.inl ⟨hkb.1, k3, hp, rfl⟩)) ?_
            unfold woM
            simp -implicitDefEqProofs only [go_sem, hw, d7]
            refine kLoop_mk (j + 1, { C with now := putEs C.now o.nm o.s }, d) ⟨by show j + 1 ≤ M; omega, w.set (w.now.put _ _)⟩ (by show M - (j + 1) < M - j; omega) ?_
            unfold wlD
            refine sub_mk [(4, 17), (5, 18), (6, 19), (8, 20), (9, 21), (11, 22), (12, 23), (14, 24), (15, 15)] rfl rfl rfl ?_
            simp only [tmSub, hpSub, objSub, eqTm, eqHp, rn, lk, SV.ren, SV.renC, SV.renB, SV.renA, ren_ints, ren_strs, ren_pl, ren_svs, SV.v.injEq, Value.int.injEq, Body.ints.injEq, SV.ptr.injEq, SV.sl.injEq, Value.string.injEq, Value.bool.injEq, List.map_cons, List.map_nil, forall_const, Nat.reduceLT, Nat.lt_add_one, imp_self, true_and, and_true, and_self, ob_some, get_mk, lk_cons, ↓reduceIte, Nat.reduceEqDiff, ne_eq, not_true_eq_false, not_false_eq_true, Nat.one_ne_zero, Nat.zero_ne_one, Nat.succ_ne_self, Nat.reduceAdd, Bool.false_eq_true, false_implies, implies_true, reduceCtorEq, devB, cellB, refB, rcellB, rcL, secB, strB, rowP]
            repeat' (first | rfl | exact hw | apply And.intro)
          · refine at_call twstep (stepKS (i := 2) (D := 3) (a := 4) (b := 5) (c := 6) (q := 7) (M := 8) (W := 9) (E := 10) (f := 11) (g := 12) (p := 13) (R := 14) (S := 15) (C := C) (d := d) ⟨by rfl, by rfl, by rfl, by rfl, by rfl, by rfl, by rfl, by rfl, by rfl, by rfl, by rfl, by rfl, ⟨_, by rfl⟩, ⟨_, by rfl⟩, by decide, by rfl, by rfl⟩ hge (by decide) hkq w.pl (by omega) hto hok (.inl ⟨hkb.1, k3, hp⟩)) ?_
            unfold woM
            simp -implicitDefEqProofs only [go_sem, hw, d7]
            refine kLoop_mk (j + 1, C, d) ⟨by show j + 1 ≤ M; omega, w.skip⟩ (by show M - (j + 1) < M - j; omega) ?_
            unfold wlD
            refine sub_mk [(4, 17), (5, 18), (6, 19), (8, 20), (9, 21), (11, 22), (12, 23), (14, 14), (15, 15)] rfl rfl rfl ?_
            simp only [tmSub, hpSub, objSub, eqTm, eqHp, rn, lk, SV.ren, SV.renC, SV.renB, SV.renA, ren_ints, ren_strs, ren_pl, ren_svs, SV.v.injEq, Value.int.injEq, Body.ints.injEq, SV.ptr.injEq, SV.sl.injEq, Value.string.injEq, Value.bool.injEq, List.map_cons, List.map_nil, forall_const, Nat.reduceLT, Nat.lt_add_one, imp_self, true_and, and_true, and_self, ob_some, get_mk, lk_cons, ↓reduceIte, Nat.reduceEqDiff, ne_eq, not_true_eq_false, not_false_eq_true, Nat.one_ne_zero, Nat.zero_ne_one, Nat.succ_ne_self, Nat.reduceAdd, Bool.false_eq_true, false_implies, implies_true, reduceCtorEq, devB, cellB, refB, rcellB, rcL, secB, strB, rowP]
            repeat' (first | rfl | exact hw | apply And.intro)
        by_cases k4 : kq = 3
        · refine at_call twstep (stepNS (es' := dlS C.now o.nm) (i := 2) (D := 3) (a := 4) (b := 5) (c := 6) (q := 7) (M := 8) (W := 9) (E := 10) (f := 11) (g := 12) (p := 13) (R := 14) (S := 15) (C := C) (d := d) ⟨by rfl, by rfl, by rfl, by rfl, by rfl, by rfl, by rfl, by rfl, by rfl, by rfl, by rfl, by rfl, ⟨_, by rfl⟩, ⟨_, by rfl⟩, by decide, by rfl, by rfl⟩ hge (by decide) hkq w.now (.inr ⟨k4, rfl⟩)) ?_
          unfold woM
          simp -implicitDefEqProofs only [go_sem, hw, d7]
          refine kLoop_mk (j + 1, { C with now := dlS C.now o.nm }, d) ⟨by show j + 1 ≤ M; omega, w.set (w.now.drop _)⟩ (by show M - (j + 1) < M - j; omega) ?_
          unfold wlD
          refine sub_mk [(4, 17), (5, 18), (6, 19), (8, 20), (9, 21), (11, 22), (12, 23), (14, 24), (15, 15)] rfl rfl rfl ?_
          simp only [tmSub, hpSub, objSub, eqTm, eqHp, rn, lk, SV.ren, SV.renC, SV.renB, SV.renA, ren_ints, ren_strs, ren_pl, ren_svs, SV.v.injEq, Value.int.injEq, Body.ints.injEq, SV.ptr.injEq, SV.sl.injEq, Value.string.injEq, Value.bool.injEq, List.map_cons, List.map_nil, forall_const, Nat.reduceLT, Nat.lt_add_one, imp_self, true_and, and_true, and_self, ob_some, get_mk, lk_cons, ↓reduceIte, Nat.reduceEqDiff, ne_eq, not_true_eq_false, not_false_eq_true, Nat.one_ne_zero, Nat.zero_ne_one, Nat.succ_ne_self, Nat.reduceAdd, Bool.false_eq_true, false_implies, implies_true, reduceCtorEq, devB, cellB, refB, rcellB, rcL, secB, strB, rowP]
          repeat' (first | rfl | exact hw | apply And.intro)
        by_cases k5 : kq = 4
        · subst k5
          refine at_call twstep (stepUS (i := 2) (D := 3) (a := 4) (b := 5) (c := 6) (q := 7) (M := 8) (W := 9) (E := 10) (f := 11) (g := 12) (p := 13) (R := 14) (S := 15) (C := C) (d := d) ⟨by rfl, by rfl, by rfl, by rfl, by rfl, by rfl, by rfl, by rfl, by rfl, by rfl, by rfl, by rfl, ⟨_, by rfl⟩, ⟨_, by rfl⟩, by decide, by rfl, by rfl⟩ hge (by decide) hkq) ?_
          unfold woM
          simp -implicitDefEqProofs only [go_sem, hw, d7]
          refine kLoop_mk (j + 1, { C with now := C.was }, d) ⟨by show j + 1 ≤ M; omega, w.set w.was⟩ (by show M - (j + 1) < M - j; omega) ?_
          unfold wlD
          refine sub_mk [(4, 17), (5, 18), (6, 19), (8, 20), (9, 21), (11, 22), (12, 23), (14, 15), (15, 15)] rfl rfl rfl ?_
          simp only [tmSub, hpSub, objSub, eqTm, eqHp, rn, lk, SV.ren, SV.renC, SV.renB, SV.renA, ren_ints, ren_strs, ren_pl, ren_svs, SV.v.injEq, Value.int.injEq, Body.ints.injEq, SV.ptr.injEq, SV.sl.injEq, Value.string.injEq, Value.bool.injEq, List.map_cons, List.map_nil, forall_const, Nat.reduceLT, Nat.lt_add_one, imp_self, true_and, and_true, and_self, ob_some, get_mk, lk_cons, ↓reduceIte, Nat.reduceEqDiff, ne_eq, not_true_eq_false, not_false_eq_true, Nat.one_ne_zero, Nat.zero_ne_one, Nat.succ_ne_self, Nat.reduceAdd, Bool.false_eq_true, false_implies, implies_true, reduceCtorEq, devB, cellB, refB, rcellB, rcL, secB, strB, rowP]
          repeat' (first | rfl | exact hw | apply And.intro)
        rcases w.commit (by decide) (by decide) (by omega) with hq | ⟨C', d', hq, rfl, w', _⟩
        · refine at_call twstep (stepKS (i := 2) (D := 3) (a := 4) (b := 5) (c := 6) (q := 7) (M := 8) (W := 9) (E := 10) (f := 11) (g := 12) (p := 13) (R := 14) (S := 15) (C := C) (d := d) ⟨by rfl, by rfl, by rfl, by rfl, by rfl, by rfl, by rfl, by rfl, by rfl, by rfl, by rfl, by rfl, ⟨_, by rfl⟩, ⟨_, by rfl⟩, by decide, by rfl, by rfl⟩ hge (by decide) hkq w.pl (by omega) hto hok (.inr ⟨by omega, by omega, hq⟩)) ?_
          unfold woM
          simp -implicitDefEqProofs only [go_sem, hw, d7]
          refine kLoop_mk (j + 1, C, d) ⟨by show j + 1 ≤ M; omega, w.skip⟩ (by show M - (j + 1) < M - j; omega) ?_
          unfold wlD
          refine sub_mk [(4, 17), (5, 18), (6, 19), (8, 20), (9, 21), (11, 22), (12, 23), (14, 14), (15, 15)] rfl rfl rfl ?_
          simp only [tmSub, hpSub, objSub, eqTm, eqHp, rn, lk, SV.ren, SV.renC, SV.renB, SV.renA, ren_ints, ren_strs, ren_pl, ren_svs, SV.v.injEq, Value.int.injEq, Body.ints.injEq, SV.ptr.injEq, SV.sl.injEq, Value.string.injEq, Value.bool.injEq, List.map_cons, List.map_nil, forall_const, Nat.reduceLT, Nat.lt_add_one, imp_self, true_and, and_true, and_self, ob_some, get_mk, lk_cons, ↓reduceIte, Nat.reduceEqDiff, ne_eq, not_true_eq_false, not_false_eq_true, Nat.one_ne_zero, Nat.zero_ne_one, Nat.succ_ne_self, Nat.reduceAdd, Bool.false_eq_true, false_implies, implies_true, reduceCtorEq, devB, cellB, refB, rcellB, rcL, secB, strB, rowP]
          repeat' (first | rfl | exact hw | apply And.intro)
        · refine at_call twstep (stepCS (i := 2) (D := 3) (a := 4) (b := 5) (c := 6) (q := 7) (M := 8) (W := 9) (E := 10) (f := 11) (g := 12) (p := 13) (R := 14) (S := 15) (C := C) (d := d) ⟨by rfl, by rfl, by rfl, by rfl, by rfl, by rfl, by rfl, by rfl, by rfl, by rfl, by rfl, by rfl, ⟨_, by rfl⟩, ⟨_, by rfl⟩, by decide, by rfl, by rfl⟩ hge (by decide) hkq w.pl (by omega) hto hok ⟨by omega, by omega⟩ hq) ?_
          unfold woM
          simp -implicitDefEqProofs only [go_sem, hw, d7]
          refine kLoop_mk (j + 1, { C with last := 1 - C.last, num := C.num + 1, was := C.now }, d') ⟨by show j + 1 ≤ M; omega, w'⟩ (by show M - (j + 1) < M - j; omega) ?_
          unfold wlD
          refine sub_mk [(4, 17), (5, 18), (6, 19), (8, 20), (9, 21), (11, 22), (12, 23), (14, 14), (15, 14)] rfl rfl rfl ?_
          simp only [tmSub, hpSub, objSub, eqTm, eqHp, rn, lk, SV.ren, SV.renC, SV.renB, SV.renA, ren_ints, ren_strs, ren_pl, ren_svs, SV.v.injEq, Value.int.injEq, Body.ints.injEq, SV.ptr.injEq, SV.sl.injEq, Value.string.injEq, Value.bool.injEq, List.map_cons, List.map_nil, forall_const, Nat.reduceLT, Nat.lt_add_one, imp_self, true_and, and_true, and_self, ob_some, get_mk, lk_cons, ↓reduceIte, Nat.reduceEqDiff, ne_eq, not_true_eq_false, not_false_eq_true, Nat.one_ne_zero, Nat.zero_ne_one, Nat.succ_ne_self, Nat.reduceAdd, Bool.false_eq_true, false_implies, implies_true, reduceCtorEq, devB, cellB, refB, rcellB, rcL, secB, strB, rowP]
          repeat' (first | rfl | exact hw | apply And.intro)
      · have d7 : decide (kq < 7) = false := decide_eq_false c7
        rw [hkq]
        simp -implicitDefEqProofs only [go_sem, d7, hw]
        refine kLoop_mk (j + 1, C, d) ⟨by show j + 1 ≤ M; omega, w.skip⟩ (by show M - (j + 1) < M - j; omega) ?_
        unfold wlD
        refine sub_mk [] rfl rfl rfl ?_
        simp only [tmSub, hpSub, objSub, eqTm, eqHp, rn, lk, SV.ren, SV.renC, SV.renB, SV.renA, ren_ints, ren_strs, ren_pl, ren_svs, SV.v.injEq, Value.int.injEq, Body.ints.injEq, SV.ptr.injEq, SV.sl.injEq, Value.string.injEq, Value.bool.injEq, List.map_cons, List.map_nil, forall_const, Nat.reduceLT, Nat.lt_add_one, imp_self, true_and, and_true, and_self, ob_some, get_mk, lk_cons, ↓reduceIte, Nat.reduceEqDiff, ne_eq, not_true_eq_false, not_false_eq_true, Nat.one_ne_zero, Nat.zero_ne_one, Nat.succ_ne_self, Nat.reduceAdd, Bool.false_eq_true, false_implies, implies_true, reduceCtorEq, devB, cellB, refB, rcellB, rcL, secB, strB, rowP]
        repeat' (first | rfl | exact hw | apply And.intro)
    · have c1 : j = M := by have := of_decide_eq_false c; omega
      unfold rcellB rcL
      simp -implicitDefEqProofs only [go_sem, c]
      refine at_call tCNumber (numS' (C := C) (i := 7) (D := 3) (M := 8) (W := 9) (by rfl) rfl) ?_
      have k1 : IntKind.i64.wrap (fl.tmod 16) = fl % 16 := by rw [Int.tmod_eq_emod_of_nonneg hf.1, wrap_i64 (by omega) (by omega)]
      simp -implicitDefEqProofs only [go_sem, k1]
      obtain ⟨e, C', d2, hq, hP2, hcase⟩ := w.cut (ks := (zs.drop 0).take m2) (k := fl % 16) (by decide) (by decide) (by omega) (by omega)
      have hok := w.ok (by decide) (by decide) (by omega)
      have hP1 : Pl { d with fa := max (fl % 16) 0 } 20 (200 * j + 1) := w.pl.fall (by omega)
      refine at_call tFFall (faG (i := 3) (a := 4) (b := 5) (c := 6) (d := d) (k := fl % 16) ⟨by rfl, by rfl, by rfl, by rfl, by decide⟩ rfl) ?_
      simp -implicitDefEqProofs only [go_sem]
      refine at_call tCCommit (commitS (C := C) (d := { d with fa := max (fl % 16) 0 }) (i := 7) (D := 3) (a := 4) (b := 5) (c := 6) (M := 8) (W := 9) ⟨by rfl, by rfl, by rfl, by rfl, by rfl, by rfl, by rfl, by decide, by rfl, by rfl⟩ hok hP1 (by omega) (by decide) hq) ?_
      simp -implicitDefEqProofs only [go_sem]
      have hrow : ∀ l : List (Nat × Option SO), lk l 1007 = none → rowAt ⟨l, x⟩ 1007 (.ints .i64 []) = some (.ints .i64 zs) := fun l hl => by
        unfold rowAt Hp.get
        rw [hl, if_neg (by decide)]
        simp only [hx2]; rfl
      refine at_call tFCrash (crW (i := 3) (a := 16) (b := 17) (c := 18) (r := 1007) (o := 0) (m := m2) (row := zs) (d := d2) ⟨by rfl, by rfl, by rfl, by rfl, by decide⟩ hP2.ok (by rw [hP2.len]; decide) (by omega) (hrow _ rfl) (by decide) (by decide) rfl) ?_
      have hP3 : Pl (crD d2 ((zs.drop 0).take m2)) 20 (200 * j + 201) := hP2.cr
      have ho3 : (crD d2 ((zs.drop 0).take m2)).off = false := rfl
      generalize crD d2 ((zs.drop 0).take m2) = d3 at hP3 ho3 hcase ⊢
      have n1 : decide ((C.num : Int) = (C.num : Int)) = true := decide_eq_true rfl
      have w1 : IntKind.i64.wrap ((C.num : Int) + 1) = ((C.num + 1 : Nat) : Int) := by have := w.num; rw [wrap_i64 (by omega) (by omega)]; omega
      have n2 : decide (((C.num + 1 : Nat) : Int) = ((C.num + 1 : Nat) : Int)) = true := decide_eq_true rfl
      have n3 : decide (((C.num + 1 : Nat) : Int) = (C.num : Int)) = false := decide_eq_false (by omega)
      simp -implicitDefEqProofs only [go_sem]
      rcases hcase with ⟨rfl, e1, hR⟩ | ⟨rfl, rfl, hR⟩ | ⟨rfl, rfl, hR⟩
      · rw [e1]
        refine at_call tCOpen (openR (B := 2) (h := 8) (i := 3) (a := 20) (b := 17) (c := 21) (d := d3) ⟨by rfl, by rfl, by rfl, by rfl, by decide⟩ (by decide) (by decide) hP3.ok ho3 (by rw [hP3.len]; decide) hR rfl (by decide)) ?_
        simp -implicitDefEqProofs only [go_sem]
        refine at_call twsame (sameS (C := ⟨2, 8, C.num, C.last, false, srtE C.was, srtE C.was⟩) (d := d3) (i := 22) (D := 3) (a := 20) (b := 17) (c := 21) (M := 23) (W := 24) (q := 15) (P := prs C.was) (r := true) ⟨by rfl, by rfl, by rfl, by rfl, by rfl, by rfl, by rfl, by decide, by rfl, by rfl⟩ (by rfl) (by decide) w.was.srt (by rw [prs_len]; exact w.was.len) prs_len.symm ⟨fun _ => prs_srt w.was, fun _ => rfl⟩) ?_
        simp -implicitDefEqProofs only [go_sem]
        refine at_call tCNumber (numS' (C := ⟨2, 8, C.num, C.last, false, srtE C.was, srtE C.was⟩) (i := 22) (D := 3) (M := 23) (W := 24) (by rfl) rfl) ?_
        simp -implicitDefEqProofs only [go_sem, n1]
        refine sub_mk [] rfl rfl rfl ?_
        simp only [tmSub, hpSub, objSub, eqTm, eqHp, rn, lk, SV.ren, SV.renC, SV.renB, SV.renA, ren_ints, ren_strs, ren_pl, ren_svs, SV.v.injEq, Value.int.injEq, Body.ints.injEq, SV.ptr.injEq, SV.sl.injEq, Value.string.injEq, Value.bool.injEq, List.map_cons, List.map_nil, forall_const, Nat.reduceLT, Nat.lt_add_one, imp_self, true_and, and_true, and_self, ob_some, get_mk, lk_cons, ↓reduceIte, Nat.reduceEqDiff, ne_eq, not_true_eq_false, not_false_eq_true, Nat.one_ne_zero, Nat.zero_ne_one, Nat.succ_ne_self, Nat.reduceAdd, Bool.false_eq_true, false_implies, implies_true, reduceCtorEq]
      · refine at_call tCOpen (openR (B := 2) (h := 8) (i := 3) (a := 20) (b := 17) (c := 21) (d := d3) ⟨by rfl, by rfl, by rfl, by rfl, by decide⟩ (by decide) (by decide) hP3.ok ho3 (by rw [hP3.len]; decide) hR rfl (by decide)) ?_
        simp -implicitDefEqProofs only [go_sem]
        refine at_call twsame (sameS (C := ⟨2, 8, C.num + 1, 1 - C.last, false, srtE C.now, srtE C.now⟩) (d := d3) (i := 22) (D := 3) (a := 20) (b := 17) (c := 21) (M := 23) (W := 24) (q := 14) (P := prs C.now) (r := true) ⟨by rfl, by rfl, by rfl, by rfl, by rfl, by rfl, by rfl, by decide, by rfl, by rfl⟩ (by rfl) (by decide) w.now.srt (by rw [prs_len]; exact w.now.len) prs_len.symm ⟨fun _ => prs_srt w.now, fun _ => rfl⟩) ?_
        simp -implicitDefEqProofs only [go_sem]
        refine at_call tCNumber (numS' (C := ⟨2, 8, C.num + 1, 1 - C.last, false, srtE C.now, srtE C.now⟩) (i := 22) (D := 3) (M := 23) (W := 24) (by rfl) rfl) ?_
        simp -implicitDefEqProofs only [go_sem, w1, n2]
        refine sub_mk [] rfl rfl rfl ?_
        simp only [tmSub, hpSub, objSub, eqTm, eqHp, rn, lk, SV.ren, SV.renC, SV.renB, SV.renA, ren_ints, ren_strs, ren_pl, ren_svs, SV.v.injEq, Value.int.injEq, Body.ints.injEq, SV.ptr.injEq, SV.sl.injEq, Value.string.injEq, Value.bool.injEq, List.map_cons, List.map_nil, forall_const, Nat.reduceLT, Nat.lt_add_one, imp_self, true_and, and_true, and_self, ob_some, get_mk, lk_cons, ↓reduceIte, Nat.reduceEqDiff, ne_eq, not_true_eq_false, not_false_eq_true, Nat.one_ne_zero, Nat.zero_ne_one, Nat.succ_ne_self, Nat.reduceAdd, Bool.false_eq_true, false_implies, implies_true, reduceCtorEq]
      · rcases hR with hR | hR
        · refine at_call tCOpen (openR (B := 2) (h := 8) (i := 3) (a := 20) (b := 17) (c := 21) (d := d3) ⟨by rfl, by rfl, by rfl, by rfl, by decide⟩ (by decide) (by decide) hP3.ok ho3 (by rw [hP3.len]; decide) hR rfl (by decide)) ?_
          simp -implicitDefEqProofs only [go_sem]
          have hqd : coR { C with dead := true } d3 = (7, { C with dead := true }, d3) := if_pos rfl
          have hokd : ({ C with dead := true } : Ce).ok := ⟨hok.now, hok.was, hok.half, hok.base, hok.last, hok.num⟩
          refine at_call tCCommit (commitS (C := { C with dead := true }) (d := d3) (i := 7) (D := 3) (a := 20) (b := 17) (c := 21) (M := 8) (W := 19) ⟨by rfl, by rfl, by rfl, by rfl, by rfl, by rfl, by rfl, by decide, by rfl, by rfl⟩ hokd hP3 (by omega) (by decide) hqd) ?_
          simp -implicitDefEqProofs only [go_sem]
          by_cases hs : prs (srtE C.now) = prs C.was
          · refine at_call twsame (sameS (C := ⟨2, 8, C.num + 1, 1 - C.last, false, srtE C.now, srtE C.now⟩) (d := d3) (i := 22) (D := 3) (a := 25) (b := 26) (c := 27) (M := 23) (W := 24) (q := 15) (P := prs C.was) (r := true) ⟨by rfl, by rfl, by rfl, by rfl, by rfl, by rfl, by rfl, by decide, by rfl, by rfl⟩ (by rfl) (by decide) w.now.srt (by rw [prs_len]; exact w.was.len) prs_len.symm ⟨fun _ => hs, fun _ => rfl⟩) ?_
            simp -implicitDefEqProofs only [go_sem]
            refine at_call tCNumber (numS' (C := ⟨2, 8, C.num + 1, 1 - C.last, false, srtE C.now, srtE C.now⟩) (i := 22) (D := 3) (M := 23) (W := 24) (by rfl) rfl) ?_
            simp -implicitDefEqProofs only [go_sem, n3]
            refine at_call twsame (sameS (C := ⟨2, 8, C.num + 1, 1 - C.last, false, srtE C.now, srtE C.now⟩) (d := d3) (i := 22) (D := 3) (a := 25) (b := 26) (c := 27) (M := 23) (W := 24) (q := 14) (P := prs C.now) (r := true) ⟨by rfl, by rfl, by rfl, by rfl, by rfl, by rfl, by rfl, by decide, by rfl, by rfl⟩ (by rfl) (by decide) w.now.srt (by rw [prs_len]; exact w.now.len) prs_len.symm ⟨fun _ => prs_srt w.now, fun _ => rfl⟩) ?_
            simp -implicitDefEqProofs only [go_sem]
            refine at_call tCNumber (numS' (C := ⟨2, 8, C.num + 1, 1 - C.last, false, srtE C.now, srtE C.now⟩) (i := 22) (D := 3) (M := 23) (W := 24) (by rfl) rfl) ?_
            simp -implicitDefEqProofs only [go_sem, w1, n2]
            refine sub_mk [] rfl rfl rfl ?_
            simp only [tmSub, hpSub, objSub, eqTm, eqHp, rn, lk, SV.ren, SV.renC, SV.renB, SV.renA, ren_ints, ren_strs, ren_pl, ren_svs, SV.v.injEq, Value.int.injEq, Body.ints.injEq, SV.ptr.injEq, SV.sl.injEq, Value.string.injEq, Value.bool.injEq, List.map_cons, List.map_nil, forall_const, Nat.reduceLT, Nat.lt_add_one, imp_self, true_and, and_true, and_self, ob_some, get_mk, lk_cons, ↓reduceIte, Nat.reduceEqDiff, ne_eq, not_true_eq_false, not_false_eq_true, Nat.one_ne_zero, Nat.zero_ne_one, Nat.succ_ne_self, Nat.reduceAdd, Bool.false_eq_true, false_implies, implies_true, reduceCtorEq]
          · refine at_call twsame (sameS (C := ⟨2, 8, C.num + 1, 1 - C.last, false, srtE C.now, srtE C.now⟩) (d := d3) (i := 22) (D := 3) (a := 25) (b := 26) (c := 27) (M := 23) (W := 24) (q := 15) (P := prs C.was) (r := false) ⟨by rfl, by rfl, by rfl, by rfl, by rfl, by rfl, by rfl, by decide, by rfl, by rfl⟩ (by rfl) (by decide) w.now.srt (by rw [prs_len]; exact w.was.len) prs_len.symm ⟨fun h => (by cases h), fun h => absurd h hs⟩) ?_
            simp -implicitDefEqProofs only [go_sem]
            refine at_call twsame (sameS (C := ⟨2, 8, C.num + 1, 1 - C.last, false, srtE C.now, srtE C.now⟩) (d := d3) (i := 22) (D := 3) (a := 25) (b := 26) (c := 27) (M := 23) (W := 24) (q := 14) (P := prs C.now) (r := true) ⟨by rfl, by rfl, by rfl, by rfl, by rfl, by rfl, by rfl, by decide, by rfl, by rfl⟩ (by rfl) (by decide) w.now.srt (by rw [prs_len]; exact w.now.len) prs_len.symm ⟨fun _ => prs_srt w.now, fun _ => rfl⟩) ?_
            simp -implicitDefEqProofs only [go_sem]
            refine at_call tCNumber (numS' (C := ⟨2, 8, C.num + 1, 1 - C.last, false, srtE C.now, srtE C.now⟩) (i := 22) (D := 3) (M := 23) (W := 24) (by rfl) rfl) ?_
            simp -implicitDefEqProofs only [go_sem, w1, n2]
            refine sub_mk [] rfl rfl rfl ?_
            simp only [tmSub, hpSub, objSub, eqTm, eqHp, rn, lk, SV.ren, SV.renC, SV.renB, SV.renA, ren_ints, ren_strs, ren_pl, ren_svs, SV.v.injEq, Value.int.injEq, Body.ints.injEq, SV.ptr.injEq, SV.sl.injEq, Value.string.injEq, Value.bool.injEq, List.map_cons, List.map_nil, forall_const, Nat.reduceLT, Nat.lt_add_one, imp_self, true_and, and_true, and_self, ob_some, get_mk, lk_cons, ↓reduceIte, Nat.reduceEqDiff, ne_eq, not_true_eq_false, not_false_eq_true, Nat.one_ne_zero, Nat.zero_ne_one, Nat.succ_ne_self, Nat.reduceAdd, Bool.false_eq_true, false_implies, implies_true, reduceCtorEq]
        · refine at_call tCOpen (openR (B := 2) (h := 8) (i := 3) (a := 20) (b := 17) (c := 21) (d := d3) ⟨by rfl, by rfl, by rfl, by rfl, by decide⟩ (by decide) (by decide) hP3.ok ho3 (by rw [hP3.len]; decide) hR rfl (by decide)) ?_
          simp -implicitDefEqProofs only [go_sem]
          have hqd : coR { C with dead := true } d3 = (7, { C with dead := true }, d3) := if_pos rfl
          have hokd : ({ C with dead := true } : Ce).ok := ⟨hok.now, hok.was, hok.half, hok.base, hok.last, hok.num⟩
          refine at_call tCCommit (commitS (C := { C with dead := true }) (d := d3) (i := 7) (D := 3) (a := 20) (b := 17) (c := 21) (M := 8) (W := 19) ⟨by rfl, by rfl, by rfl, by rfl, by rfl, by rfl, by rfl, by decide, by rfl, by rfl⟩ hokd hP3 (by omega) (by decide) hqd) ?_
          simp -implicitDefEqProofs only [go_sem]
          refine at_call twsame (sameS (C := ⟨2, 8, C.num, C.last, false, srtE C.was, srtE C.was⟩) (d := d3) (i := 22) (D := 3) (a := 25) (b := 26) (c := 27) (M := 23) (W := 24) (q := 15) (P := prs C.was) (r := true) ⟨by rfl, by rfl, by rfl, by rfl, by rfl, by rfl, by rfl, by decide, by rfl, by rfl⟩ (by rfl) (by decide) w.was.srt (by rw [prs_len]; exact w.was.len) prs_len.symm ⟨fun _ => prs_srt w.was, fun _ => rfl⟩) ?_
          simp -implicitDefEqProofs only [go_sem]
          refine at_call tCNumber (numS' (C := ⟨2, 8, C.num, C.last, false, srtE C.was, srtE C.was⟩) (i := 22) (D := 3) (M := 23) (W := 24) (by rfl) rfl) ?_
          simp -implicitDefEqProofs only [go_sem, n1]
          refine sub_mk [] rfl rfl rfl ?_
          simp only [tmSub, hpSub, objSub, eqTm, eqHp, rn, lk, SV.ren, SV.renC, SV.renB, SV.renA, ren_ints, ren_strs, ren_pl, ren_svs, SV.v.injEq, Value.int.injEq, Body.ints.injEq, SV.ptr.injEq, SV.sl.injEq, Value.string.injEq, Value.bool.injEq, List.map_cons, List.map_nil, forall_const, Nat.reduceLT, Nat.lt_add_one, imp_self, true_and, and_true, and_self, ob_some, get_mk, lk_cons, ↓reduceIte, Nat.reduceEqDiff, ne_eq, not_true_eq_false, not_false_eq_true, Nat.one_ne_zero, Nat.zero_ne_one, Nat.succ_ne_self, Nat.reduceAdd, Bool.false_eq_true, false_implies, implies_true, reduceCtorEq]
end
end Go.Sx
/- Cells: a fate that came in. -/
set_option linter.unusedVariables false
set_option linter.unusedSimpArgs false
set_option maxRecDepth 100000
namespace Go.Sx
open Go.Proofs Go.ChangeShapes Go.WideShapes Go.ChangeAt Go.RowKit Go.Deep
variable {H : Type} {enc : TypeId × Value → H} {W : World}
theorem fate_val {b0 : Nat} {v : Value} {d : DataW H} {ps : List MemPlace} (hval : Value.okWide Tryz.prog W .any b0 25 v) (h : DataW.Trod enc Tryz.prog W 0 (fun _ => true) true 25 v d ps) :
    ∃ (kv : Value) (l : Loc) (zs : List Int) (m : Nat), v = .agg #[kv] ∧ KV W l zs m kv := by
  obtain ⟨cs, rfl, hsz⟩ := okWide_struct Tryz.underlying25 hval
  obtain ⟨fuel, h⟩ := h
  obtain ⟨kv, n, y, e, hk⟩ := fate_cells (show DataW.trod enc Tryz.prog W 0 (fun _ => true) true fuel 25 cs.toList = some (d, ps) from h)
  obtain ⟨l, zs, m, hkv⟩ := in_kv hk
  exact ⟨kv, l, zs, m, by cases cs; simp only at e; rw [e], hkv⟩
theorem rel_argrow' {lfA : Nat → Nat → Loc} {lr : Nat → Loc} {o m z : Nat} {v : Value} (j : Nat) (h : slrel (lr j) o m z v) : slrel (argR lfA lr (1003 + 4 * j)) o m z v := by rw [argR_row]; exact h
end Go.Sx
