/- Boot: the document's example. -/
import Derived.Test.YtjjnmdpppcmmfaaGreatDoorBtL
import Derived.Test.YtjjnmdpppcmmfaaGreatDoorRows
import Derived.Lib.LaidTab

set_option linter.unusedVariables false
set_option linter.unusedSimpArgs false
set_option maxRecDepth 100000
namespace Go.Sx
attribute [local go_sem ↓] bind_mk intsB_mk strsB_mk svB_mk fnVC ob_some vc_skip vc_exit vc_ret vc_seq vc_block kSeq_normal kSeq_exit kSeq_ret kBlock_normal kBlock_exit kBlock_ret vc_reg vc_regD vc_cond condK_true condK_false vc_loop kLoop_exit kLoop_ret kRoll_normal kRoll_exit kRoll_ret vcOps_nil vcOps_cons gd_bool gd_undef put_some put_none vcT_fin vcT_pure vcT_act vcT_acts vcT_stop stab_none stab_some stabM_nil stabM_cons stabO_ld stabO_ldn stabO_slP stabO_b2s fldOf_ai fldOf_agg fldOf_ait fldOf_aggt intsOf_nil intsOf_cons strsOf_nil strsOf_cons c_omap ob_if lk_nil lk_cons ev_t ev_k z_mov z_pick z_bin z_binA z_binB z_binP z_un z_r2s z_conv z_s2b z_b2s z_mkM z_luM z_upM z_lenM lenMk_mp lenMk_nil plsOf_v z_delM asM_so plV_v plV_agg mpOf_mp mpOf_nil mpUp_mp asM_mp luV_ok luV_v z_allocT aggOf_mk z_boxT z_alloc z_bld z_bldI z_rowI z_rowS z_ld z_ldn z_st z_stn asN_ptr asN_fn z_nilck z_fld z_fadr z_idxA z_idxP z_idxS z_idxV z_slS z_slL z_slP z_mk z_lenS z_lenL z_app appC_ints appC_pl appC_sv appC_strs isS_strs loose_ints loose_pl loose_sv z_slM z_callv callvK_fn callvK_f callvK_yl vc_rangeF rfEnd_eq rfGo_none rfGo_ret rfGo_exit yGo_mk yEnd_n yEnd_r yEnd_e yRdy_mk yMid_n putPs_nil putPs_cons leaf_v leaf_ptr leaf_sl leaf_yl leaf_mp z_appS z_appST z_appZ z_cpyS z_mkfn reps_int reps_str z_rowV z_slnil nilK_zero z_cpy z_call asT_tup z_extT z_box boxOf_ai boxOf_agg boxOf_int boxOf_str boxOf_bool boxOf_ptr boxOf_sl sbin_int sbin_str sbinA_mk ae_nil ae_int ae_str sbinB_mk sbinP_nn sbinP_pn sbinP_np i_add i_sub i_mul i_quo i_rem i_and i_or i_xor i_andNot i_shl i_shr i_eql i_neq i_lss i_leq i_gtr i_geq st_add st_eql st_neq st_lss st_leq st_gtr st_geq bo_eql bo_neq pt_eql pt_neq un_neg un_xor un_not asI_mk asB_mk asS_mk asP_mk asSl_mk asBy_mk bnd_none bnd_some get_mk hput_mk hdel_mk kill_eq wrOf_eq rowOf_eq rsvs_0 rsvs_1 rsvs_2 rsvs_3 rsv_t rsv_c1 rsv_cn nt_v nt_ptr nt_sl nt_agg nt_ai get_ints get_strs get_pl get_sv getN_ints getN_sv set_ints set_strs set_sv setN_ints setN_sv part_ints part_strs part_sv cat_ints cat_strs cat_sv over_ints over_strs over_sv ones_ints ones_strs evs_nil evs_cons condK_eqt condK_eqf det_callP V_ns V_nn V_gs V_gn obC_mk fresh_ev freshT_ev freshR_ev setN_plagg setN_intsv setN_svai setN_svagg over_intsv set_pl setN_pl setN_plai getN_pl getN_strs part_pl cat_pl over_pl over_plints z_mm
attribute [local go_sem] initTm ne_eq not_true_eq_false not_false_eq_true true_and and_true List.length_cons List.length_nil Int.toNat_natCast Nat.add_zero Nat.zero_add Nat.mul_one List.getElem?_cons_zero List.drop_zero List.take_length List.take_succ_cons List.take_zero List.take_nil List.drop_succ_cons Option.map_some Nat.le_refl implies_true List.getElem?_cons_succ decide_true decide_false Bool.not_true Bool.not_false beq_self_eq_true Nat.succ_ne_self Nat.one_ne_zero Nat.zero_ne_one vk_mk hk_mk nk_mk tok_eq plsOf_map intsOf_map bodyOf_pl bodyOf_ints bodyOf_strs bodyOf_sv part_aggv part_agg part_ai part_int part_str part_bool part_sl part_ptr part_nil numsOf_map u_int u_str u_bool u_pnil u_sl u_ptr u_oci u_ocs evq_nil evq_cons fillS_nil fillS_cons u_ocb ones_pl cells_sv cells_ints cells_strs cells_pl smms_nil smms_cons smm_min smm_max plsOf_nil List.nil_append List.all_cons List.all_nil Bool.and_self Bool.true_and Bool.and_true zws_len zw_len zi_len List.set_cons_zero List.set_cons_succ List.flatMap_cons List.flatMap_nil List.append_nil
attribute [local go_sem_proc] Nat.reduceEqDiff Nat.reduceAdd Nat.reduceMul Nat.reduceLT Nat.reduceLeDiff Nat.reduceSub Int.reduceToNat Int.reduceLE Int.reduceLT reduceCtorEq Int.reduceEq Int.reduceGT Int.reduceGE Int.reduceNeg
attribute [local go_sem_proc ↓] reduceIte
section
open Go.Proofs
variable {H : Hp} {n : Nat} {x : Nat → Option SO} {i q s D M W a b c : Nat} {d d' : Fd} {C C' : Ce} {T : Bt}
theorem stateS' {k : Sq} (h : BtAt H T i q s D a b c M W) (hE : Es T.C.now) (hx : NoX H.x) (hk : stQ T.C.now = k) : SpecAt Tryz.prog nBState [.ptr i 0] H n (sqV k) H n := by subst hk; exact stateS h hE hx
instance {k : Sq} : Decidable (SqOK k) := by unfold SqOK; infer_instance
theorem itE_ok {k : Sq} {v r : Nat} {I : ByteArray} {tries : Int} (h1 : 0 ≤ k.cf) (h2 : 1 ≤ tries ∧ tries ≤ 8) (h4 : k.fl < v) (h5 : v < 256) (h6 : 1 ≤ I.size ∧ I.size ≤ 8192 ∧ I.size ≤ r * 64) : itE k v I tries r = 0 := by
  unfold itE
  rw [if_neg (by omega), if_neg (by omega), if_neg (by omega), if_neg (by omega), if_neg (by rw [seq_nemp (by omega)]; simp; omega), if_neg (by omega)]
theorem BI.new {m h r : Nat} (hm : m ≤ 4096) (hh : 2 ≤ h ∧ h ≤ 129) (hr : 1 ≤ r ∧ r ≤ 128) (hl : 2 * h + 2 * (1 + r) ≤ m) : BI (opnT 0 h r 0 1 [] (newD m)) m 0 0 := by
  have g : GoodP true m 0 (List.replicate m (zi 64)) [] (newD m) := goodNew
  have e1 : 0 + 2 * h ≤ 4096 := by omega
  have e2 : (0 + 2 * h) + 2 * (1 + r) ≤ m := by omega
  have e3 : 0 + 2 * h ≤ m := by omega
  refine ⟨⟨0, g⟩, Reg.new e3 (show 1 ≤ h by omega), rfl, ⟨⟨Es.nil, Es.nil, hh, Nat.zero_le _, Nat.le_refl _, Nat.zero_lt_succ _⟩, Pl.new hm, by decide, e1, hr.2, e2, e3⟩, rfl, Nat.le_refl _⟩
theorem opn_P {m h r : Nat} (hr : 1 ≤ r ∧ r ≤ 128) (hl : 2 * h + 2 * (1 + r) ≤ m) : Sl.opP (newD m).seen.length ((0 + 2 * h : Nat) : Int) r := by
  have : (newD m).seen.length = m := by simp [newD]
  unfold Sl.opP; rw [this]; omega
theorem bnwS {m h r : Nat} (hD : DevAt H (newD m) i a b c) (hm : m ≤ 4096) (hh : 2 ≤ h ∧ h ≤ 129) (hr : 1 ≤ r ∧ r ≤ 128) (hl : 2 * h + 2 * (1 + r) ≤ m) (hn : n + 5 ≤ 1000) {T : Bt} (hT : opnT 0 h r 0 1 [] (newD m) = T) :
    SpecAt Tryz.prog nBOpen [.ptr i 0, .v (.int .i64 0), .v (.int .i64 h), .v (.int .i64 r)] H n (.tup [.ptr n 0, .v (.int .i64 0)]) ⟨devL T.d i a b c ((n, some ⟨true, btB T (n + 1) (n + 2)⟩) :: (n + 1, some ⟨true, cellB T.C i (n + 3) (n + 4)⟩) :: (n + 2, some ⟨true, Sl.slB i T.bs T.r⟩) :: (n + 3, some ⟨true, .mp (.map T.C.now)⟩) :: (n + 4, some ⟨true, .mp (.map T.C.was)⟩) :: H.l), H.x⟩ (n + 5) := by
  subst hT
  exact bopenS (B := 0) (N := 0) (L := 1) hD (by decide) hh (newD_ok hm) rfl (opn_P hr hl) (Reg.new (by omega) (by omega)) srtE_nil hn
set_option maxHeartbeats 8000000 in
theorem bootsW (hx : NoX x) : fnVC CT mboots [] ⟨[], x⟩ 1 fun v H' n' => Sub 1 ⟨[(0, .v (.bool true))], ⟨[], x⟩, 1⟩ ⟨[(0, v)], H', n'⟩ := by
  unfold mboots
  simp -implicitDefEqProofs only [↓fnVC, initTm]
  simp -implicitDefEqProofs only [go_sem]
  refine at_call tFNew (nwD (k := 30) (by decide) (by decide) (by decide)) ?_
  unfold devL
  simp -implicitDefEqProofs only [go_sem]
  have hB := BI.new (m := 30) (h := 4) (r := 4) (by decide) (by decide) (by decide) (by decide)
  have hk0 : stQ (opnT 0 4 4 0 1 [] (newD 30)).C.now = nthQ := stQ_nil
  have ho0 : (opnT 0 4 4 0 1 [] (newD 30)).on = false := rfl
  have hr0 : (opnT 0 4 4 0 1 [] (newD 30)).r = 4 := rfl
  obtain ⟨T, hT⟩ : ∃ T, opnT 0 4 4 0 1 [] (newD 30) = T := ⟨_, rfl⟩
  rw [hT] at hB hk0 ho0 hr0
  refine at_call tBOpen (bnwS (i := 1) (a := 2) (b := 3) (c := 4) (m := 30) (h := 4) (r := 4) ⟨by rfl, by rfl, by rfl, by rfl, by decide⟩ (by decide) (by decide) (by decide) (by decide) (by decide) hT) ?_
  unfold devL
  simp -implicitDefEqProofs only [go_sem]
  obtain ⟨T1, p1, b1, k1, v1, u1, l1⟩ := prov_good (v := 1) (I := ⟨#[97]⟩) hB (by decide) (by decide) (by rw [hk0]; decide) (by rw [hr0]; exact ⟨by decide, by decide, by decide, by decide⟩)
  refine at_call tBProvision (provS (T := T) (ver := 1) (I := ⟨#[97]⟩) (i := 5) (q := 6) (s := 7) (D := 1) (a := 2) (b := 3) (c := 4) (M := 8) (W := 9) ⟨by rfl, by rfl, by rfl, by rfl, by rfl, by rfl, by rfl, by rfl, by rfl, by decide, by rfl, by rfl⟩ hB.K (by decide) hx (by decide) p1) ?_
  rw [btF_eq]
  simp -implicitDefEqProofs only [go_sem]
  have hr1 : T1.r = 4 := by rw [l1.r, hr0]
  obtain ⟨T2, p2, b2, k2, v2, w2, u2, l2⟩ := inst_good (v := 2) (I := ⟨#[98]⟩) (tries := 2) b1 (by decide) (by decide) k1 (by decide) (by decide) (by decide) (itE_ok (by decide) (by decide) (by decide) (by decide) (by rw [hr1]; decide)) (if_neg fun h => by rw [u1.1, ho0] at h; cases h.1) (by rw [hr1]; exact ⟨by decide, by decide, by decide, by decide⟩) (by decide)
  refine at_call tBInstall (instS (T := T1) (ver := 2) (I := ⟨#[98]⟩) (tries := 2) (i := 5) (q := 6) (s := 7) (D := 1) (a := 10) (b := 11) (c := 12) (M := 13) (W := 14) ⟨by rfl, by rfl, by rfl, by rfl, by rfl, by rfl, by rfl, by rfl, by rfl, by decide, by rfl, by rfl⟩ b1.K (by decide) (by have := b1.num; omega) hx (by decide) p2) ?_
  rw [btF_eq]
  simp -implicitDefEqProofs only [go_sem]
  have k2' : stQ T2.C.now = ⟨0, 1, 2, 1⟩ := k2
  have v2' : sv T2 1 = (2, ⟨#[98]⟩, 0) := v2
  have w2' : sv T2 0 = (1, ⟨#[97]⟩, 0) := w2.trans v1
  obtain ⟨T3, p3, b3, k3, v3, u3, l3⟩ := boot_fine (v := 2) (I := ⟨#[98]⟩) b2 (by decide) (by decide) k2' (by decide) (by decide) (by decide) (by decide) v2' (by decide)
  have k3' : stQ T3.C.now = ⟨0, 1, 1, 1⟩ := k3
  obtain ⟨T4, p4, b4, k4, v4, u4, l4⟩ := boot_fine (v := 2) (I := ⟨#[98]⟩) b3 (by decide) (by decide) k3' (by decide) (by decide) (by decide) (by decide) ((v3 1 rfl).trans v2') (by decide)
  have k4' : stQ T4.C.now = ⟨0, 1, 0, 1⟩ := k4
  obtain ⟨T5, p5, b5, k5, v5, u5, l5⟩ := boot_spent (v := 1) (I := ⟨#[97]⟩) b4 (by decide) (by decide) k4' (by decide) (by decide) (by decide) rfl ((v4 0 rfl).trans ((v3 0 rfl).trans w2')) (by decide)
  have k5' : stQ T5.C.now = ⟨0, -1, 0, 1⟩ := k5
  have q1 : seq ⟨#[98]⟩ ⟨#[98]⟩ = true := seq_self _
  have q2 : seq ⟨#[97]⟩ ⟨#[97]⟩ = true := seq_self _
  have z3 : ((3 : Nat) : Int) = 3 := rfl
  have e0 : IntKind.i64.wrap (0 + 1) = 1 := rfl
  have e1 : IntKind.i64.wrap (1 + 1) = 2 := rfl
  have e2 : IntKind.i64.wrap (2 + 1) = 3 := rfl
  refine loop_roll 4 ?_
  rw [LoopU_succ]
  simp -implicitDefEqProofs only [go_sem, z3, q1, q2, List.getD_cons_zero, List.getD_cons_succ]
  refine at_call tBBoot (bootS (T := T2) (i := 5) (q := 6) (s := 7) (D := 1) (a := 15) (b := 16) (c := 17) (M := 18) (W := 19) ⟨by rfl, by rfl, by rfl, by rfl, by rfl, by rfl, by rfl, by rfl, by rfl, by decide, by rfl, by rfl⟩ b2.K (by decide) (by have := b2.num; omega) hx (by decide) p3) ?_
  rw [btF_eq]
  unfold Sl.rV
  simp -implicitDefEqProofs only [go_sem, z3, q1, q2, e0, e1, e2]
  rw [LoopU_succ]
  simp -implicitDefEqProofs only [go_sem, z3, q1, q2, List.getD_cons_zero, List.getD_cons_succ]
  refine at_call tBBoot (bootS (T := T3) (i := 5) (q := 6) (s := 7) (D := 1) (a := 21) (b := 22) (c := 23) (M := 24) (W := 25) ⟨by rfl, by rfl, by rfl, by rfl, by rfl, by rfl, by rfl, by rfl, by rfl, by decide, by rfl, by rfl⟩ b3.K (by decide) (by have := b3.num; omega) hx (by decide) p4) ?_
  rw [btF_eq]
  unfold Sl.rV
  simp -implicitDefEqProofs only [go_sem, z3, q1, q2, e0, e1, e2]
  rw [LoopU_succ]
  simp -implicitDefEqProofs only [go_sem, z3, q1, q2, List.getD_cons_zero, List.getD_cons_succ]
  refine at_call tBBoot (bootS (T := T4) (i := 5) (q := 6) (s := 7) (D := 1) (a := 26) (b := 27) (c := 28) (M := 29) (W := 30) ⟨by rfl, by rfl, by rfl, by rfl, by rfl, by rfl, by rfl, by rfl, by rfl, by decide, by rfl, by rfl⟩ b4.K (by decide) (by have := b4.num; omega) hx (by decide) p5) ?_
  rw [btF_eq]
  unfold Sl.rV
  simp -implicitDefEqProofs only [go_sem, z3, q1, q2, e0, e1, e2]
  rw [LoopU_succ]
  simp -implicitDefEqProofs only [go_sem, z3, q1, q2, e0, e1, e2]
  refine at_call tBState (stateS' (T := T5) (i := 5) (q := 6) (s := 7) (D := 1) (a := 31) (b := 32) (c := 33) (M := 34) (W := 35) ⟨by rfl, by rfl, by rfl, by rfl, by rfl, by rfl, by rfl, by rfl, by rfl, by decide, by rfl, by rfl⟩ b5.K.C.now hx k5') ?_
  unfold sqV sqL
  simp -implicitDefEqProofs only [go_sem, splice_zero, splice_succ, List.drop_succ_cons, List.drop_zero, List.drop_nil, List.cons_append, List.nil_append, List.take_succ_cons, List.take_zero, List.length_cons, List.length_nil]
  refine sub_mk [] rfl rfl rfl ?_
  simp only [tmSub, hpSub, objSub, eqTm, eqHp, rn, lk, SV.ren, SV.renC, SV.renB, SV.renA, ren_ints, ren_strs, ren_pl, ren_svs, SV.v.injEq, Value.int.injEq, Body.ints.injEq, SV.ptr.injEq, SV.sl.injEq, Value.string.injEq, Value.bool.injEq, List.map_cons, List.map_nil, forall_const, Nat.reduceLT, Nat.lt_add_one, imp_self, true_and, and_true, and_self, ob_some, get_mk, lk_cons, ↓reduceIte, Nat.reduceEqDiff, ne_eq, not_true_eq_false, not_false_eq_true, Nat.one_ne_zero, Nat.zero_ne_one, Nat.succ_ne_self, Nat.reduceAdd, Bool.false_eq_true, false_implies, implies_true, reduceCtorEq]
  repeat' (first | rfl | apply And.intro)
theorem bootsS (hx : NoX H.x) : SpecAt Tryz.prog nboots [] H n (.v (.bool true)) H n := lift_pure (okT.spec tboots (bootsW hx)) rfl
end
section
/- Boot: the greatest floor. -/
set_option linter.unusedVariables false
set_option linter.unusedSimpArgs false
set_option maxRecDepth 100000
open Go.Proofs
variable {H : Hp} {n : Nat} {x : Nat → Option SO} {i q s D M W a b c : Nat} {d d' : Fd} {C C' : Ce} {T : Bt}
def last4 : ByteArray := ⟨#[108, 97, 115, 116]⟩
set_option maxHeartbeats 8000000 in
theorem floorW {ver tries : Int} {I : ByteArray} (hx : NoX x) : fnVC CT mBootFloor [.v (.int .i64 ver), .v (.string I), .v (.int .i64 tries)] ⟨[], x⟩ 1 fun v H' n' => Sub 1 ⟨[(0, .v (.bool true))], ⟨[], x⟩, 1⟩ ⟨[(0, v)], H', n'⟩ := by
  unfold mBootFloor
  simp -implicitDefEqProofs only [↓fnVC, initTm]
  simp -implicitDefEqProofs only [go_sem]
  refine at_call tboots (bootsS hx) ?_
  simp -implicitDefEqProofs only [go_sem]
  refine at_call tFNew (nwD (k := 40) (by decide) (by decide) (by decide)) ?_
  unfold devL
  simp -implicitDefEqProofs only [go_sem]
  have hB := BI.new (m := 40) (h := 4) (r := 10) (by decide) (by decide) (by decide) (by decide)
  have hk0 : stQ (opnT 0 4 10 0 1 [] (newD 40)).C.now = nthQ := stQ_nil
  have hr0 : (opnT 0 4 10 0 1 [] (newD 40)).r = 10 := rfl
  obtain ⟨T, hT⟩ : ∃ T, opnT 0 4 10 0 1 [] (newD 40) = T := ⟨_, rfl⟩
  rw [hT] at hB hk0 hr0
  refine at_call tBOpen (bnwS (i := 1) (a := 2) (b := 3) (c := 4) (m := 40) (h := 4) (r := 10) ⟨by rfl, by rfl, by rfl, by rfl, by decide⟩ (by decide) (by decide) (by decide) (by decide) (by decide) hT) ?_
  unfold devL
  simp -implicitDefEqProofs only [go_sem]
  obtain ⟨T1, p1, b1, k1, v1, u1, l1⟩ := prov_good (v := 255) (I := last4) hB (by decide) (by decide) (by rw [hk0]; decide) (by rw [hr0]; exact ⟨by decide, by decide, by decide, by decide⟩)
  have k1' : stQ T1.C.now = ⟨0, -1, 0, 255⟩ := k1
  refine at_call tBProvision (provS (T := T) (ver := 255) (I := last4) (i := 5) (q := 6) (s := 7) (D := 1) (a := 2) (b := 3) (c := 4) (M := 8) (W := 9) ⟨by rfl, by rfl, by rfl, by rfl, by rfl, by rfl, by rfl, by rfl, by rfl, by decide, by rfl, by rfl⟩ hB.K (by decide) hx (by decide) p1) ?_
  rw [btF_eq]
  simp -implicitDefEqProofs only [go_sem]
  obtain ⟨want, hw⟩ : ∃ want : Int, (if tries < 1 ∨ 8 < tries then 1 else 8) = want := ⟨_, rfl⟩
  have p2 : inR ver I tries T1 = (want, T1) := by
    have : itE ⟨0, -1, 0, 255⟩ ver I tries T1.r = want := by
      unfold itE; rw [if_neg (by decide), ← hw]
      by_cases c : tries < 1 ∨ 8 < tries
      · rw [if_pos c, if_pos c]
      · rw [if_neg c, if_neg c, if_pos rfl]
    unfold inR; rw [k1', this, if_pos]; rw [← hw]; split <;> decide
  have p3 : boR T1 = ((255, last4, 0), runT 0 255 (stopT T1)) := boot_plain b1 k1' (by decide) (by decide) v1 (by decide)
  obtain ⟨T2, hT2⟩ : ∃ T2, runT 0 255 (stopT T1) = T2 := ⟨_, rfl⟩
  have b2 : BI T2 40 (0 + 266) (0 + 1) := by rw [← hT2]; exact b1.stop.run
  have k2 : stQ T2.C.now = ⟨0, -1, 0, 255⟩ := by rw [← hT2]; exact k1'
  have o2 : T2.on = true ∧ T2.slot = 0 := by rw [← hT2]; exact ⟨rfl, rfl⟩
  rw [hT2] at p3
  have p4 : cfR T2 = (0, T2) := by unfold cfR; rw [o2.1, o2.2, k2, if_neg (by decide), if_pos (by decide)]
  have p5 : prR 1 ⟨#[120]⟩ T2 = (12, T2) := by unfold prR; rw [k2, if_pos (by decide)]
  have q0 : ((255 : Nat) : Int) = 255 := rfl
  have q1 : seq ⟨#[108, 97, 115, 116]⟩ ⟨#[108, 97, 115, 116]⟩ = true := seq_self _
  have q2 : seq last4 ⟨#[108, 97, 115, 116]⟩ = true := seq_self _
  have go : ∀ {P : Prop}, (decide (tries < 1) = true ∧ want = 1 → P) → (decide (tries < 1) = false ∧ decide (tries > 8) = true ∧ want = 1 → P) → (decide (tries < 1) = false ∧ decide (tries > 8) = false ∧ want = 8 → P) → P := by
    intro P h1 h2 h3
    by_cases c1 : tries < 1
    · exact h1 ⟨decide_eq_true c1, by rw [← hw, if_pos (.inl c1)]⟩
    by_cases c2 : tries > 8
    · exact h2 ⟨decide_eq_false c1, decide_eq_true c2, by rw [← hw, if_pos (.inr c2)]⟩
    · exact h3 ⟨decide_eq_false c1, decide_eq_false c2, by rw [← hw, if_neg (by omega)]⟩
  refine go (fun h => ?_) (fun h => ?_) (fun h => ?_)
  case refine_1 =>
    obtain ⟨h1, rfl⟩ := h
    simp -implicitDefEqProofs only [go_sem, h1]
    refine at_call tFSteps (stS (by rfl)) ?_
    simp -implicitDefEqProofs only [go_sem]
    refine at_call tBInstall (instS (T := T1) (ver := ver) (I := I) (tries := tries) (i := 5) (q := 6) (s := 7) (D := 1) (a := 10) (b := 11) (c := 12) (M := 13) (W := 14) ⟨by rfl, by rfl, by rfl, by rfl, by rfl, by rfl, by rfl, by rfl, by rfl, by decide, by rfl, by rfl⟩ b1.K (by decide) (by have := b1.num; omega) hx (by decide) p2) ?_
    rw [btF_eq]
    simp -implicitDefEqProofs only [go_sem]
    refine at_call tFSteps (stS (d := T1.d) (a := 15) (b := 16) (c := 17) (by rfl)) ?_
    simp -implicitDefEqProofs only [go_sem]
    refine at_call tBBoot (bootS (T := T1) (i := 5) (q := 6) (s := 7) (D := 1) (a := 15) (b := 16) (c := 17) (M := 18) (W := 19) ⟨by rfl, by rfl, by rfl, by rfl, by rfl, by rfl, by rfl, by rfl, by rfl, by decide, by rfl, by rfl⟩ b1.K (by decide) (by have := b1.num; omega) hx (by decide) p3) ?_
    rw [btF_eq]
    unfold Sl.rV
    simp -implicitDefEqProofs only [go_sem, q0, q1, q2]
    refine at_call tBConfirm (confS (T := T2) (i := 5) (q := 6) (s := 7) (D := 1) (a := 20) (b := 21) (c := 22) (M := 23) (W := 24) ⟨by rfl, by rfl, by rfl, by rfl, by rfl, by rfl, by rfl, by rfl, by rfl, by decide, by rfl, by rfl⟩ b2.K hx (by decide) p4) ?_
    rw [btF_eq]
    simp -implicitDefEqProofs only [go_sem, q0, q1, q2]
    refine at_call tBProvision (provS (T := T2) (ver := 1) (I := ⟨#[120]⟩) (i := 5) (q := 6) (s := 7) (D := 1) (a := 25) (b := 26) (c := 27) (M := 28) (W := 29) ⟨by rfl, by rfl, by rfl, by rfl, by rfl, by rfl, by rfl, by rfl, by rfl, by decide, by rfl, by rfl⟩ b2.K (by decide) hx (by decide) p5) ?_
    rw [btF_eq]
    simp -implicitDefEqProofs only [go_sem, q0, q1, q2]
    refine sub_mk [] rfl rfl rfl ?_
    simp only [tmSub, hpSub, objSub, eqTm, eqHp, rn, lk, SV.ren, SV.renC, SV.renB, SV.renA, ren_ints, ren_strs, ren_pl, ren_svs, SV.v.injEq, Value.int.injEq, Body.ints.injEq, SV.ptr.injEq, SV.sl.injEq, Value.string.injEq, Value.bool.injEq, List.map_cons, List.map_nil, forall_const, Nat.reduceLT, Nat.lt_add_one, imp_self, true_and, and_true, and_self, ob_some, get_mk, lk_cons, ↓reduceIte, Nat.reduceEqDiff, ne_eq, not_true_eq_false, not_false_eq_true, Nat.one_ne_zero, Nat.zero_ne_one, Nat.succ_ne_self, Nat.reduceAdd, Bool.false_eq_true, false_implies, implies_true, reduceCtorEq]
    repeat' (first | rfl | apply And.intro)
  case refine_2 =>
    obtain ⟨h1, h2, rfl⟩ := h
    simp -implicitDefEqProofs only [go_sem, h1, h2]
    refine at_call tFSteps (stS (by rfl)) ?_
    simp -implicitDefEqProofs only [go_sem]
    refine at_call tBInstall (instS (T := T1) (ver := ver) (I := I) (tries := tries) (i := 5) (q := 6) (s := 7) (D := 1) (a := 10) (b := 11) (c := 12) (M := 13) (W := 14) ⟨by rfl, by rfl, by rfl, by rfl, by rfl, by rfl, by rfl, by rfl, by rfl, by decide, by rfl, by rfl⟩ b1.K (by decide) (by have := b1.num; omega) hx (by decide) p2) ?_
    rw [btF_eq]
    simp -implicitDefEqProofs only [go_sem]
    refine at_call tFSteps (stS (d := T1.d) (a := 15) (b := 16) (c := 17) (by rfl)) ?_
    simp -implicitDefEqProofs only [go_sem]
    refine at_call tBBoot (bootS (T := T1) (i := 5) (q := 6) (s := 7) (D := 1) (a := 15) (b := 16) (c := 17) (M := 18) (W := 19) ⟨by rfl, by rfl, by rfl, by rfl, by rfl, by rfl, by rfl, by rfl, by rfl, by decide, by rfl, by rfl⟩ b1.K (by decide) (by have := b1.num; omega) hx (by decide) p3) ?_
    rw [btF_eq]
    unfold Sl.rV
    simp -implicitDefEqProofs only [go_sem, q0, q1, q2]
    refine at_call tBConfirm (confS (T := T2) (i := 5) (q := 6) (s := 7) (D := 1) (a := 20) (b := 21) (c := 22) (M := 23) (W := 24) ⟨by rfl, by rfl, by rfl, by rfl, by rfl, by rfl, by rfl, by rfl, by rfl, by decide, by rfl, by rfl⟩ b2.K hx (by decide) p4) ?_
    rw [btF_eq]
    simp -implicitDefEqProofs only [go_sem, q0, q1, q2]
    refine at_call tBProvision (provS (T := T2) (ver := 1) (I := ⟨#[120]⟩) (i := 5) (q := 6) (s := 7) (D := 1) (a := 25) (b := 26) (c := 27) (M := 28) (W := 29) ⟨by rfl, by rfl, by rfl, by rfl, by rfl, by rfl, by rfl, by rfl, by rfl, by decide, by rfl, by rfl⟩ b2.K (by decide) hx (by decide) p5) ?_
    rw [btF_eq]
    simp -implicitDefEqProofs only [go_sem, q0, q1, q2]
    refine sub_mk [] rfl rfl rfl ?_
    simp only [tmSub, hpSub, objSub, eqTm, eqHp, rn, lk, SV.ren, SV.renC, SV.renB, SV.renA, ren_ints, ren_strs, ren_pl, ren_svs, SV.v.injEq, Value.int.injEq, Body.ints.injEq, SV.ptr.injEq, SV.sl.injEq, Value.string.injEq, Value.bool.injEq, List.map_cons, List.map_nil, forall_const, Nat.reduceLT, Nat.lt_add_one, imp_self, true_and, and_true, and_self, ob_some, get_mk, lk_cons, ↓reduceIte, Nat.reduceEqDiff, ne_eq, not_true_eq_false, not_false_eq_true, Nat.one_ne_zero, Nat.zero_ne_one, Nat.succ_ne_self, Nat.reduceAdd, Bool.false_eq_true, false_implies, implies_true, reduceCtorEq]
    repeat' (first | rfl | apply And.intro)
  case refine_3 =>
    obtain ⟨h1, h2, rfl⟩ := h
    simp -implicitDefEqProofs only [go_sem, h1, h2]
    refine at_call tFSteps (stS (by rfl)) ?_
    simp -implicitDefEqProofs only [go_sem]
    refine at_call tBInstall (instS (T := T1) (ver := ver) (I := I) (tries := tries) (i := 5) (q := 6) (s := 7) (D := 1) (a := 10) (b := 11) (c := 12) (M := 13) (W := 14) ⟨by rfl, by rfl, by rfl, by rfl, by rfl, by rfl, by rfl, by rfl, by rfl, by decide, by rfl, by rfl⟩ b1.K (by decide) (by have := b1.num; omega) hx (by decide) p2) ?_
    rw [btF_eq]
    simp -implicitDefEqProofs only [go_sem]
    refine at_call tFSteps (stS (d := T1.d) (a := 15) (b := 16) (c := 17) (by rfl)) ?_
    simp -implicitDefEqProofs only [go_sem]
    refine at_call tBBoot (bootS (T := T1) (i := 5) (q := 6) (s := 7) (D := 1) (a := 15) (b := 16) (c := 17) (M := 18) (W := 19) ⟨by rfl, by rfl, by rfl, by rfl, by rfl, by rfl, by rfl, by rfl, by rfl, by decide, by rfl, by rfl⟩ b1.K (by decide) (by have := b1.num; omega) hx (by decide) p3) ?_
    rw [btF_eq]
    unfold Sl.rV
    simp -implicitDefEqProofs only [go_sem, q0, q1, q2]
    refine at_call tBConfirm (confS (T := T2) (i := 5) (q := 6) (s := 7) (D := 1) (a := 20) (b := 21) (c := 22) (M := 23) (W := 24) ⟨by rfl, by rfl, by rfl, by rfl, by rfl, by rfl, by rfl, by rfl, by rfl, by decide, by rfl, by rfl⟩ b2.K hx (by decide) p4) ?_
    rw [btF_eq]
    simp -implicitDefEqProofs only [go_sem, q0, q1, q2]
    refine at_call tBProvision (provS (T := T2) (ver := 1) (I := ⟨#[120]⟩) (i := 5) (q := 6) (s := 7) (D := 1) (a := 25) (b := 26) (c := 27) (M := 28) (W := 29) ⟨by rfl, by rfl, by rfl, by rfl, by rfl, by rfl, by rfl, by rfl, by rfl, by decide, by rfl, by rfl⟩ b2.K (by decide) hx (by decide) p5) ?_
    rw [btF_eq]
    simp -implicitDefEqProofs only [go_sem, q0, q1, q2]
    refine sub_mk [] rfl rfl rfl ?_
    simp only [tmSub, hpSub, objSub, eqTm, eqHp, rn, lk, SV.ren, SV.renC, SV.renB, SV.renA, ren_ints, ren_strs, ren_pl, ren_svs, SV.v.injEq, Value.int.injEq, Body.ints.injEq, SV.ptr.injEq, SV.sl.injEq, Value.string.injEq, Value.bool.injEq, List.map_cons, List.map_nil, forall_const, Nat.reduceLT, Nat.lt_add_one, imp_self, true_and, and_true, and_self, ob_some, get_mk, lk_cons, ↓reduceIte, Nat.reduceEqDiff, ne_eq, not_true_eq_false, not_false_eq_true, Nat.one_ne_zero, Nat.zero_ne_one, Nat.succ_ne_self, Nat.reduceAdd, Bool.false_eq_true, false_implies, implies_true, reduceCtorEq]
    repeat' (first | rfl | apply And.intro)
end
end Go.Sx
/- Boot: the package's variable at a law's door. -/
set_option linter.unusedVariables false
set_option linter.unusedSimpArgs false
set_option maxRecDepth 100000
namespace Go.Sx
open Go.Proofs Go.ChangeShapes Go.WideShapes Go.ChangeAt Go.RowKit
def nthA : Array Value := #[.int .i64 (-1), .int .i64 (-1), .int .i64 0, .int .i64 0]
theorem nothing_at {W : World} (h : laidMetH Tryz.prog [("ostler/boot.nothing", YtjjnmdpppcmmfaaGreatDoor.Rows.laid_ostler_boot_nothing)] W) : ∃ T fr, W.heap[0]? = some (.cells nthA T fr) := by
  have h' : laidMet Tryz.prog [("ostler/boot.nothing", YtjjnmdpppcmmfaaGreatDoor.Rows.laid_ostler_boot_nothing)] W := h
  obtain ⟨ps, ⟨g', t', cs, fuel, p, q, hg', ht', hvar, hd, _, _⟩, _⟩ := h'
  have hg : Tryz.prog.globalNamed "ostler/boot.nothing" = some 0 := by kernel_rfl
  have hty : (Tryz.prog.globals[0]?).map (·.type) = some 59 := by kernel_rfl
  obtain rfl := Option.some.inj (hg.symm.trans hg')
  obtain rfl := Option.some.inj (hty.symm.trans ht')
  obtain ⟨xs, n, rfl, hx, hl, hxl, hf⟩ := DataW.trod_struct Tryz.underlying59 hd
  have h0 := hf 0 { name := "Confirmed", type := 3, offset := 0, embedded := false, tag := "", pkgPath := "", byteOffset := 0 } rfl
  have h1 := hf 1 { name := "Tried", type := 3, offset := 1, embedded := false, tag := "", pkgPath := "", byteOffset := 8 } rfl
  have h2 := hf 2 { name := "Left", type := 3, offset := 2, embedded := false, tag := "", pkgPath := "", byteOffset := 16 } rfl
  have h3 := hf 3 { name := "Floor", type := 3, offset := 3, embedded := false, tag := "", pkgPath := "", byteOffset := 24 } rfl
  have c3 : Tryz.prog.cellsOf 3 = 1 := by kernel_rfl
  have c59 : Tryz.prog.cellsOf 59 = 4 := by kernel_rfl
  rw [c59] at hl
  have hcs : cs = nthA := by
    obtain ⟨l⟩ := cs
    simp only at hl h0 h1 h2 h3
    match l, hl with
    | [a, b, c, d], _ =>
      match xs, hxl with
      | [y0, y1, y2, y3], _ =>
        simp only [c3, List.drop_succ_cons, List.drop_zero, List.take_succ_cons, List.take_zero, List.getElem?_cons_succ, List.getElem?_cons_zero] at h0 h1 h2 h3
        obtain ⟨z0, e0, rfl, _⟩ := DataW.trod_int Tryz.underlying3 h0
        obtain ⟨z1, e1, rfl, _⟩ := DataW.trod_int Tryz.underlying3 h1
        obtain ⟨z2, e2, rfl, _⟩ := DataW.trod_int Tryz.underlying3 h2
        obtain ⟨z3, e3, rfl, _⟩ := DataW.trod_int Tryz.underlying3 h3
        simp only [List.cons.injEq, and_true] at e0 e1 e2 e3
        subst e0; subst e1; subst e2; subst e3
        simp [YtjjnmdpppcmmfaaGreatDoor.Rows.laid_ostler_boot_nothing] at hx
        obtain ⟨⟨q0, q1, q2, q3⟩, _⟩ := hx
        subst q0; subst q1; subst q2; subst q3
        rfl
  subst hcs
  unfold World.var? at hvar
  rw [hg] at hvar
  simp only [Option.bind_some] at hvar
  split at hvar
  · rename_i c T fr hh
    cases hvar
    exact ⟨T, fr, hh⟩
  · cases hvar
def ρb (i : Nat) : Loc := if i = 4001003 then ⟨some 0, 0, 4, false, none⟩ else ρ00 i
def xb (i : Nat) : Option SO := if i = 4001003 then some ⟨false, .sv (sqL nthQ)⟩ else none
theorem NoX_b : NoX xb := rfl
theorem ρb_sh {i : Nat} : (ρb i).sh = none := by
  unfold ρb; split
  · rfl
  · exact ρ00_sh
theorem hrel_boot {W : World} (h : ∃ T fr, W.heap[0]? = some (.cells nthA T fr)) : HRel (· < W.heap.size) W ρb 1 ⟨[], xb⟩ W := by
  obtain ⟨T, fr, h⟩ := h
  have hx : ∀ i s, Hp.get ⟨[], xb⟩ i = some s → i = 4001003 ∧ s = ⟨false, .sv (sqL nthQ)⟩ := fun i s hs => by
    have hs' : xb i = some s := hs
    unfold xb at hs'
    split at hs'
    · rename_i e; cases hs'; exact ⟨e, rfl⟩
    · cases hs'
  have hsz : 0 < W.heap.size := by
    rw [Array.getElem?_eq_some_iff] at h
    exact h.1
  exact { os := rfl, tape := rfl, output := rfl, size := Nat.le_refl _, keep := fun _ _ => rfl, old := fun _ h => h, nil := ⟨rfl, rfl⟩, pos := by omega
          obj := fun i s hs => by
            obtain ⟨rfl, rfl⟩ := hx i s hs
            refine ⟨⟨nthA, T, fr, h, by decide, by decide, fun j y hj => ?_, fun e => by cases e⟩, fun _ => rfl⟩
            match j, hj with
            | 0, hj => cases hj; exact ⟨_, rfl, rfl⟩
            | 1, hj => cases hj; exact ⟨_, rfl, rfl⟩
            | 2, hj => cases hj; exact ⟨_, rfl, rfl⟩
            | 3, hj => cases hj; exact ⟨_, rfl, rfl⟩
            | j + 4, hj => cases hj
          lt := fun i s hs => by obtain ⟨rfl, rfl⟩ := hx i s hs; exact ⟨rfl, rfl⟩
          own := fun i s b hs hw => by obtain ⟨rfl, rfl⟩ := hx i s hs; cases hw
          inj := fun i j s s' b _ hs _ hw => by obtain ⟨rfl, rfl⟩ := hx i s hs; cases hw
          live := fun i s b hs hb => by
            obtain ⟨rfl, rfl⟩ := hx i s hs
            have : (0 : Nat) = b := Option.some.inj hb
            omega
          xok := fun i s hs => by obtain ⟨rfl, rfl⟩ := hx i s hs; exact ⟨by decide, rfl, rfl, rfl⟩
          shp := fun i T c b hb => (by rw [ρb_sh] at hb; cases hb), shk := ShKeep.refl _
          gl := fun g hg => by
            have hg0 : g = 0 := of_decide_eq_true hg
            subst hg0
            exact ⟨rfl, rfl⟩ }
end Go.Sx
