/- Boot: at any heap; Provision. -/
import Derived.Test.YtjjnmdpppcmmfaaGreatDoorBtJ

set_option linter.unusedVariables false
set_option linter.unusedSimpArgs false
set_option maxRecDepth 100000
namespace Go.Sx
attribute [local go_sem ↓] bind_mk intsB_mk strsB_mk svB_mk fnVC ob_some vc_skip vc_exit vc_ret vc_seq vc_block kSeq_normal kSeq_exit kSeq_ret kBlock_normal kBlock_exit kBlock_ret vc_reg vc_regD vc_cond condK_true condK_false vc_loop kLoop_exit kLoop_ret kRoll_normal kRoll_exit kRoll_ret vcOps_nil vcOps_cons gd_bool gd_undef put_some put_none vcT_fin vcT_pure vcT_act vcT_acts vcT_stop stab_none stab_some stabM_nil stabM_cons stabO_ld stabO_ldn stabO_slP stabO_b2s fldOf_ai fldOf_agg fldOf_ait fldOf_aggt intsOf_nil intsOf_cons strsOf_nil strsOf_cons c_omap ob_if lk_nil lk_cons ev_t ev_k z_mov z_pick z_bin z_binA z_binB z_binP z_un z_r2s z_conv z_s2b z_b2s z_mkM z_luM z_upM z_lenM lenMk_mp lenMk_nil plsOf_v z_delM asM_so plV_v plV_agg mpOf_mp mpOf_nil mpUp_mp asM_mp luV_ok luV_v z_allocT aggOf_mk z_boxT z_alloc z_bld z_bldI z_rowI z_rowS z_ld z_ldn z_st z_stn asN_ptr asN_fn z_nilck z_fld z_fadr z_idxA z_idxP z_idxS z_idxV z_slS z_slL z_slP z_mk z_lenS z_lenL z_app appC_ints appC_pl appC_sv appC_strs isS_strs loose_ints loose_pl loose_sv z_slM z_callv callvK_fn callvK_f callvK_yl vc_rangeF rfEnd_eq rfGo_none rfGo_ret rfGo_exit yGo_mk yEnd_n yEnd_r yEnd_e yRdy_mk yMid_n putPs_nil putPs_cons leaf_v leaf_ptr leaf_sl leaf_yl leaf_mp z_appS z_appST z_appZ z_cpyS z_mkfn reps_int reps_str z_rowV z_slnil nilK_zero z_cpy z_call asT_tup z_extT z_box boxOf_ai boxOf_agg boxOf_int boxOf_str boxOf_bool boxOf_ptr boxOf_sl sbin_int sbin_str sbinA_mk ae_nil ae_int ae_str sbinB_mk sbinP_nn sbinP_pn sbinP_np i_add i_sub i_mul i_quo i_rem i_and i_or i_xor i_andNot i_shl i_shr i_eql i_neq i_lss i_leq i_gtr i_geq st_add st_eql st_neq st_lss st_leq st_gtr st_geq bo_eql bo_neq pt_eql pt_neq un_neg un_xor un_not asI_mk asB_mk asS_mk asP_mk asSl_mk asBy_mk bnd_none bnd_some get_mk hput_mk hdel_mk kill_eq wrOf_eq rowOf_eq rsvs_0 rsvs_1 rsvs_2 rsvs_3 rsv_t rsv_c1 rsv_cn nt_v nt_ptr nt_sl nt_agg nt_ai get_ints get_strs get_pl get_sv getN_ints getN_sv set_ints set_strs set_sv setN_ints setN_sv part_ints part_strs part_sv cat_ints cat_strs cat_sv over_ints over_strs over_sv ones_ints ones_strs evs_nil evs_cons condK_eqt condK_eqf det_callP V_ns V_nn V_gs V_gn obC_mk fresh_ev freshT_ev freshR_ev setN_plagg setN_intsv setN_svai setN_svagg over_intsv set_pl setN_pl setN_plai getN_pl getN_strs part_pl cat_pl over_pl over_plints z_mm
attribute [local go_sem] initTm ne_eq not_true_eq_false not_false_eq_true true_and and_true List.length_cons List.length_nil Int.toNat_natCast Nat.add_zero Nat.zero_add Nat.mul_one List.getElem?_cons_zero List.drop_zero List.take_length List.take_succ_cons List.take_zero List.take_nil List.drop_succ_cons Option.map_some Nat.le_refl implies_true List.getElem?_cons_succ decide_true decide_false Bool.not_true Bool.not_false beq_self_eq_true Nat.succ_ne_self Nat.one_ne_zero Nat.zero_ne_one vk_mk hk_mk nk_mk tok_eq plsOf_map intsOf_map bodyOf_pl bodyOf_ints bodyOf_strs bodyOf_sv part_aggv part_agg part_ai part_int part_str part_bool part_sl part_ptr part_nil numsOf_map u_int u_str u_bool u_pnil u_sl u_ptr u_oci u_ocs evq_nil evq_cons fillS_nil fillS_cons u_ocb ones_pl cells_sv cells_ints cells_strs cells_pl smms_nil smms_cons smm_min smm_max plsOf_nil List.nil_append List.all_cons List.all_nil Bool.and_self Bool.true_and Bool.and_true zws_len zw_len zi_len List.set_cons_zero List.set_cons_succ List.flatMap_cons List.flatMap_nil List.append_nil
attribute [local go_sem_proc] Nat.reduceEqDiff Nat.reduceAdd Nat.reduceMul Nat.reduceLT Nat.reduceLeDiff Nat.reduceSub Int.reduceToNat Int.reduceLE Int.reduceLT reduceCtorEq Int.reduceEq Int.reduceGT Int.reduceGE Int.reduceNeg
attribute [local go_sem_proc ↓] reduceIte
section
open Go.Proofs
variable {H : Hp} {n : Nat} {x : Nat → Option SO} {i q s D M W a b c : Nat} {d d' : Fd} {C C' : Ce} {T : Bt}
def btP (i q s D a b c M W : Nat) : List (Nat × Nat) := [(1, i), (2, q), (3, s), (4, D), (5, a), (6, b), (7, c), (8, M), (9, W)]
structure BtAt (H : Hp) (T : Bt) (i q s D a b c M W : Nat) : Prop where
  gi : H.get i = some ⟨true, btB T q s⟩
  gq : H.get q = some ⟨true, cellB T.C D M W⟩
  gs : H.get s = some ⟨true, Sl.slB D T.bs T.r⟩
  gD : H.get D = some ⟨true, devB T.d a b c⟩
  ga : H.get a = some ⟨true, secB T.d.seen⟩
  gb : H.get b = some ⟨true, secB T.d.safe⟩
  gc : H.get c = some ⟨true, .pl (prow T.d.pend)⟩
  gM : H.get M = some ⟨true, .mp (.map T.C.now)⟩
  gW : H.get W = some ⟨true, .mp (.map T.C.was)⟩
  ne : ([i, q, s, D, a, b, c, M, W].all fun k => decide (0 < k ∧ k < 1000)) = true
  ap : apartB (btP i q s D a b c M W) (btL T true) (btL T true) = true
  nz : wrNZ (btP i q s D a b c M W) (btL T true) = true
theorem BtAt.sub {w : Bool} (h : BtAt H T i q s D a b c M W) : hpSub (btP i q s D a b c M W) H (btL T w) := by
  obtain ⟨g1, g2, g3, g4, g5, g6, g7, g8, g9, hp, _, _⟩ := h
  simp at hp
  cases w with
  | true => exact ⟨sub_wr rfl hp.1.1 hp.1.2 g1 rfl, sub_wr rfl hp.2.1.1 hp.2.1.2 g2 rfl, sub_wr rfl hp.2.2.1.1 hp.2.2.1.2 g3 rfl, sub_wr rfl hp.2.2.2.1.1 hp.2.2.2.1.2 g4 rfl, sub_wr rfl hp.2.2.2.2.1.1 hp.2.2.2.2.1.2 g5 rfl, sub_wr rfl hp.2.2.2.2.2.1.1 hp.2.2.2.2.2.1.2 g6 rfl, sub_wr rfl hp.2.2.2.2.2.2.1.1 hp.2.2.2.2.2.2.1.2 g7 rfl, sub_wr rfl hp.2.2.2.2.2.2.2.1.1 hp.2.2.2.2.2.2.2.1.2 g8 rfl, sub_wr rfl hp.2.2.2.2.2.2.2.2.1 hp.2.2.2.2.2.2.2.2.2 g9 rfl, trivial⟩
  | false => exact ⟨sub_ro rfl hp.1.1 g1 rfl, sub_ro rfl hp.2.1.1 g2 rfl, sub_ro rfl hp.2.2.1.1 g3 rfl, sub_ro rfl hp.2.2.2.1.1 g4 rfl, sub_ro rfl hp.2.2.2.2.1.1 g5 rfl, sub_ro rfl hp.2.2.2.2.2.1.1 g6 rfl, sub_ro rfl hp.2.2.2.2.2.2.1.1 g7 rfl, sub_ro rfl hp.2.2.2.2.2.2.2.1.1 g8 rfl, sub_ro rfl hp.2.2.2.2.2.2.2.2.1 g9 rfl, trivial⟩
theorem stateS (h : BtAt H T i q s D a b c M W) (hE : Es T.C.now) (hx : NoX H.x) : SpecAt Tryz.prog nBState [.ptr i 0] H n (sqV (stQ T.C.now)) H n := by
  have := lift_ro (n := n) (okT.spec tBState (stateW (x := H.x) (T := T) hE hx)) (btP i q s D a b c M W) rfl rfl rfl (by omega) rfl rfl (h.sub (w := false)) (by simp [btL, apartB, apart1, rn, lk]) (by simp [btL, wrNZ, rn, lk]) rfl
  exact this
def btF (T : Bt) (i q s D a b c M W n : Nat) (l : List (Nat × Option SO)) : List (Nat × Option SO) := (i, some ⟨true, btB T q s⟩) :: (q, some ⟨true, cellB T.C D (n + 3) (n + 4)⟩) :: (s, some ⟨true, Sl.slB D T.bs T.r⟩) :: (D, some ⟨true, devB T.d n (n + 1) (n + 2)⟩) :: (a, none) :: (b, none) :: (c, none) :: (M, none) :: (W, none) :: (n, some ⟨true, secB T.d.seen⟩) :: (n + 1, some ⟨true, secB T.d.safe⟩) :: (n + 2, some ⟨true, .pl (prow T.d.pend)⟩) :: (n + 3, some ⟨true, .mp (.map T.C.now)⟩) :: (n + 4, some ⟨true, .mp (.map T.C.was)⟩) :: l
theorem btF_eq {l : List (Nat × Option SO)} : btF T i q s D a b c M W n l = (i, some ⟨true, btB T q s⟩) :: (q, some ⟨true, cellB T.C D (n + 3) (n + 4)⟩) :: (s, some ⟨true, Sl.slB D T.bs T.r⟩) :: (D, some ⟨true, devB T.d n (n + 1) (n + 2)⟩) :: (a, none) :: (b, none) :: (c, none) :: (M, none) :: (W, none) :: (n, some ⟨true, secB T.d.seen⟩) :: (n + 1, some ⟨true, secB T.d.safe⟩) :: (n + 2, some ⟨true, .pl (prow T.d.pend)⟩) :: (n + 3, some ⟨true, .mp (.map T.C.now)⟩) :: (n + 4, some ⟨true, .mp (.map T.C.was)⟩) :: l := rfl
structure BtK (T : Bt) (m t : Nat) : Prop where
  C : T.C.ok
  P : Pl T.d m t
  t : t + 1000 < 1000000
  bs : T.bs ≤ 4096
  r : T.r ≤ 128
  len : T.bs + 2 * (1 + T.r) ≤ m
  clen : T.C.base + 2 * T.C.half ≤ m
theorem keepS {k : Sq} {m t : Nat} (h : BtAt H T i q s D a b c M W) (hK : BtK T m t) (hx : NoX H.x) (hn : n + 5 ≤ 1000) {e : Int} {T' : Bt} (hq : kpR k T = (e, T')) : SpecAt Tryz.prog nBkeep [.ptr i 0, sqV k] H n (.v (.int .i64 e)) ⟨btF T' i q s D a b c M W n H.l, H.x⟩ (n + 5) := by
  have e1 : (kpR k T).1 = e := by rw [hq]
  have e2 : (kpR k T).2 = T' := by rw [hq]
  subst e1; subst e2
  have := lift (n := n) (okT.spec tBkeep (keepW (x := H.x) (T := T) (q := k) hK.C hK.P hK.t hx)) (btP i q s D a b c M W) rfl rfl rfl (by omega) rfl rfl h.sub h.ap h.nz (by omega)
  exact this
theorem settledS {k : Sq} (hx : NoX H.x) : SpecAt Tryz.prog nBsettled [sqV k] H n (sqV { k with tr := -1, lf := 0 }) H n := lift_pure (okT.spec tBsettled (by
  have hx' : H.x 4001003 = some ⟨false, .sv (sqL nthQ)⟩ := hx
  unfold mBsettled sqV sqL
  simp -implicitDefEqProofs only [↓fnVC, initTm]
  simp -implicitDefEqProofs only [go_sem, hx', sqL, nthQ, splice_zero, splice_succ, List.drop_succ_cons, List.drop_zero, List.drop_nil, List.cons_append, List.nil_append, List.take_succ_cons, List.take_zero, List.length_cons, List.length_nil]
  refine sub_mk [] rfl rfl rfl ?_
  simp only [tmSub, hpSub, objSub, eqTm, eqHp, rn, lk, SV.ren, SV.renC, SV.renB, SV.renA, ren_ints, ren_strs, ren_pl, ren_svs, SV.v.injEq, Value.int.injEq, Body.ints.injEq, SV.ptr.injEq, SV.sl.injEq, Value.string.injEq, Value.bool.injEq, List.map_cons, List.map_nil, forall_const, Nat.reduceLT, Nat.lt_add_one, imp_self, true_and, and_true, and_self, ob_some, get_mk, lk_cons, ↓reduceIte, Nat.reduceEqDiff, ne_eq, not_true_eq_false, not_false_eq_true, Nat.one_ne_zero, Nat.zero_ne_one, Nat.succ_ne_self, Nat.reduceAdd, Bool.false_eq_true, false_implies, implies_true, reduceCtorEq])) rfl
def sdQ (k : Sq) : Sq := { k with tr := -1, lf := 0 }
def wtB (slot ver : Int) (I : ByteArray) (T : Bt) : Int × Bt := let p := Sl.swR T.bs T.r slot ver I T.d; (p.1, { T with d := p.2 })
def prR (ver : Int) (I : ByteArray) (T : Bt) : Int × Bt :=
  if 0 ≤ (stQ T.C.now).cf then (12, T) else if (wtB 0 ver I T).1 ≠ 0 then wtB 0 ver I T else kpR ⟨0, -1, 0, ver⟩ (wtB 0 ver I T).2
theorem wtB_k {slot ver : Int} {I : ByteArray} {m t : Nat} (h : BtK T m t) (ht : t + 1133 < 1000000) : BtK (wtB slot ver I T).2 m (t + 133) := ⟨h.C, Sl.swR_pl h.P h.t, ht, h.bs, h.r, h.len, h.clen⟩
set_option maxHeartbeats 2000000 in
theorem provW {ver : Int} {I : ByteArray} {m t : Nat} (hK : BtK T m t) (ht : t + 1133 < 1000000) (hx : NoX x) : fnVC CT mBProvision [.ptr 1 0, .v (.int .i64 ver), .v (.string I)] ⟨btL T true, x⟩ 10 fun v H' n' => Sub 10 ⟨[(0, .v (.int .i64 (prR ver I T).1))], ⟨btN (prR ver I T).2, x⟩, 15⟩ ⟨[(0, v)], H', n'⟩ := by
  have hx' : x 4001003 = some ⟨false, .sv (sqL nthQ)⟩ := hx
  unfold mBProvision btL btB
  simp -implicitDefEqProofs only [↓fnVC, initTm]
  simp -implicitDefEqProofs only [go_sem]
  refine at_call tBState (stateS (T := T) (i := 1) (q := 2) (s := 3) (D := 4) (a := 5) (b := 6) (c := 7) (M := 8) (W := 9) ⟨by rfl, by rfl, by rfl, by rfl, by rfl, by rfl, by rfl, by rfl, by rfl, by decide, by rfl, by rfl⟩ hK.C.now hx) ?_
  unfold sqV sqL
  simp -implicitDefEqProofs only [go_sem]
  by_cases c1 : 0 ≤ (stQ T.C.now).cf
  · have a1 : decide ((stQ T.C.now).cf ≥ 0) = true := decide_eq_true c1
    rw [show prR ver I T = (12, T) from if_pos c1]
    simp -implicitDefEqProofs only [go_sem, a1]
    unfold btN btB
    refine sub_mk [(10, 5), (11, 6), (12, 7), (13, 8), (14, 9)] rfl rfl rfl ?_
    simp only [tmSub, hpSub, objSub, eqTm, eqHp, rn, lk, SV.ren, SV.renC, SV.renB, SV.renA, ren_ints, ren_strs, ren_pl, ren_svs, SV.v.injEq, Value.int.injEq, Body.ints.injEq, SV.ptr.injEq, SV.sl.injEq, Value.string.injEq, Value.bool.injEq, List.map_cons, List.map_nil, forall_const, Nat.reduceLT, Nat.lt_add_one, imp_self, true_and, and_true, and_self, ob_some, get_mk, lk_cons, ↓reduceIte, Nat.reduceEqDiff, ne_eq, not_true_eq_false, not_false_eq_true, Nat.one_ne_zero, Nat.zero_ne_one, Nat.succ_ne_self, Nat.reduceAdd, Bool.false_eq_true, false_implies, implies_true, reduceCtorEq]
    repeat' (first | rfl | apply And.intro)
  have a1 : decide ((stQ T.C.now).cf ≥ 0) = false := decide_eq_false c1
  simp -implicitDefEqProofs only [go_sem, a1]
  obtain ⟨⟨e, d1⟩, hq⟩ : ∃ p, Sl.swR T.bs T.r 0 ver I T.d = p := ⟨_, rfl⟩
  have hw : wtB 0 ver I T = (e, { T with d := d1 }) := by unfold wtB; rw [hq]
  have hK1 : BtK { T with d := d1 } m (t + 133) := by have := wtB_k (slot := 0) (ver := ver) (I := I) hK ht; rw [hw] at this; exact this
  refine at_call tSWrite (Sl.swriteS (q := 3) (i := 4) (a := 5) (b := 6) (c := 7) (d := T.d) hK.bs hK.r (by rfl) ⟨by rfl, by rfl, by rfl, by rfl, by decide⟩ (by decide) hK.P hK.t (by decide) hq) ?_
  rw [Sl.devN_eq]
  simp -implicitDefEqProofs only [go_sem]
  by_cases c2 : e = 0
  · have a2 : decide (e = 0) = true := decide_eq_true c2
    simp -implicitDefEqProofs only [go_sem, a2, hx', sqL, nthQ, splice_zero, splice_succ, List.drop_succ_cons, List.drop_zero, List.drop_nil, List.cons_append, List.nil_append, List.take_succ_cons, List.take_zero, List.length_cons, List.length_nil]
    have hp : prR ver I T = kpR ⟨0, -1, 0, ver⟩ { T with d := d1 } := by unfold prR; rw [if_neg c1, hw, if_neg (by simp [c2])]
    rw [hp]
    obtain ⟨⟨e2, T2⟩, hk⟩ : ∃ p, kpR ⟨0, -1, 0, ver⟩ { T with d := d1 } = p := ⟨_, rfl⟩
    rw [hk]
    refine at_call tBkeep (keepS (T := { T with d := d1 }) (k := ⟨0, -1, 0, ver⟩) (i := 1) (q := 2) (s := 3) (D := 4) (a := 10) (b := 11) (c := 12) (M := 8) (W := 9) ⟨by rfl, by rfl, by rfl, by rfl, by rfl, by rfl, by rfl, by rfl, by rfl, by decide, by rfl, by rfl⟩ hK1 hx (by decide) hk) ?_
    rw [btF_eq]
    simp -implicitDefEqProofs only [go_sem]
    unfold btN btB
    refine sub_mk [(10, 14), (11, 15), (12, 16), (13, 17), (14, 18)] rfl rfl rfl ?_
    simp only [tmSub, hpSub, objSub, eqTm, eqHp, rn, lk, SV.ren, SV.renC, SV.renB, SV.renA, ren_ints, ren_strs, ren_pl, ren_svs, SV.v.injEq, Value.int.injEq, Body.ints.injEq, SV.ptr.injEq, SV.sl.injEq, Value.string.injEq, Value.bool.injEq, List.map_cons, List.map_nil, forall_const, Nat.reduceLT, Nat.lt_add_one, imp_self, true_and, and_true, and_self, ob_some, get_mk, lk_cons, ↓reduceIte, Nat.reduceEqDiff, ne_eq, not_true_eq_false, not_false_eq_true, Nat.one_ne_zero, Nat.zero_ne_one, Nat.succ_ne_self, Nat.reduceAdd, Bool.false_eq_true, false_implies, implies_true, reduceCtorEq]
    repeat' (first | rfl | apply And.intro)
  · have a2 : decide (e = 0) = false := decide_eq_false c2
    rw [show prR ver I T = (e, { T with d := d1 }) by unfold prR; rw [if_neg c1, hw, if_pos c2]]
    simp -implicitDefEqProofs only [go_sem, a2]
    unfold btN btB
    refine sub_mk [(13, 8), (14, 9)] rfl rfl rfl ?_
    simp only [tmSub, hpSub, objSub, eqTm, eqHp, rn, lk, SV.ren, SV.renC, SV.renB, SV.renA, ren_ints, ren_strs, ren_pl, ren_svs, SV.v.injEq, Value.int.injEq, Body.ints.injEq, SV.ptr.injEq, SV.sl.injEq, Value.string.injEq, Value.bool.injEq, List.map_cons, List.map_nil, forall_const, Nat.reduceLT, Nat.lt_add_one, imp_self, true_and, and_true, and_self, ob_some, get_mk, lk_cons, ↓reduceIte, Nat.reduceEqDiff, ne_eq, not_true_eq_false, not_false_eq_true, Nat.one_ne_zero, Nat.zero_ne_one, Nat.succ_ne_self, Nat.reduceAdd, Bool.false_eq_true, false_implies, implies_true, reduceCtorEq]
    repeat' (first | rfl | apply And.intro)
theorem provS {ver : Int} {I : ByteArray} {m t : Nat} (h : BtAt H T i q s D a b c M W) (hK : BtK T m t) (ht : t + 1133 < 1000000) (hx : NoX H.x) (hn : n + 5 ≤ 1000) {e : Int} {T' : Bt} (hq : prR ver I T = (e, T')) : SpecAt Tryz.prog nBProvision [.ptr i 0, .v (.int .i64 ver), .v (.string I)] H n (.v (.int .i64 e)) ⟨btF T' i q s D a b c M W n H.l, H.x⟩ (n + 5) := by
  have e1 : (prR ver I T).1 = e := by rw [hq]
  have e2 : (prR ver I T).2 = T' := by rw [hq]
  subst e1; subst e2
  have := lift (n := n) (okT.spec tBProvision (provW (x := H.x) (T := T) (ver := ver) (I := I) hK ht hx)) (btP i q s D a b c M W) rfl rfl rfl (by omega) rfl rfl h.sub h.ap h.nz (by omega)
  exact this
end
section
/- Boot: Boot. -/
set_option linter.unusedVariables false
set_option linter.unusedSimpArgs false
set_option maxRecDepth 100000
open Go.Proofs
variable {H : Hp} {n : Nat} {x : Nat → Option SO} {i q s D M W a b c : Nat} {d d' : Fd} {C C' : Ce} {T : Bt}
def stopT (T : Bt) : Bt := { T with on := false, slot := 0, ver := 0 }
def runT (slot : Int) (ver : Nat) (T : Bt) : Bt := { T with on := true, slot := slot, ver := ver }
abbrev RdV := Nat × ByteArray × Int
def finR (k : Sq) (T : Bt) : RdV × Bt :=
  let p := Sl.srT T.bs T.r k.cf T.d
  if p.2.2 ≠ 0 then ((0, ⟨#[]⟩, p.2.2), T) else if (p.1 : Int) < k.fl then ((0, ⟨#[]⟩, 12), T) else (p, runT k.cf p.1 T)
def fineB (k : Sq) (p : RdV) : Bool := decide (k.lf > 0) && decide (p.2.2 = 0) && decide ((p.1 : Int) ≥ k.fl)
def nxQ (k : Sq) (p : RdV) : Sq := if fineB k p then { k with lf := k.lf - 1 } else sdQ k
def tryR (k : Sq) (T : Bt) : RdV × Bt :=
  let p := Sl.srT T.bs T.r k.tr T.d
  let z := kpR (nxQ k p) T
  if z.1 ≠ 0 then ((0, ⟨#[]⟩, z.1), z.2) else if fineB k p then ((p.1, p.2.1, 0), runT k.tr p.1 z.2) else finR k z.2
def boR (T : Bt) : RdV × Bt :=
  if (stQ T.C.now).cf < 0 then ((0, ⟨#[]⟩, 5), stopT T) else if 0 ≤ (stQ T.C.now).tr then tryR (stQ T.C.now) (stopT T) else finR (stQ T.C.now) (stopT T)
theorem stQ_lf {es : List (Value × Value)} : 0 ≤ (stQ es).lf ∧ (stQ es).lf ≤ 255 := by
  unfold stQ
  split
  · exact bt_le
  · decide
theorem stQ_cf {es : List (Value × Value)} : -1 ≤ (stQ es).cf ∧ (stQ es).cf ≤ 254 := by
  unfold stQ
  split
  · have := @bt_le (tOf es boot4) 0
    unfold bt; simp only; omega
  · decide
theorem kpR_k {k : Sq} {m t : Nat} (h : BtK T m t) (ht : t + 1133 < 1000000) (hn : T.C.num + 1 < 1000000000000) : BtK (kpR k T).2 m (t + 133) ∧ (kpR k T).2.C.num ≤ T.C.num + 1 ∧ (kpR k T).2.bs = T.bs ∧ (kpR k T).2.r = T.r := by
  have hC := h.C
  have hk : Es (kv boot4 (st4 k)) := kv4_es (by rw [st4_size]; decide)
  have hP : Pl (kpR k T).2.d m (t + 133) := coR_pl h.P h.t hC.half.2
  have hc : ∀ p, coR (kpC k T.C) T.d = p → (p.2.1.num ≤ T.C.num + 1 ∧ p.2.1.base = T.C.base ∧ p.2.1.half = T.C.half ∧ p.2.1.last ≤ 1 ∧ p.2.1.now = kv boot4 (st4 k) ∧ (p.2.1.was = T.C.was ∨ p.2.1.was = kv boot4 (st4 k))) := by
    intro p hp
    subst hp
    have hl := hC.last
    unfold coR
    split
    · exact ⟨Nat.le_succ _, rfl, rfl, hl, rfl, .inl rfl⟩
    split
    · exact ⟨Nat.le_succ _, rfl, rfl, hl, rfl, .inl rfl⟩
    split
    · exact ⟨Nat.le_succ _, rfl, rfl, hl, rfl, .inl rfl⟩
    · exact ⟨Nat.le_refl _, rfl, rfl, Nat.sub_le _ _, rfl, .inr rfl⟩
  obtain ⟨h1, h2, h3, h4, h5, h6⟩ := hc _ rfl
  have hW : Es (coR (kpC k T.C) T.d).2.1.was := by rcases h6 with h | h <;> rw [h]; exact hC.was; exact hk
  unfold kpR kpF at *
  simp only at *
  by_cases c1 : (coR (kpC k T.C) T.d).1 = 0
  · simp only [if_pos c1]
    exact ⟨⟨⟨by rw [h5]; exact hk, hW, by rw [h3]; exact hC.half, by rw [h2]; exact hC.base, h4, Nat.lt_of_le_of_lt h1 hn⟩, hP, ht, h.bs, h.r, h.len, by rw [h2, h3]; exact h.clen⟩, h1, trivial, trivial⟩
  · simp only [if_neg c1]
    exact ⟨⟨⟨hW, hW, by simp only [h3]; exact hC.half, by simp only [h2]; exact hC.base, h4, Nat.lt_of_le_of_lt h1 hn⟩, hP, ht, h.bs, h.r, h.len, by simp only [h2, h3]; exact h.clen⟩, h1, trivial, trivial⟩
set_option maxHeartbeats 4000000 in
theorem bootW {m t : Nat} (hK : BtK T m t) (ht : t + 1133 < 1000000) (hnum : T.C.num + 1 < 1000000000000) (hx : NoX x) : fnVC CT mBBoot [.ptr 1 0] ⟨btL T true, x⟩ 10 fun v H' n' => Sub 10 ⟨[(0, Sl.rV (boR T).1)], ⟨btN (boR T).2, x⟩, 15⟩ ⟨[(0, v)], H', n'⟩ := by
  have hx' : x 4001003 = some ⟨false, .sv (sqL nthQ)⟩ := hx
  have hKs : BtK (stopT T) m t := ⟨hK.C, hK.P, hK.t, hK.bs, hK.r, hK.len, hK.clen⟩
  unfold mBBoot btL btB
  simp -implicitDefEqProofs only [↓fnVC, initTm]
  simp -implicitDefEqProofs only [go_sem]
  refine at_call tBState (stateS (T := T) (i := 1) (q := 2) (s := 3) (D := 4) (a := 5) (b := 6) (c := 7) (M := 8) (W := 9) ⟨by rfl, by rfl, by rfl, by rfl, by rfl, by rfl, by rfl, by rfl, by rfl, by decide, by rfl, by rfl⟩ hK.C.now hx) ?_
  unfold sqV sqL
  simp -implicitDefEqProofs only [go_sem, splice_zero, splice_succ, List.drop_succ_cons, List.drop_zero, List.drop_nil, List.cons_append, List.nil_append, List.take_succ_cons, List.take_zero, List.length_cons, List.length_nil]
  by_cases c1 : (stQ T.C.now).cf < 0
  · have a1 : decide ((stQ T.C.now).cf < 0) = true := decide_eq_true c1
    rw [show boR T = ((0, ⟨#[]⟩, 5), stopT T) from if_pos c1]
    simp -implicitDefEqProofs only [go_sem, a1]
    refine in_call mixT tBstop ?_
    unfold mBstop
    simp -implicitDefEqProofs only [↓fnVC, initTm]
    simp -implicitDefEqProofs only [go_sem, splice_zero, splice_succ, List.drop_succ_cons, List.drop_zero, List.drop_nil, List.cons_append, List.nil_append, List.take_succ_cons, List.take_zero, List.length_cons, List.length_nil]
    unfold btN btB stopT Sl.rV
    refine sub_mk [(10, 5), (11, 6), (12, 7), (13, 8), (14, 9)] rfl rfl rfl ?_
    simp only [tmSub, hpSub, objSub, eqTm, eqHp, rn, lk, SV.ren, SV.renC, SV.renB, SV.renA, ren_ints, ren_strs, ren_pl, ren_svs, SV.v.injEq, Value.int.injEq, Body.ints.injEq, SV.ptr.injEq, SV.sl.injEq, Value.string.injEq, Value.bool.injEq, List.map_cons, List.map_nil, forall_const, Nat.reduceLT, Nat.lt_add_one, imp_self, true_and, and_true, and_self, ob_some, get_mk, lk_cons, ↓reduceIte, Nat.reduceEqDiff, ne_eq, not_true_eq_false, not_false_eq_true, Nat.one_ne_zero, Nat.zero_ne_one, Nat.succ_ne_self, Nat.reduceAdd, Bool.false_eq_true, false_implies, implies_true, reduceCtorEq]
    repeat' (first | rfl | apply And.intro)
  have a1 : decide ((stQ T.C.now).cf < 0) = false := decide_eq_false c1
  simp -implicitDefEqProofs only [go_sem, a1]
  refine in_call mixT tBstop ?_
  unfold mBstop
  simp -implicitDefEqProofs only [↓fnVC, initTm]
  simp -implicitDefEqProofs only [go_sem, splice_zero, splice_succ, List.drop_succ_cons, List.drop_zero, List.drop_nil, List.cons_append, List.nil_append, List.take_succ_cons, List.take_zero, List.length_cons, List.length_nil]
  by_cases c2 : 0 ≤ (stQ T.C.now).tr
  · have a2 : decide ((stQ T.C.now).tr ≥ 0) = true := decide_eq_true c2
    simp -implicitDefEqProofs only [go_sem, a2]
    obtain ⟨⟨v1, I1, e1⟩, hr1⟩ : ∃ p, Sl.srT T.bs T.r (stQ T.C.now).tr T.d = p := ⟨_, rfl⟩
    refine at_call tSRead (Sl.sreadS (q := 3) (i := 4) (a := 5) (b := 6) (c := 7) (d := T.d) hK.bs hK.r (by rfl) ⟨by rfl, by rfl, by rfl, by rfl, by decide⟩ (by decide) hK.P.ok (by rw [hK.P.len]; exact hK.len) hr1) ?_
    unfold Sl.rV
    simp -implicitDefEqProofs only [go_sem]
    have hr3 : Sl.srT (stopT T).bs (stopT T).r (stQ T.C.now).tr (stopT T).d = (v1, I1, e1) := hr1
    cases p1 : decide ((stQ T.C.now).lf > 0) with
    | false =>
      have hf : fineB (stQ T.C.now) (v1, I1, e1) = false := by unfold fineB; simp only [p1]; rfl
      have hnx : nxQ (stQ T.C.now) (v1, I1, e1) = sdQ (stQ T.C.now) := by unfold nxQ; rw [hf]; rfl
      simp -implicitDefEqProofs only [go_sem, p1]
      refine at_call tBsettled (settledS (k := stQ T.C.now) hx) ?_
      unfold sqV sqL
      simp -implicitDefEqProofs only [go_sem, p1, splice_zero, splice_succ, List.drop_succ_cons, List.drop_zero, List.drop_nil, List.cons_append, List.nil_append, List.take_succ_cons, List.take_zero, List.length_cons, List.length_nil]
      obtain ⟨⟨e, T1⟩, hk⟩ : ∃ p, kpR (sdQ (stQ T.C.now)) (stopT T) = p := ⟨_, rfl⟩
      have hkk := kpR_k (k := (sdQ (stQ T.C.now))) hKs ht hnum
      rw [hk] at hkk
      obtain ⟨hK1, _, hb1, hb2⟩ := hkk
      have hT : boR T = if e ≠ 0 then ((0, ⟨#[]⟩, e), T1) else if fineB (stQ T.C.now) (v1, I1, e1) then ((v1, I1, 0), runT (stQ T.C.now).tr v1 T1) else finR (stQ T.C.now) T1 := by
        unfold boR; rw [if_neg c1, if_pos c2]; unfold tryR; simp only [hr3]; rw [hnx, hk]
      refine at_call tBkeep (keepS (T := stopT T) (k := sdQ (stQ T.C.now)) (i := 1) (q := 2) (s := 3) (D := 4) (a := 5) (b := 6) (c := 7) (M := 8) (W := 9) ⟨by rfl, by rfl, by rfl, by rfl, by rfl, by rfl, by rfl, by rfl, by rfl, by decide, by rfl, by rfl⟩ hKs hx (by decide) hk) ?_
      rw [btF_eq]
      unfold btB
      simp -implicitDefEqProofs only [go_sem]
      by_cases d1 : e = 0
      case neg =>
        have k1 : decide (e = 0) = false := decide_eq_false d1
        simp -implicitDefEqProofs only [go_sem, k1, p1]
        rw [hT, if_pos d1]
        unfold btN btB
        refine sub_mk [(10, 12), (11, 13), (12, 14), (13, 15), (14, 16)] rfl rfl rfl ?_
        simp only [tmSub, hpSub, objSub, eqTm, eqHp, rn, lk, SV.ren, SV.renC, SV.renB, SV.renA, ren_ints, ren_strs, ren_pl, ren_svs, SV.v.injEq, Value.int.injEq, Body.ints.injEq, SV.ptr.injEq, SV.sl.injEq, Value.string.injEq, Value.bool.injEq, List.map_cons, List.map_nil, forall_const, Nat.reduceLT, Nat.lt_add_one, imp_self, true_and, and_true, and_self, ob_some, get_mk, lk_cons, ↓reduceIte, Nat.reduceEqDiff, ne_eq, not_true_eq_false, not_false_eq_true, Nat.one_ne_zero, Nat.zero_ne_one, Nat.succ_ne_self, Nat.reduceAdd, Bool.false_eq_true, false_implies, implies_true, reduceCtorEq, stopT]
        repeat' (first | rfl | apply And.intro)
      have k1 : decide (e = 0) = true := decide_eq_true d1
      simp -implicitDefEqProofs only [go_sem, k1, p1]
      obtain ⟨⟨v2, I2, e2⟩, hr2⟩ : ∃ p, Sl.srT T1.bs T1.r (stQ T.C.now).cf T1.d = p := ⟨_, rfl⟩
      have hr3 : Sl.srT T1.bs T1.r (stQ T.C.now).cf T1.d = (v2, I2, e2) := by exact hr2
      refine at_call tSRead (Sl.sreadS (q := 3) (i := 4) (a := 12) (b := 13) (c := 14) (d := T1.d) hK1.bs hK1.r (by rfl) ⟨by rfl, by rfl, by rfl, by rfl, by decide⟩ (by decide) hK1.P.ok (by rw [hK1.P.len]; exact hK1.len) hr2) ?_
      unfold Sl.rV
      simp -implicitDefEqProofs only [go_sem]
      by_cases g1 : e2 = 0
      · have b1 : decide (e2 = 0) = true := decide_eq_true g1
        simp -implicitDefEqProofs only [go_sem, b1]
        by_cases g2 : (v2 : Int) < (stQ T.C.now).fl
        · have b2 : decide ((v2 : Int) < (stQ T.C.now).fl) = true := decide_eq_true g2
          simp -implicitDefEqProofs only [go_sem, b2]
          rw [show boR T = ((0, ⟨#[]⟩, 12), T1) by rw [hT, if_neg (by simp [d1]), hf, if_neg Bool.false_ne_true]; unfold finR; simp only [hr3]; rw [if_neg (by simp [g1]), if_pos g2]]
          unfold btN btB
          refine sub_mk [(10, 12), (11, 13), (12, 14), (13, 15), (14, 16)] rfl rfl rfl ?_
          simp only [tmSub, hpSub, objSub, eqTm, eqHp, rn, lk, SV.ren, SV.renC, SV.renB, SV.renA, ren_ints, ren_strs, ren_pl, ren_svs, SV.v.injEq, Value.int.injEq, Body.ints.injEq, SV.ptr.injEq, SV.sl.injEq, Value.string.injEq, Value.bool.injEq, List.map_cons, List.map_nil, forall_const, Nat.reduceLT, Nat.lt_add_one, imp_self, true_and, and_true, and_self, ob_some, get_mk, lk_cons, ↓reduceIte, Nat.reduceEqDiff, ne_eq, not_true_eq_false, not_false_eq_true, Nat.one_ne_zero, Nat.zero_ne_one, Nat.succ_ne_self, Nat.reduceAdd, Bool.false_eq_true, false_implies, implies_true, reduceCtorEq, stopT]
          repeat' (first | rfl | apply And.intro)
        · have b2 : decide ((v2 : Int) < (stQ T.C.now).fl) = false := decide_eq_false g2
          simp -implicitDefEqProofs only [go_sem, b2]
          refine in_call mixT tBstart ?_
          unfold mBstart
          simp -implicitDefEqProofs only [↓fnVC, initTm]
          simp -implicitDefEqProofs only [go_sem, splice_zero, splice_succ, List.drop_succ_cons, List.drop_zero, List.drop_nil, List.cons_append, List.nil_append, List.take_succ_cons, List.take_zero, List.length_cons, List.length_nil]
          rw [show boR T = ((v2, I2, e2), runT (stQ T.C.now).cf v2 T1) by rw [hT, if_neg (by simp [d1]), hf, if_neg Bool.false_ne_true]; unfold finR; simp only [hr3]; rw [if_neg (by simp [g1]), if_neg g2]]
          rw [g1]
          unfold btN btB runT
          refine sub_mk [(10, 12), (11, 13), (12, 14), (13, 15), (14, 16)] rfl rfl rfl ?_
          simp only [tmSub, hpSub, objSub, eqTm, eqHp, rn, lk, SV.ren, SV.renC, SV.renB, SV.renA, ren_ints, ren_strs, ren_pl, ren_svs, SV.v.injEq, Value.int.injEq, Body.ints.injEq, SV.ptr.injEq, SV.sl.injEq, Value.string.injEq, Value.bool.injEq, List.map_cons, List.map_nil, forall_const, Nat.reduceLT, Nat.lt_add_one, imp_self, true_and, and_true, and_self, ob_some, get_mk, lk_cons, ↓reduceIte, Nat.reduceEqDiff, ne_eq, not_true_eq_false, not_false_eq_true, Nat.one_ne_zero, Nat.zero_ne_one, Nat.succ_ne_self, Nat.reduceAdd, Bool.false_eq_true, false_implies, implies_true, reduceCtorEq, stopT]
          repeat' (first | rfl | apply And.intro)
      · have b1 : decide (e2 = 0) = false := decide_eq_false g1
        simp -implicitDefEqProofs only [go_sem, b1]
        rw [show boR T = ((0, ⟨#[]⟩, e2), T1) by rw [hT, if_neg (by simp [d1]), hf, if_neg Bool.false_ne_true]; unfold finR; simp only [hr3]; rw [if_pos g1]]
        unfold btN btB
        refine sub_mk [(10, 12), (11, 13), (12, 14), (13, 15), (14, 16)] rfl rfl rfl ?_
        simp only [tmSub, hpSub, objSub, eqTm, eqHp, rn, lk, SV.ren, SV.renC, SV.renB, SV.renA, ren_ints, ren_strs, ren_pl, ren_svs, SV.v.injEq, Value.int.injEq, Body.ints.injEq, SV.ptr.injEq, SV.sl.injEq, Value.string.injEq, Value.bool.injEq, List.map_cons, List.map_nil, forall_const, Nat.reduceLT, Nat.lt_add_one, imp_self, true_and, and_true, and_self, ob_some, get_mk, lk_cons, ↓reduceIte, Nat.reduceEqDiff, ne_eq, not_true_eq_false, not_false_eq_true, Nat.one_ne_zero, Nat.zero_ne_one, Nat.succ_ne_self, Nat.reduceAdd, Bool.false_eq_true, false_implies, implies_true, reduceCtorEq, stopT]
        repeat' (first | rfl | apply And.intro)
    | true =>
      cases p2 : decide (e1 = 0) with
      | false =>
        have hf : fineB (stQ T.C.now) (v1, I1, e1) = false := by unfold fineB; simp only [p1, p2]; rfl
        have hnx : nxQ (stQ T.C.now) (v1, I1, e1) = sdQ (stQ T.C.now) := by unfold nxQ; rw [hf]; rfl
        simp -implicitDefEqProofs only [go_sem, p1, p2]
        refine at_call tBsettled (settledS (k := stQ T.C.now) hx) ?_
        unfold sqV sqL
        simp -implicitDefEqProofs only [go_sem, p1, p2, splice_zero, splice_succ, List.drop_succ_cons, List.drop_zero, List.drop_nil, List.cons_append, List.nil_append, List.take_succ_cons, List.take_zero, List.length_cons, List.length_nil]
        obtain ⟨⟨e, T1⟩, hk⟩ : ∃ p, kpR (sdQ (stQ T.C.now)) (stopT T) = p := ⟨_, rfl⟩
        have hkk := kpR_k (k := (sdQ (stQ T.C.now))) hKs ht hnum
        rw [hk] at hkk
        obtain ⟨hK1, _, hb1, hb2⟩ := hkk
        have hT : boR T = if e ≠ 0 then ((0, ⟨#[]⟩, e), T1) else if fineB (stQ T.C.now) (v1, I1, e1) then ((v1, I1, 0), runT (stQ T.C.now).tr v1 T1) else finR (stQ T.C.now) T1 := by
          unfold boR; rw [if_neg c1, if_pos c2]; unfold tryR; simp only [hr3]; rw [hnx, hk]
        refine at_call tBkeep (keepS (T := stopT T) (k := sdQ (stQ T.C.now)) (i := 1) (q := 2) (s := 3) (D := 4) (a := 5) (b := 6) (c := 7) (M := 8) (W := 9) ⟨by rfl, by rfl, by rfl, by rfl, by rfl, by rfl, by rfl, by rfl, by rfl, by decide, by rfl, by rfl⟩ hKs hx (by decide) hk) ?_
        rw [btF_eq]
        unfold btB
        simp -implicitDefEqProofs only [go_sem]
        by_cases d1 : e = 0
        case neg =>
          have k1 : decide (e = 0) = false := decide_eq_false d1
          simp -implicitDefEqProofs only [go_sem, k1, p1, p2]
          rw [hT, if_pos d1]
          unfold btN btB
          refine sub_mk [(10, 12), (11, 13), (12, 14), (13, 15), (14, 16)] rfl rfl rfl ?_
          simp only [tmSub, hpSub, objSub, eqTm, eqHp, rn, lk, SV.ren, SV.renC, SV.renB, SV.renA, ren_ints, ren_strs, ren_pl, ren_svs, SV.v.injEq, Value.int.injEq, Body.ints.injEq, SV.ptr.injEq, SV.sl.injEq, Value.string.injEq, Value.bool.injEq, List.map_cons, List.map_nil, forall_const, Nat.reduceLT, Nat.lt_add_one, imp_self, true_and, and_true, and_self, ob_some, get_mk, lk_cons, ↓reduceIte, Nat.reduceEqDiff, ne_eq, not_true_eq_false, not_false_eq_true, Nat.one_ne_zero, Nat.zero_ne_one, Nat.succ_ne_self, Nat.reduceAdd, Bool.false_eq_true, false_implies, implies_true, reduceCtorEq, stopT]
          repeat' (first | rfl | apply And.intro)
        have k1 : decide (e = 0) = true := decide_eq_true d1
        simp -implicitDefEqProofs only [go_sem, k1, p1, p2]
        obtain ⟨⟨v2, I2, e2⟩, hr2⟩ : ∃ p, Sl.srT T1.bs T1.r (stQ T.C.now).cf T1.d = p := ⟨_, rfl⟩
        have hr3 : Sl.srT T1.bs T1.r (stQ T.C.now).cf T1.d = (v2, I2, e2) := by exact hr2
        refine at_call tSRead (Sl.sreadS (q := 3) (i := 4) (a := 12) (b := 13) (c := 14) (d := T1.d) hK1.bs hK1.r (by rfl) ⟨by rfl, by rfl, by rfl, by rfl, by decide⟩ (by decide) hK1.P.ok (by rw [hK1.P.len]; exact hK1.len) hr2) ?_
        unfold Sl.rV
        simp -implicitDefEqProofs only [go_sem]
        by_cases g1 : e2 = 0
        · have b1 : decide (e2 = 0) = true := decide_eq_true g1
          simp -implicitDefEqProofs only [go_sem, b1]
          by_cases g2 : (v2 : Int) < (stQ T.C.now).fl
          · have b2 : decide ((v2 : Int) < (stQ T.C.now).fl) = true := decide_eq_true g2
            simp -implicitDefEqProofs only [go_sem, b2]
            rw [show boR T = ((0, ⟨#[]⟩, 12), T1) by rw [hT, if_neg (by simp [d1]), hf, if_neg Bool.false_ne_true]; unfold finR; simp only [hr3]; rw [if_neg (by simp [g1]), if_pos g2]]
            unfold btN btB
            refine sub_mk [(10, 12), (11, 13), (12, 14), (13, 15), (14, 16)] rfl rfl rfl ?_
            simp only [tmSub, hpSub, objSub, eqTm, eqHp, rn, lk, SV.ren, SV.renC, SV.renB, SV.renA, ren_ints, ren_strs, ren_pl, ren_svs, SV.v.injEq, Value.int.injEq, Body.ints.injEq, SV.ptr.injEq, SV.sl.injEq, Value.string.injEq, Value.bool.injEq, List.map_cons, List.map_nil, forall_const, Nat.reduceLT, Nat.lt_add_one, imp_self, true_and, and_true, and_self, ob_some, get_mk, lk_cons, ↓reduceIte, Nat.reduceEqDiff, ne_eq, not_true_eq_false, not_false_eq_true, Nat.one_ne_zero, Nat.zero_ne_one, Nat.succ_ne_self, Nat.reduceAdd, Bool.false_eq_true, false_implies, implies_true, reduceCtorEq, stopT]
            repeat' (first | rfl | apply And.intro)
          · have b2 : decide ((v2 : Int) < (stQ T.C.now).fl) = false := decide_eq_false g2
            simp -implicitDefEqProofs only [go_sem, b2]
            refine in_call mixT tBstart ?_
            unfold mBstart
            simp -implicitDefEqProofs only [↓fnVC, initTm]
            simp -implicitDefEqProofs only [go_sem, splice_zero, splice_succ, List.drop_succ_cons, List.drop_zero, List.drop_nil, List.cons_append, List.nil_append, List.take_succ_cons, List.take_zero, List.length_cons, List.length_nil]
            rw [show boR T = ((v2, I2, e2), runT (stQ T.C.now).cf v2 T1) by rw [hT, if_neg (by simp [d1]), hf, if_neg Bool.false_ne_true]; unfold finR; simp only [hr3]; rw [if_neg (by simp [g1]), if_neg g2]]
            rw [g1]
            unfold btN btB runT
            refine sub_mk [(10, 12), (11, 13), (12, 14), (13, 15), (14, 16)] rfl rfl rfl ?_
            simp only [tmSub, hpSub, objSub, eqTm, eqHp, rn, lk, SV.ren, SV.renC, SV.renB, SV.renA, ren_ints, ren_strs, ren_pl, ren_svs, SV.v.injEq, Value.int.injEq, Body.ints.injEq, SV.ptr.injEq, SV.sl.injEq, Value.string.injEq, Value.bool.injEq, List.map_cons, List.map_nil, forall_const, Nat.reduceLT, Nat.lt_add_one, imp_self, true_and, and_true, and_self, ob_some, get_mk, lk_cons, ↓reduceIte, Nat.reduceEqDiff, ne_eq, not_true_eq_false, not_false_eq_true, Nat.one_ne_zero, Nat.zero_ne_one, Nat.succ_ne_self, Nat.reduceAdd, Bool.false_eq_true, false_implies, implies_true, reduceCtorEq, stopT]
            repeat' (first | rfl | apply And.intro)
        · have b1 : decide (e2 = 0) = false := decide_eq_false g1
          simp -implicitDefEqProofs only [go_sem, b1]
          rw [show boR T = ((0, ⟨#[]⟩, e2), T1) by rw [hT, if_neg (by simp [d1]), hf, if_neg Bool.false_ne_true]; unfold finR; simp only [hr3]; rw [if_pos g1]]
          unfold btN btB
          refine sub_mk [(10, 12), (11, 13), (12, 14), (13, 15), (14, 16)] rfl rfl rfl ?_
          simp only [tmSub, hpSub, objSub, eqTm, eqHp, rn, lk, SV.ren, SV.renC, SV.renB, SV.renA, ren_ints, ren_strs, ren_pl, ren_svs, SV.v.injEq, Value.int.injEq, Body.ints.injEq, SV.ptr.injEq, SV.sl.injEq, Value.string.injEq, Value.bool.injEq, List.map_cons, List.map_nil, forall_const, Nat.reduceLT, Nat.lt_add_one, imp_self, true_and, and_true, and_self, ob_some, get_mk, lk_cons, ↓reduceIte, Nat.reduceEqDiff, ne_eq, not_true_eq_false, not_false_eq_true, Nat.one_ne_zero, Nat.zero_ne_one, Nat.succ_ne_self, Nat.reduceAdd, Bool.false_eq_true, false_implies, implies_true, reduceCtorEq, stopT]
          repeat' (first | rfl | apply And.intro)
      | true =>
        cases p3 : decide ((v1 : Int) ≥ (stQ T.C.now).fl) with
        | false =>
          have hf : fineB (stQ T.C.now) (v1, I1, e1) = false := by unfold fineB; simp only [p1, p2, p3]; rfl
          have hnx : nxQ (stQ T.C.now) (v1, I1, e1) = sdQ (stQ T.C.now) := by unfold nxQ; rw [hf]; rfl
          simp -implicitDefEqProofs only [go_sem, p1, p2, p3]
          refine at_call tBsettled (settledS (k := stQ T.C.now) hx) ?_
          unfold sqV sqL
          simp -implicitDefEqProofs only [go_sem, p1, p2, p3, splice_zero, splice_succ, List.drop_succ_cons, List.drop_zero, List.drop_nil, List.cons_append, List.nil_append, List.take_succ_cons, List.take_zero, List.length_cons, List.length_nil]
          obtain ⟨⟨e, T1⟩, hk⟩ : ∃ p, kpR (sdQ (stQ T.C.now)) (stopT T) = p := ⟨_, rfl⟩
          have hkk := kpR_k (k := (sdQ (stQ T.C.now))) hKs ht hnum
          rw [hk] at hkk
          obtain ⟨hK1, _, hb1, hb2⟩ := hkk
          have hT : boR T = if e ≠ 0 then ((0, ⟨#[]⟩, e), T1) else if fineB (stQ T.C.now) (v1, I1, e1) then ((v1, I1, 0), runT (stQ T.C.now).tr v1 T1) else finR (stQ T.C.now) T1 := by
            unfold boR; rw [if_neg c1, if_pos c2]; unfold tryR; simp only [hr3]; rw [hnx, hk]
          refine at_call tBkeep (keepS (T := stopT T) (k := sdQ (stQ T.C.now)) (i := 1) (q := 2) (s := 3) (D := 4) (a := 5) (b := 6) (c := 7) (M := 8) (W := 9) ⟨by rfl, by rfl, by rfl, by rfl, by rfl, by rfl, by rfl, by rfl, by rfl, by decide, by rfl, by rfl⟩ hKs hx (by decide) hk) ?_
          rw [btF_eq]
          unfold btB
          simp -implicitDefEqProofs only [go_sem]
          by_cases d1 : e = 0
          case neg =>
            have k1 : decide (e = 0) = false := decide_eq_false d1
            simp -implicitDefEqProofs only [go_sem, k1, p1, p2, p3]
            rw [hT, if_pos d1]
            unfold btN btB
            refine sub_mk [(10, 12), (11, 13), (12, 14), (13, 15), (14, 16)] rfl rfl rfl ?_
            simp only [tmSub, hpSub, objSub, eqTm, eqHp, rn, lk, SV.ren, SV.renC, SV.renB, SV.renA, ren_ints, ren_strs, ren_pl, ren_svs, SV.v.injEq, Value.int.injEq, Body.ints.injEq, SV.ptr.injEq, SV.sl.injEq, Value.string.injEq, Value.bool.injEq, List.map_cons, List.map_nil, forall_const, Nat.reduceLT, Nat.lt_add_one, imp_self, true_and, and_true, and_self, ob_some, get_mk, lk_cons, ↓reduceIte, Nat.reduceEqDiff, ne_eq, not_true_eq_false, not_false_eq_true, Nat.one_ne_zero, Nat.zero_ne_one, Nat.succ_ne_self, Nat.reduceAdd, Bool.false_eq_true, false_implies, implies_true, reduceCtorEq, stopT]
            repeat' (first | rfl | apply And.intro)
          have k1 : decide (e = 0) = true := decide_eq_true d1
          simp -implicitDefEqProofs only [go_sem, k1, p1, p2, p3]
          obtain ⟨⟨v2, I2, e2⟩, hr2⟩ : ∃ p, Sl.srT T1.bs T1.r (stQ T.C.now).cf T1.d = p := ⟨_, rfl⟩
          have hr3 : Sl.srT T1.bs T1.r (stQ T.C.now).cf T1.d = (v2, I2, e2) := by exact hr2
          refine at_call tSRead (Sl.sreadS (q := 3) (i := 4) (a := 12) (b := 13) (c := 14) (d := T1.d) hK1.bs hK1.r (by rfl) ⟨by rfl, by rfl, by rfl, by rfl, by decide⟩ (by decide) hK1.P.ok (by rw [hK1.P.len]; exact hK1.len) hr2) ?_
          unfold Sl.rV
          simp -implicitDefEqProofs only [go_sem]
          by_cases g1 : e2 = 0
          · have b1 : decide (e2 = 0) = true := decide_eq_true g1
            simp -implicitDefEqProofs only [go_sem, b1]
            by_cases g2 : (v2 : Int) < (stQ T.C.now).fl
            · have b2 : decide ((v2 : Int) < (stQ T.C.now).fl) = true := decide_eq_true g2
              simp -implicitDefEqProofs only [go_sem, b2]
              rw [show boR T = ((0, ⟨#[]⟩, 12), T1) by rw [hT, if_neg (by simp [d1]), hf, if_neg Bool.false_ne_true]; unfold finR; simp only [hr3]; rw [if_neg (by simp [g1]), if_pos g2]]
              unfold btN btB
              refine sub_mk [(10, 12), (11, 13), (12, 14), (13, 15), (14, 16)] rfl rfl rfl ?_
              simp only [tmSub, hpSub, objSub, eqTm, eqHp, rn, lk, SV.ren, SV.renC, SV.renB, SV.renA, ren_ints, ren_strs, ren_pl, ren_svs, SV.v.injEq, Value.int.injEq, Body.ints.injEq, SV.ptr.injEq, SV.sl.injEq, Value.string.injEq, Value.bool.injEq, List.map_cons, List.map_nil, forall_const, Nat.reduceLT, Nat.lt_add_one, imp_self, true_and, and_true, and_self, ob_some, get_mk, lk_cons, ↓reduceIte, Nat.reduceEqDiff, ne_eq, not_true_eq_false, not_false_eq_true, Nat.one_ne_zero, Nat.zero_ne_one, Nat.succ_ne_self, Nat.reduceAdd, Bool.false_eq_true, false_implies, implies_true, reduceCtorEq, stopT]
              repeat' (first | rfl | apply And.intro)
            · have b2 : decide ((v2 : Int) < (stQ T.C.now).fl) = false := decide_eq_false g2
              simp -implicitDefEqProofs only [go_sem, b2]
              refine in_call mixT tBstart ?_
              unfold mBstart
              simp -implicitDefEqProofs only [↓fnVC, initTm]
              simp -implicitDefEqProofs only [go_sem, splice_zero, splice_succ, List.drop_succ_cons, List.drop_zero, List.drop_nil, List.cons_append, List.nil_append, List.take_succ_cons, List.take_zero, List.length_cons, List.length_nil]
              rw [show boR T = ((v2, I2, e2), runT (stQ T.C.now).cf v2 T1) by rw [hT, if_neg (by simp [d1]), hf, if_neg Bool.false_ne_true]; unfold finR; simp only [hr3]; rw [if_neg (by simp [g1]), if_neg g2]]
              rw [g1]
              unfold btN btB runT
              refine sub_mk [(10, 12), (11, 13), (12, 14), (13, 15), (14, 16)] rfl rfl rfl ?_
              simp only [tmSub, hpSub, objSub, eqTm, eqHp, rn, lk, SV.ren, SV.renC, SV.renB, SV.renA, ren_ints, ren_strs, ren_pl, ren_svs, SV.v.injEq, Value.int.injEq, Body.ints.injEq, SV.ptr.injEq, SV.sl.injEq, Value.string.injEq, Value.bool.injEq, List.map_cons, List.map_nil, forall_const, Nat.reduceLT, Nat.lt_add_one, imp_self, true_and, and_true, and_self, ob_some, get_mk, lk_cons, ↓reduceIte, Nat.reduceEqDiff, ne_eq, not_true_eq_false, not_false_eq_true, Nat.one_ne_zero, Nat.zero_ne_one, Nat.succ_ne_self, Nat.reduceAdd, Bool.false_eq_true, false_implies, implies_true, reduceCtorEq, stopT]
              repeat' (first | rfl | apply And.intro)
          · have b1 : decide (e2 = 0) = false := decide_eq_false g1
            simp -implicitDefEqProofs only [go_sem, b1]
            rw [show boR T = ((0, ⟨#[]⟩, e2), T1) by rw [hT, if_neg (by simp [d1]), hf, if_neg Bool.false_ne_true]; unfold finR; simp only [hr3]; rw [if_pos g1]]
            unfold btN btB
            refine sub_mk [(10, 12), (11, 13), (12, 14), (13, 15), (14, 16)] rfl rfl rfl ?_
            simp only [tmSub, hpSub, objSub, eqTm, eqHp, rn, lk, SV.ren, SV.renC, SV.renB, SV.renA, ren_ints, ren_strs, ren_pl, ren_svs, SV.v.injEq, Value.int.injEq, Body.ints.injEq, SV.ptr.injEq, SV.sl.injEq, Value.string.injEq, Value.bool.injEq, List.map_cons, List.map_nil, forall_const, Nat.reduceLT, Nat.lt_add_one, imp_self, true_and, and_true, and_self, ob_some, get_mk, lk_cons, ↓reduceIte, Nat.reduceEqDiff, ne_eq, not_true_eq_false, not_false_eq_true, Nat.one_ne_zero, Nat.zero_ne_one, Nat.succ_ne_self, Nat.reduceAdd, Bool.false_eq_true, false_implies, implies_true, reduceCtorEq, stopT]
            repeat' (first | rfl | apply And.intro)
        | true =>
          have hf : fineB (stQ T.C.now) (v1, I1, e1) = true := by unfold fineB; simp only [p1, p2, p3]; rfl
          have hnx : nxQ (stQ T.C.now) (v1, I1, e1) = { stQ T.C.now with lf := (stQ T.C.now).lf - 1 } := by unfold nxQ; rw [hf]; rfl
          have w1 : IntKind.i64.wrap ((stQ T.C.now).lf - 1) = (stQ T.C.now).lf - 1 := by have := @stQ_lf T.C.now; exact wrap_i64 (by omega) (by omega)
          simp -implicitDefEqProofs only [go_sem, p1, p2, p3]
          refine at_call tBsettled (settledS (k := stQ T.C.now) hx) ?_
          unfold sqV sqL
          simp -implicitDefEqProofs only [go_sem, w1, p1, p2, p3, splice_zero, splice_succ, List.drop_succ_cons, List.drop_zero, List.drop_nil, List.cons_append, List.nil_append, List.take_succ_cons, List.take_zero, List.length_cons, List.length_nil]
          obtain ⟨⟨e, T1⟩, hk⟩ : ∃ p, kpR { stQ T.C.now with lf := (stQ T.C.now).lf - 1 } (stopT T) = p := ⟨_, rfl⟩
          have hkk := kpR_k (k := { stQ T.C.now with lf := (stQ T.C.now).lf - 1 }) hKs ht hnum
          rw [hk] at hkk
          obtain ⟨hK1, _, hb1, hb2⟩ := hkk
          have hT : boR T = if e ≠ 0 then ((0, ⟨#[]⟩, e), T1) else if fineB (stQ T.C.now) (v1, I1, e1) then ((v1, I1, 0), runT (stQ T.C.now).tr v1 T1) else finR (stQ T.C.now) T1 := by
            unfold boR; rw [if_neg c1, if_pos c2]; unfold tryR; simp only [hr3]; rw [hnx, hk]
          refine at_call tBkeep (keepS (T := stopT T) (k := { stQ T.C.now with lf := (stQ T.C.now).lf - 1 }) (i := 1) (q := 2) (s := 3) (D := 4) (a := 5) (b := 6) (c := 7) (M := 8) (W := 9) ⟨by rfl, by rfl, by rfl, by rfl, by rfl, by rfl, by rfl, by rfl, by rfl, by decide, by rfl, by rfl⟩ hKs hx (by decide) hk) ?_
          rw [btF_eq]
          unfold btB
          simp -implicitDefEqProofs only [go_sem]
          by_cases d1 : e = 0
          case neg =>
            have k1 : decide (e = 0) = false := decide_eq_false d1
            simp -implicitDefEqProofs only [go_sem, k1, p1, p2, p3]
            rw [hT, if_pos d1]
            unfold btN btB
            refine sub_mk [(10, 12), (11, 13), (12, 14), (13, 15), (14, 16)] rfl rfl rfl ?_
            simp only [tmSub, hpSub, objSub, eqTm, eqHp, rn, lk, SV.ren, SV.renC, SV.renB, SV.renA, ren_ints, ren_strs, ren_pl, ren_svs, SV.v.injEq, Value.int.injEq, Body.ints.injEq, SV.ptr.injEq, SV.sl.injEq, Value.string.injEq, Value.bool.injEq, List.map_cons, List.map_nil, forall_const, Nat.reduceLT, Nat.lt_add_one, imp_self, true_and, and_true, and_self, ob_some, get_mk, lk_cons, ↓reduceIte, Nat.reduceEqDiff, ne_eq, not_true_eq_false, not_false_eq_true, Nat.one_ne_zero, Nat.zero_ne_one, Nat.succ_ne_self, Nat.reduceAdd, Bool.false_eq_true, false_implies, implies_true, reduceCtorEq, stopT]
            repeat' (first | rfl | apply And.intro)
          have k1 : decide (e = 0) = true := decide_eq_true d1
          simp -implicitDefEqProofs only [go_sem, k1, p1, p2, p3]
          refine in_call mixT tBstart ?_
          unfold mBstart
          simp -implicitDefEqProofs only [↓fnVC, initTm]
          simp -implicitDefEqProofs only [go_sem, splice_zero, splice_succ, List.drop_succ_cons, List.drop_zero, List.drop_nil, List.cons_append, List.nil_append, List.take_succ_cons, List.take_zero, List.length_cons, List.length_nil]
          rw [hT, if_neg (by simp [d1]), hf, if_pos rfl]
          unfold btN btB runT
          refine sub_mk [(10, 12), (11, 13), (12, 14), (13, 15), (14, 16)] rfl rfl rfl ?_
          simp only [tmSub, hpSub, objSub, eqTm, eqHp, rn, lk, SV.ren, SV.renC, SV.renB, SV.renA, ren_ints, ren_strs, ren_pl, ren_svs, SV.v.injEq, Value.int.injEq, Body.ints.injEq, SV.ptr.injEq, SV.sl.injEq, Value.string.injEq, Value.bool.injEq, List.map_cons, List.map_nil, forall_const, Nat.reduceLT, Nat.lt_add_one, imp_self, true_and, and_true, and_self, ob_some, get_mk, lk_cons, ↓reduceIte, Nat.reduceEqDiff, ne_eq, not_true_eq_false, not_false_eq_true, Nat.one_ne_zero, Nat.zero_ne_one, Nat.succ_ne_self, Nat.reduceAdd, Bool.false_eq_true, false_implies, implies_true, reduceCtorEq, stopT]
          repeat' (first | rfl | apply And.intro)
  have a2 : decide ((stQ T.C.now).tr ≥ 0) = false := decide_eq_false c2
  simp -implicitDefEqProofs only [go_sem, a2]
  obtain ⟨⟨v2, I2, e2⟩, hr2⟩ : ∃ p, Sl.srT T.bs T.r (stQ T.C.now).cf (stopT T).d = p := ⟨_, rfl⟩
  have hr3 : Sl.srT (stopT T).bs (stopT T).r (stQ T.C.now).cf (stopT T).d = (v2, I2, e2) := by exact hr2
  refine at_call tSRead (Sl.sreadS (q := 3) (i := 4) (a := 5) (b := 6) (c := 7) (d := (stopT T).d) hKs.bs hKs.r (by rfl) ⟨by rfl, by rfl, by rfl, by rfl, by decide⟩ (by decide) hKs.P.ok (by rw [hKs.P.len]; exact hKs.len) hr2) ?_
  unfold Sl.rV
  simp -implicitDefEqProofs only [go_sem]
  by_cases g1 : e2 = 0
  · have b1 : decide (e2 = 0) = true := decide_eq_true g1
    simp -implicitDefEqProofs only [go_sem, b1]
    by_cases g2 : (v2 : Int) < (stQ T.C.now).fl
    · have b2 : decide ((v2 : Int) < (stQ T.C.now).fl) = true := decide_eq_true g2
      simp -implicitDefEqProofs only [go_sem, b2]
      rw [show boR T = ((0, ⟨#[]⟩, 12), (stopT T)) by unfold boR; rw [if_neg c1, if_neg c2]; unfold finR; simp only [hr3]; rw [if_neg (by simp [g1]), if_pos g2]]
      unfold btN btB
      refine sub_mk [(10, 5), (11, 6), (12, 7), (13, 8), (14, 9)] rfl rfl rfl ?_
      simp only [tmSub, hpSub, objSub, eqTm, eqHp, rn, lk, SV.ren, SV.renC, SV.renB, SV.renA, ren_ints, ren_strs, ren_pl, ren_svs, SV.v.injEq, Value.int.injEq, Body.ints.injEq, SV.ptr.injEq, SV.sl.injEq, Value.string.injEq, Value.bool.injEq, List.map_cons, List.map_nil, forall_const, Nat.reduceLT, Nat.lt_add_one, imp_self, true_and, and_true, and_self, ob_some, get_mk, lk_cons, ↓reduceIte, Nat.reduceEqDiff, ne_eq, not_true_eq_false, not_false_eq_true, Nat.one_ne_zero, Nat.zero_ne_one, Nat.succ_ne_self, Nat.reduceAdd, Bool.false_eq_true, false_implies, implies_true, reduceCtorEq, stopT]
      repeat' (first | rfl | apply And.intro)
    · have b2 : decide ((v2 : Int) < (stQ T.C.now).fl) = false := decide_eq_false g2
      simp -implicitDefEqProofs only [go_sem, b2]
      refine in_call mixT tBstart ?_
      unfold mBstart
      simp -implicitDefEqProofs only [↓fnVC, initTm]
      simp -implicitDefEqProofs only [go_sem, splice_zero, splice_succ, List.drop_succ_cons, List.drop_zero, List.drop_nil, List.cons_append, List.nil_append, List.take_succ_cons, List.take_zero, List.length_cons, List.length_nil]
      rw [show boR T = ((v2, I2, e2), runT (stQ T.C.now).cf v2 (stopT T)) by unfold boR; rw [if_neg c1, if_neg c2]; unfold finR; simp only [hr3]; rw [if_neg (by simp [g1]), if_neg g2]]
      rw [g1]
      unfold btN btB runT
      refine sub_mk [(10, 5), (11, 6), (12, 7), (13, 8), (14, 9)] rfl rfl rfl ?_
      simp only [tmSub, hpSub, objSub, eqTm, eqHp, rn, lk, SV.ren, SV.renC, SV.renB, SV.renA, ren_ints, ren_strs, ren_pl, ren_svs, SV.v.injEq, Value.int.injEq, Body.ints.injEq, SV.ptr.injEq, SV.sl.injEq, Value.string.injEq, Value.bool.injEq, List.map_cons, List.map_nil, forall_const, Nat.reduceLT, Nat.lt_add_one, imp_self, true_and, and_true, and_self, ob_some, get_mk, lk_cons, ↓reduceIte, Nat.reduceEqDiff, ne_eq, not_true_eq_false, not_false_eq_true, Nat.one_ne_zero, Nat.zero_ne_one, Nat.succ_ne_self, Nat.reduceAdd, Bool.false_eq_true, false_implies, implies_true, reduceCtorEq, stopT]
      repeat' (first | rfl | apply And.intro)
  · have b1 : decide (e2 = 0) = false := decide_eq_false g1
    simp -implicitDefEqProofs only [go_sem, b1]
    rw [show boR T = ((0, ⟨#[]⟩, e2), (stopT T)) by unfold boR; rw [if_neg c1, if_neg c2]; unfold finR; simp only [hr3]; rw [if_pos g1]]
    unfold btN btB
    refine sub_mk [(10, 5), (11, 6), (12, 7), (13, 8), (14, 9)] rfl rfl rfl ?_
    simp only [tmSub, hpSub, objSub, eqTm, eqHp, rn, lk, SV.ren, SV.renC, SV.renB, SV.renA, ren_ints, ren_strs, ren_pl, ren_svs, SV.v.injEq, Value.int.injEq, Body.ints.injEq, SV.ptr.injEq, SV.sl.injEq, Value.string.injEq, Value.bool.injEq, List.map_cons, List.map_nil, forall_const, Nat.reduceLT, Nat.lt_add_one, imp_self, true_and, and_true, and_self, ob_some, get_mk, lk_cons, ↓reduceIte, Nat.reduceEqDiff, ne_eq, not_true_eq_false, not_false_eq_true, Nat.one_ne_zero, Nat.zero_ne_one, Nat.succ_ne_self, Nat.reduceAdd, Bool.false_eq_true, false_implies, implies_true, reduceCtorEq, stopT]
    repeat' (first | rfl | apply And.intro)
end
section
/- Boot: Confirm. -/
set_option linter.unusedVariables false
set_option linter.unusedSimpArgs false
set_option maxRecDepth 100000
open Go.Proofs
variable {H : Hp} {n : Nat} {x : Nat → Option SO} {i q s D M W a b c : Nat} {d d' : Fd} {C C' : Ce} {T : Bt}
theorem bootS {m t : Nat} (h : BtAt H T i q s D a b c M W) (hK : BtK T m t) (ht : t + 1133 < 1000000) (hnum : T.C.num + 1 < 1000000000000) (hx : NoX H.x) (hn : n + 5 ≤ 1000) {e : RdV} {T' : Bt} (hq : boR T = (e, T')) : SpecAt Tryz.prog nBBoot [.ptr i 0] H n (Sl.rV e) ⟨btF T' i q s D a b c M W n H.l, H.x⟩ (n + 5) := by
  have e1 : (boR T).1 = e := by rw [hq]
  have e2 : (boR T).2 = T' := by rw [hq]
  subst e1; subst e2
  have := lift (n := n) (okT.spec tBBoot (bootW (x := H.x) (T := T) hK ht hnum hx)) (btP i q s D a b c M W) rfl rfl rfl (by omega) rfl rfl h.sub h.ap h.nz (by omega)
  exact this
def cfR (T : Bt) : Int × Bt := if T.on = false then (5, T) else if T.slot ≠ (stQ T.C.now).tr then (0, T) else kpR ⟨T.slot, -1, 0, T.ver⟩ T
set_option maxHeartbeats 2000000 in
theorem confW {m t : Nat} (hK : BtK T m t) (hx : NoX x) : fnVC CT mBConfirm [.ptr 1 0] ⟨btL T true, x⟩ 10 fun v H' n' => Sub 10 ⟨[(0, .v (.int .i64 (cfR T).1))], ⟨btN (cfR T).2, x⟩, 15⟩ ⟨[(0, v)], H', n'⟩ := by
  unfold mBConfirm btL btB
  simp -implicitDefEqProofs only [↓fnVC, initTm]
  simp -implicitDefEqProofs only [go_sem]
  refine in_call mixT tBRunning ?_
  unfold mBRunning
  simp -implicitDefEqProofs only [↓fnVC, initTm]
  simp -implicitDefEqProofs only [go_sem]
  by_cases c1 : T.on = false
  · simp -implicitDefEqProofs only [go_sem, c1]
    refine at_call tBState (stateS (T := T) (i := 1) (q := 2) (s := 3) (D := 4) (a := 5) (b := 6) (c := 7) (M := 8) (W := 9) ⟨by unfold btB; rw [c1]; rfl, by rfl, by rfl, by rfl, by rfl, by rfl, by rfl, by rfl, by rfl, by decide, by rfl, by rfl⟩ hK.C.now hx) ?_
    unfold sqV sqL
    simp -implicitDefEqProofs only [go_sem, splice_zero, splice_succ, List.drop_succ_cons, List.drop_zero, List.drop_nil, List.cons_append, List.nil_append, List.take_succ_cons, List.take_zero, List.length_cons, List.length_nil]
    rw [show cfR T = (5, T) from if_pos c1]
    unfold btN btB
    rw [c1]
    refine sub_mk [(10, 5), (11, 6), (12, 7), (13, 8), (14, 9)] rfl rfl rfl ?_
    simp only [tmSub, hpSub, objSub, eqTm, eqHp, rn, lk, SV.ren, SV.renC, SV.renB, SV.renA, ren_ints, ren_strs, ren_pl, ren_svs, SV.v.injEq, Value.int.injEq, Body.ints.injEq, SV.ptr.injEq, SV.sl.injEq, Value.string.injEq, Value.bool.injEq, List.map_cons, List.map_nil, forall_const, Nat.reduceLT, Nat.lt_add_one, imp_self, true_and, and_true, and_self, ob_some, get_mk, lk_cons, ↓reduceIte, Nat.reduceEqDiff, ne_eq, not_true_eq_false, not_false_eq_true, Nat.one_ne_zero, Nat.zero_ne_one, Nat.succ_ne_self, Nat.reduceAdd, Bool.false_eq_true, false_implies, implies_true, reduceCtorEq]
    repeat' (first | rfl | apply And.intro)
  have c1' : T.on = true := by simpa using c1
  simp -implicitDefEqProofs only [go_sem, c1']
  refine at_call tBState (stateS (T := T) (i := 1) (q := 2) (s := 3) (D := 4) (a := 5) (b := 6) (c := 7) (M := 8) (W := 9) ⟨by unfold btB; rw [c1']; rfl, by rfl, by rfl, by rfl, by rfl, by rfl, by rfl, by rfl, by rfl, by decide, by rfl, by rfl⟩ hK.C.now hx) ?_
  unfold sqV sqL
  simp -implicitDefEqProofs only [go_sem, splice_zero, splice_succ, List.drop_succ_cons, List.drop_zero, List.drop_nil, List.cons_append, List.nil_append, List.take_succ_cons, List.take_zero, List.length_cons, List.length_nil]
  by_cases c2 : T.slot = (stQ T.C.now).tr
  · have a2 : decide (T.slot = (stQ T.C.now).tr) = true := decide_eq_true c2
    have hp : cfR T = kpR ⟨T.slot, -1, 0, T.ver⟩ T := by unfold cfR; rw [if_neg c1, if_neg (by simp [c2])]
    rw [hp]
    simp -implicitDefEqProofs only [go_sem, a2]
    refine at_call tBsettled (settledS (k := stQ T.C.now) hx) ?_
    unfold sqV sqL
    simp -implicitDefEqProofs only [go_sem, splice_zero, splice_succ, List.drop_succ_cons, List.drop_zero, List.drop_nil, List.cons_append, List.nil_append, List.take_succ_cons, List.take_zero, List.length_cons, List.length_nil]
    obtain ⟨⟨e, T1⟩, hk⟩ : ∃ p, kpR ⟨T.slot, -1, 0, T.ver⟩ T = p := ⟨_, rfl⟩
    rw [hk]
    refine at_call tBkeep (keepS (T := T) (k := ⟨T.slot, -1, 0, T.ver⟩) (i := 1) (q := 2) (s := 3) (D := 4) (a := 5) (b := 6) (c := 7) (M := 8) (W := 9) ⟨by unfold btB; rw [c1']; rfl, by rfl, by rfl, by rfl, by rfl, by rfl, by rfl, by rfl, by rfl, by decide, by rfl, by rfl⟩ hK hx (by decide) hk) ?_
    rw [btF_eq]
    unfold btB
    simp -implicitDefEqProofs only [go_sem]
    unfold btN btB
    refine sub_mk [(10, 12), (11, 13), (12, 14), (13, 15), (14, 16)] rfl rfl rfl ?_
    simp only [tmSub, hpSub, objSub, eqTm, eqHp, rn, lk, SV.ren, SV.renC, SV.renB, SV.renA, ren_ints, ren_strs, ren_pl, ren_svs, SV.v.injEq, Value.int.injEq, Body.ints.injEq, SV.ptr.injEq, SV.sl.injEq, Value.string.injEq, Value.bool.injEq, List.map_cons, List.map_nil, forall_const, Nat.reduceLT, Nat.lt_add_one, imp_self, true_and, and_true, and_self, ob_some, get_mk, lk_cons, ↓reduceIte, Nat.reduceEqDiff, ne_eq, not_true_eq_false, not_false_eq_true, Nat.one_ne_zero, Nat.zero_ne_one, Nat.succ_ne_self, Nat.reduceAdd, Bool.false_eq_true, false_implies, implies_true, reduceCtorEq]
    repeat' (first | rfl | apply And.intro)
  · have a2 : decide (T.slot = (stQ T.C.now).tr) = false := decide_eq_false c2
    rw [show cfR T = (0, T) by unfold cfR; rw [if_neg c1, if_pos c2]]
    simp -implicitDefEqProofs only [go_sem, a2]
    unfold btN btB
    rw [c1']
    refine sub_mk [(10, 5), (11, 6), (12, 7), (13, 8), (14, 9)] rfl rfl rfl ?_
    simp only [tmSub, hpSub, objSub, eqTm, eqHp, rn, lk, SV.ren, SV.renC, SV.renB, SV.renA, ren_ints, ren_strs, ren_pl, ren_svs, SV.v.injEq, Value.int.injEq, Body.ints.injEq, SV.ptr.injEq, SV.sl.injEq, Value.string.injEq, Value.bool.injEq, List.map_cons, List.map_nil, forall_const, Nat.reduceLT, Nat.lt_add_one, imp_self, true_and, and_true, and_self, ob_some, get_mk, lk_cons, ↓reduceIte, Nat.reduceEqDiff, ne_eq, not_true_eq_false, not_false_eq_true, Nat.one_ne_zero, Nat.zero_ne_one, Nat.succ_ne_self, Nat.reduceAdd, Bool.false_eq_true, false_implies, implies_true, reduceCtorEq]
    repeat' (first | rfl | apply And.intro)
theorem confS {m t : Nat} (h : BtAt H T i q s D a b c M W) (hK : BtK T m t) (hx : NoX H.x) (hn : n + 5 ≤ 1000) {e : Int} {T' : Bt} (hq : cfR T = (e, T')) : SpecAt Tryz.prog nBConfirm [.ptr i 0] H n (.v (.int .i64 e)) ⟨btF T' i q s D a b c M W n H.l, H.x⟩ (n + 5) := by
  have e1 : (cfR T).1 = e := by rw [hq]
  have e2 : (cfR T).2 = T' := by rw [hq]
  subst e1; subst e2
  have := lift (n := n) (okT.spec tBConfirm (confW (x := H.x) (T := T) hK hx)) (btP i q s D a b c M W) rfl rfl rfl (by omega) rfl rfl h.sub h.ap h.nz (by omega)
  exact this
end
end Go.Sx