/- Trees, at this program. -/
import Derived.Test.YtaggkccjgnkloaaCelD
import Derived.Test.YtaggkccjgnkloaaRows

set_option linter.unusedVariables false
set_option linter.unusedSimpArgs false
set_option maxRecDepth 100000
namespace Go.Sx
attribute [local go_sem ↓] bind_mk intsB_mk strsB_mk svB_mk fnVC ob_some vc_skip vc_exit vc_ret vc_seq vc_block kSeq_normal kSeq_exit kSeq_ret kBlock_normal kBlock_exit kBlock_ret vc_reg vc_regD vc_cond condK_true condK_false vc_loop kLoop_exit kLoop_ret kRoll_normal kRoll_exit kRoll_ret vcOps_nil vcOps_cons gd_bool gd_undef put_some put_none vcT_fin vcT_pure vcT_act vcT_acts vcT_stop stab_none stab_some stabM_nil stabM_cons stabO_ld stabO_ldn stabO_slP stabO_b2s fldOf_ai fldOf_agg fldOf_ait fldOf_aggt intsOf_nil intsOf_cons strsOf_nil strsOf_cons c_omap ob_if lk_nil lk_cons ev_t ev_k z_mov z_pick z_bin z_binB z_binP z_un z_r2s z_conv z_s2b z_b2s z_mkM z_luM z_upM z_lenM lenMk_mp lenMk_nil plsOf_v z_delM asM_so plV_v plV_agg mpOf_mp mpOf_nil mpUp_mp asM_mp luV_ok luV_v z_allocT aggOf_mk z_boxT z_alloc z_bld z_bldI z_rowI z_rowS z_ld z_ldn z_st z_stn asN_ptr asN_fn z_nilck z_fld z_fadr z_idxA z_idxP z_idxS z_idxV z_slS z_slL z_slP z_mk z_lenS z_lenL z_app appC_ints appC_pl appC_sv appC_strs isS_strs loose_ints loose_pl loose_sv z_slM z_callv callvK_fn callvK_f callvK_yl vc_rangeF rfEnd_eq rfGo_none rfGo_ret rfGo_exit yGo_mk yEnd_n yEnd_r yEnd_e yRdy_mk yMid_n putPs_nil putPs_cons leaf_v leaf_ptr leaf_sl leaf_yl leaf_mp z_appS z_appST z_appZ z_cpyS z_mkfn reps_int reps_str z_rowV z_slnil nilK_zero z_cpy z_call asT_tup z_extT z_box boxOf_ai boxOf_agg boxOf_int boxOf_str boxOf_bool boxOf_ptr boxOf_sl sbin_int sbin_str sbinB_mk sbinP_nn sbinP_pn sbinP_np i_add i_sub i_mul i_quo i_rem i_and i_or i_xor i_andNot i_shl i_shr i_eql i_neq i_lss i_leq i_gtr i_geq st_add st_eql st_neq st_lss st_leq st_gtr st_geq bo_eql bo_neq pt_eql pt_neq un_neg un_xor un_not asI_mk asB_mk asS_mk asP_mk asSl_mk asBy_mk bnd_none bnd_some get_mk hput_mk hdel_mk kill_eq wrOf_eq rowOf_eq rsvs_0 rsvs_1 rsvs_2 rsvs_3 rsv_t rsv_c1 rsv_cn nt_v nt_ptr nt_sl nt_agg nt_ai get_ints get_strs get_pl get_sv getN_ints getN_sv set_ints set_strs set_sv setN_ints setN_sv part_ints part_strs part_sv cat_ints cat_strs cat_sv over_ints over_strs over_sv ones_ints ones_strs evs_nil evs_cons condK_eqt condK_eqf det_callP V_ns V_nn V_gs V_gn obC_mk fresh_ev freshT_ev freshR_ev setN_plagg setN_intsv setN_svai setN_svagg over_intsv set_pl setN_pl setN_plai getN_pl getN_strs part_pl cat_pl over_pl over_plints z_mm
attribute [local go_sem] initTm ne_eq not_true_eq_false not_false_eq_true true_and and_true List.length_cons List.length_nil Int.toNat_natCast Nat.add_zero Nat.zero_add Nat.mul_one List.getElem?_cons_zero List.drop_zero List.take_length List.take_succ_cons List.take_zero List.take_nil List.drop_succ_cons Option.map_some Nat.le_refl implies_true List.getElem?_cons_succ decide_true decide_false Bool.not_true Bool.not_false beq_self_eq_true Nat.succ_ne_self Nat.one_ne_zero Nat.zero_ne_one vk_mk hk_mk nk_mk tok_eq plsOf_map intsOf_map bodyOf_pl bodyOf_ints bodyOf_strs bodyOf_sv part_aggv part_agg part_ai part_int part_str part_bool part_sl part_ptr part_nil numsOf_map u_int u_str u_bool u_pnil u_sl u_ptr u_oci u_ocs evq_nil evq_cons fillS_nil fillS_cons u_ocb ones_pl cells_sv cells_ints cells_strs cells_pl smms_nil smms_cons smm_min smm_max plsOf_nil List.nil_append List.all_cons List.all_nil Bool.and_self Bool.true_and Bool.and_true zws_len zw_len zi_len List.set_cons_zero List.set_cons_succ List.flatMap_cons List.flatMap_nil List.append_nil
attribute [local go_sem_proc] Nat.reduceEqDiff Nat.reduceAdd Nat.reduceMul Nat.reduceLT Nat.reduceLeDiff Nat.reduceSub Int.reduceToNat Int.reduceLE Int.reduceLT reduceCtorEq Int.reduceEq Int.reduceGT Int.reduceGE Int.reduceNeg
attribute [local go_sem_proc ↓] reduceIte
section
open Go.Proofs
variable {H : Hp} {n : Nat} {x : Nat → Option SO}

theorem rfailW {s : ByteArray} {e f : Int} : fnVC CT mrRFail [.ptr 1 0, .v (.int .i64 f)] ⟨[(1, some (rdO s e))], x⟩ 2 fun v H' n' => Sub 2 ⟨[(0, .tup [])], ⟨[(1, some (rdO s (failE e f)))], x⟩, 2⟩ ⟨[(0, v)], H', n'⟩ := by
  unfold mrRFail rdO
  unfold failE
  by_cases he : e = 0
  · have g0 : decide (e = 0) = true := decide_eq_true he
    rw [if_pos he]
    simp -implicitDefEqProofs only [↓fnVC, initTm]
    simp -implicitDefEqProofs only [go_sem, g0]
    refine sub_mk [] rfl rfl rfl ?_
    simp only [tmSub, hpSub, objSub, eqTm, eqHp, rn, lk, SV.ren, SV.renC, SV.renB, SV.renA, ren_ints, ren_strs, ren_pl, ren_svs, SV.v.injEq, Value.int.injEq, Body.ints.injEq, SV.ptr.injEq, SV.sl.injEq, Value.string.injEq, Value.bool.injEq, List.map_cons, List.map_nil, forall_const, Nat.reduceLT, Nat.lt_add_one, imp_self, true_and, and_true, and_self, ob_some, get_mk, lk_cons, ↓reduceIte, Nat.reduceEqDiff, ne_eq, not_true_eq_false, not_false_eq_true, Nat.one_ne_zero, Nat.zero_ne_one, Nat.succ_ne_self, Nat.reduceAdd, Bool.false_eq_true, false_implies, implies_true, reduceCtorEq]
  · have g0 : decide (e = 0) = false := decide_eq_false he
    rw [if_neg he]
    simp -implicitDefEqProofs only [↓fnVC, initTm]
    simp -implicitDefEqProofs only [go_sem, g0]
    refine sub_mk [] rfl rfl rfl ?_
    simp only [tmSub, hpSub, objSub, eqTm, eqHp, rn, lk, SV.ren, SV.renC, SV.renB, SV.renA, ren_ints, ren_strs, ren_pl, ren_svs, SV.v.injEq, Value.int.injEq, Body.ints.injEq, SV.ptr.injEq, SV.sl.injEq, Value.string.injEq, Value.bool.injEq, List.map_cons, List.map_nil, forall_const, Nat.reduceLT, Nat.lt_add_one, imp_self, true_and, and_true, and_self, ob_some, get_mk, lk_cons, ↓reduceIte, Nat.reduceEqDiff, ne_eq, not_true_eq_false, not_false_eq_true, Nat.one_ne_zero, Nat.zero_ne_one, Nat.succ_ne_self, Nat.reduceAdd, Bool.false_eq_true, false_implies, implies_true, reduceCtorEq]
theorem rfailSp {s : ByteArray} {e f : Int} {i : Nat} (hg : H.get i = some (rdO s e)) (hi : 0 < i ∧ i < 1000) :
    SpecAt Try.prog nrRFail [.ptr i 0, .v (.int .i64 f)] H n (.tup []) ⟨(i, some (rdO s (failE e f))) :: H.l, H.x⟩ n := by
  have := lift (n := n) (okT.spec trRFail (rfailW (x := H.x) (s := s) (e := e) (f := f))) [(1, i)] rfl rfl rfl (by omega) rfl rfl
    ⟨sub_wr rfl hi.1 hi.2 hg rfl, trivial⟩ (by simp [apartB, apart1, rn, lk]) (by simp [wrNZ, rn, lk]; omega) (by omega)
  exact this
theorem rrawW {s : ByteArray} {e : Int} {k : Nat} (hk : k ≤ 1048576) : fnVC CT mrRRaw [.ptr 1 0, .v (.int .i64 k)] ⟨[(1, some (rdO s e))], x⟩ 2 fun v H' n' => Sub 2 ⟨[(0, .v (.string (rawT s e k)))], ⟨[(1, some (rdO (rawS s e k) (rawE s e k)))], x⟩, 2⟩ ⟨[(0, v)], H', n'⟩ := by
  unfold mrRRaw
  have g1 : decide ((k : Int) < 0) = false := decide_eq_false (by omega)
  by_cases he : e = 0
  · subst he
    have g0 : decide ((0 : Int) = 0) = true := rfl
    by_cases hs : s.size < k
    · have g2 : decide ((k : Int) > (s.size : Int)) = true := decide_eq_true (by omega)
      have r1 : rawT s 0 k = ⟨#[]⟩ := by unfold rawT; rw [if_pos (.inr hs)]
      have r2 : rawS s 0 k = s := by unfold rawS; rw [if_pos (.inr hs)]
      have r3 : rawE s 0 k = 2 := by unfold rawE; rw [if_neg (by simp), if_pos hs]
      simp -implicitDefEqProofs only [↓fnVC, initTm]
      simp -implicitDefEqProofs only [go_sem, g0, g1, g2, rdO]
      refine at_call trRFail (rfailSp (i := 1) (s := s) (e := 0) (by rfl) (by decide)) ?_
      have r4 : failE 0 2 = 2 := rfl
      simp -implicitDefEqProofs only [go_sem]
      rw [r1, r2, r3, r4]
      refine sub_mk [] rfl rfl rfl ?_
      simp only [tmSub, hpSub, objSub, eqTm, eqHp, rn, lk, SV.ren, SV.renC, SV.renB, SV.renA, ren_ints, ren_strs, ren_pl, ren_svs, SV.v.injEq, Value.int.injEq, Body.ints.injEq, SV.ptr.injEq, SV.sl.injEq, Value.string.injEq, Value.bool.injEq, List.map_cons, List.map_nil, forall_const, Nat.reduceLT, Nat.lt_add_one, imp_self, true_and, and_true, and_self, ob_some, get_mk, lk_cons, ↓reduceIte, Nat.reduceEqDiff, ne_eq, not_true_eq_false, not_false_eq_true, Nat.one_ne_zero, Nat.zero_ne_one, Nat.succ_ne_self, Nat.reduceAdd, Bool.false_eq_true, false_implies, implies_true, reduceCtorEq, rdO]
    · have g2 : decide ((k : Int) > (s.size : Int)) = false := decide_eq_false (by omega)
      have r1 : rawT s 0 k = s.extract 0 k := by unfold rawT; rw [if_neg (by simp; omega)]
      have r2 : rawS s 0 k = s.extract k s.size := by unfold rawS; rw [if_neg (by simp; omega)]
      have r3 : rawE s 0 k = 0 := by unfold rawE; rw [if_neg (by simp), if_neg hs]
      simp -implicitDefEqProofs only [↓fnVC, initTm]
      simp -implicitDefEqProofs only [go_sem, g0, g1, g2, rdO]
      rw [r1, r2, r3]
      refine ⟨⟨by omega, by omega⟩, ⟨by omega, by omega, by omega⟩, ?_⟩
      refine sub_mk [] rfl rfl rfl ?_
      simp only [tmSub, hpSub, objSub, eqTm, eqHp, rn, lk, SV.ren, SV.renC, SV.renB, SV.renA, ren_ints, ren_strs, ren_pl, ren_svs, SV.v.injEq, Value.int.injEq, Body.ints.injEq, SV.ptr.injEq, SV.sl.injEq, Value.string.injEq, Value.bool.injEq, List.map_cons, List.map_nil, forall_const, Nat.reduceLT, Nat.lt_add_one, imp_self, true_and, and_true, and_self, ob_some, get_mk, lk_cons, ↓reduceIte, Nat.reduceEqDiff, ne_eq, not_true_eq_false, not_false_eq_true, Nat.one_ne_zero, Nat.zero_ne_one, Nat.succ_ne_self, Nat.reduceAdd, Bool.false_eq_true, false_implies, implies_true, reduceCtorEq]
  · have g0 : decide (e = 0) = false := decide_eq_false he
    have r1 : rawT s e k = ⟨#[]⟩ := by unfold rawT; rw [if_pos (.inl he)]
    have r2 : rawS s e k = s := by unfold rawS; rw [if_pos (.inl he)]
    have r3 : rawE s e k = e := by unfold rawE; rw [if_pos he]
    simp -implicitDefEqProofs only [↓fnVC, initTm]
    simp -implicitDefEqProofs only [go_sem, g0, rdO]
    rw [r1, r2, r3]
    refine sub_mk [] rfl rfl rfl ?_
    simp only [tmSub, hpSub, objSub, eqTm, eqHp, rn, lk, SV.ren, SV.renC, SV.renB, SV.renA, ren_ints, ren_strs, ren_pl, ren_svs, SV.v.injEq, Value.int.injEq, Body.ints.injEq, SV.ptr.injEq, SV.sl.injEq, Value.string.injEq, Value.bool.injEq, List.map_cons, List.map_nil, forall_const, Nat.reduceLT, Nat.lt_add_one, imp_self, true_and, and_true, and_self, ob_some, get_mk, lk_cons, ↓reduceIte, Nat.reduceEqDiff, ne_eq, not_true_eq_false, not_false_eq_true, Nat.one_ne_zero, Nat.zero_ne_one, Nat.succ_ne_self, Nat.reduceAdd, Bool.false_eq_true, false_implies, implies_true, reduceCtorEq]
theorem rrawSp {s : ByteArray} {e : Int} {k i : Nat} (hg : H.get i = some (rdO s e)) (hi : 0 < i ∧ i < 1000) (hk : k ≤ 1048576) :
    SpecAt Try.prog nrRRaw [.ptr i 0, .v (.int .i64 k)] H n (.v (.string (rawT s e k))) ⟨(i, some (rdO (rawS s e k) (rawE s e k))) :: H.l, H.x⟩ n := by
  have := lift (n := n) (okT.spec trRRaw (rrawW (x := H.x) (s := s) (e := e) hk)) [(1, i)] rfl rfl rfl (by omega) rfl rfl
    ⟨sub_wr rfl hi.1 hi.2 hg rfl, trivial⟩ (by simp [apartB, apart1, rn, lk]) (by simp [wrNZ, rn, lk]; omega) (by omega)
  exact this
variable {H : Hp} {n : Nat} {x : Nat → Option SO}

theorem reightSp {s : ByteArray} {e : Int} {i : Nat} (hg : H.get i = some (rdO s e)) (hi : 0 < i ∧ i < 1000) :
    SpecAt Try.prog nrRNumber [.ptr i 0, .v (.int .i64 8)] H n (.v (.int .i64 (num (rawT s (preE s e) 8) : Nat))) ⟨(i, some (rdO (rawS s (preE s e) 8) (rawE s (preE s e) 8))) :: H.l, H.x⟩ n := by
  have := lift (n := n) (okT.spec trRNumber (args := [.ptr 1 0, .v (.int .i64 8)]) (H := ⟨[(1, some (rdO s e))], H.x⟩) (n := 2) (v := .v (.int .i64 (num (rawT s (preE s e) 8) : Nat))) (H' := ⟨[(1, some (rdO (rawS s (preE s e) 8) (rawE s (preE s e) 8)))], H.x⟩) (n' := 2) (by
    have hok := eight_ok (s := s) (e := e)
    have g8 : decide ((8 : Int) = 8) = true := rfl
    unfold mrRNumber
    simp -implicitDefEqProofs only [↓fnVC, initTm]
    by_cases h0 : e = 0
    · have a0 : decide (e = 0) = true := decide_eq_true h0
      by_cases h8 : 8 ≤ s.size
      · have g0 : decide ((s.size : Int) ≥ 8) = true := decide_eq_true (by omega)
        have hb := bts_getD (t := s) (j := 0) (by omega)
        by_cases h128 : 128 ≤ (nbs s).getD 0 0
        · have g1 : decide ((((nbs s).getD 0 0 : Nat) : Int) ≥ 128) = true := decide_eq_true (by omega)
          have hE : failE e 3 = preE s e := by unfold failE preE; rw [if_pos h0, if_pos ⟨h0, h8, h128⟩]
          simp -implicitDefEqProofs only [go_sem, g8, a0, rdO, g0, hb, g1]
          refine ⟨by omega, ?_⟩
          refine at_call trRFail (rfailSp (i := 1) (s := s) (e := e) (f := 3) (by rfl) (by decide)) ?_
          rw [hE]
          simp -implicitDefEqProofs only [go_sem]
          refine at_call trRRaw (rrawSp (i := 1) (k := 8) (s := s) (e := (preE s e)) (by rfl) (by decide) (by decide)) ?_
          generalize rawT s (preE s e) 8 = T at hok ⊢
          have hsz : T.size ≤ 8 := by rcases hok with h | h <;> omega
          simp -implicitDefEqProofs only [go_sem]
          refine loop_fam (fun (j : Nat) => j ≤ T.size) (fun j => ⟨[(5, .v (.string T)), (6, .v (.int .i64 (nvl ((nbs T).take j) : Nat))), (7, .v (.int .i64 j))], ⟨[(1, some (rdO (rawS s (preE s e) 8) (rawE s (preE s e) 8)))], H.x⟩, 2⟩) (fun j => T.size - j) 0 (Nat.zero_le _) ?_ ?_
          · refine sub_mk [] rfl rfl rfl ?_
            simp only [tmSub, hpSub, objSub, eqTm, eqHp, rn, lk, SV.ren, SV.renC, SV.renB, SV.renA, ren_ints, ren_strs, ren_pl, ren_svs, SV.v.injEq, Value.int.injEq, Body.ints.injEq, SV.ptr.injEq, SV.sl.injEq, Value.string.injEq, Value.bool.injEq, List.map_cons, List.map_nil, forall_const, Nat.reduceLT, Nat.lt_add_one, imp_self, true_and, and_true, and_self, ob_some, get_mk, lk_cons, ↓reduceIte, Nat.reduceEqDiff, ne_eq, not_true_eq_false, not_false_eq_true, Nat.one_ne_zero, Nat.zero_ne_one, Nat.succ_ne_self, Nat.reduceAdd, Bool.false_eq_true, false_implies, implies_true, reduceCtorEq]
            exact ⟨⟨rfl, rfl⟩, rfl⟩
          · intro j hj
            simp -implicitDefEqProofs only [go_sem]
            refine condK_bb (fun c => ?_) (fun c => ?_)
            · have c1 : j < T.size := by have := of_decide_eq_true c; omega
              have hb := bts_getD c1
              have hlt := nbs_get_lt c1
              have hv := hok.lt c1
              have w1 := ishl_8 hv
              have w2 : IntKind.i64.wrap (((nbs T).getD j 0 : Nat) : Int) = (((nbs T).getD j 0 : Nat) : Int) := wrap_i64 (by omega) (by omega)
              have w3 := ior_byte hv hlt
              have w4 : IntKind.i64.wrap ((j : Int) + 1) = ((j + 1 : Nat) : Int) := by rw [wrap_i64 (by omega) (by omega)]; omega
              have hs := num_step c1
              simp -implicitDefEqProofs only [go_sem, c, hb, w1, w2, w3, w4]
              refine ⟨⟨by omega, by omega⟩, ?_⟩
              refine kLoop_mk (j + 1) (by omega) (by omega) ?_
              refine sub_mk [] rfl rfl rfl ?_
              simp only [tmSub, hpSub, objSub, eqTm, eqHp, rn, lk, SV.ren, SV.renC, SV.renB, SV.renA, ren_ints, ren_strs, ren_pl, ren_svs, SV.v.injEq, Value.int.injEq, Body.ints.injEq, SV.ptr.injEq, SV.sl.injEq, Value.string.injEq, Value.bool.injEq, List.map_cons, List.map_nil, forall_const, Nat.reduceLT, Nat.lt_add_one, imp_self, true_and, and_true, and_self, ob_some, get_mk, lk_cons, ↓reduceIte, Nat.reduceEqDiff, ne_eq, not_true_eq_false, not_false_eq_true, Nat.one_ne_zero, Nat.zero_ne_one, Nat.succ_ne_self, Nat.reduceAdd, Bool.false_eq_true, false_implies, implies_true, reduceCtorEq, w4, hs]
              rfl
            · have c1 : j = T.size := by have := of_decide_eq_false c; omega
              subst c1
              have hn : nvl ((nbs T).take T.size) = num T := by unfold num; rw [List.take_of_length_le (by rw [nbs_len]; exact Nat.le_refl _)]
              simp -implicitDefEqProofs only [go_sem, c]
              rw [hn]
              refine sub_mk [] rfl rfl rfl ?_
              simp only [tmSub, hpSub, objSub, eqTm, eqHp, rn, lk, SV.ren, SV.renC, SV.renB, SV.renA, ren_ints, ren_strs, ren_pl, ren_svs, SV.v.injEq, Value.int.injEq, Body.ints.injEq, SV.ptr.injEq, SV.sl.injEq, Value.string.injEq, Value.bool.injEq, List.map_cons, List.map_nil, forall_const, Nat.reduceLT, Nat.lt_add_one, imp_self, true_and, and_true, and_self, ob_some, get_mk, lk_cons, ↓reduceIte, Nat.reduceEqDiff, ne_eq, not_true_eq_false, not_false_eq_true, Nat.one_ne_zero, Nat.zero_ne_one, Nat.succ_ne_self, Nat.reduceAdd, Bool.false_eq_true, false_implies, implies_true, reduceCtorEq]
              rfl
        · have g1 : decide ((((nbs s).getD 0 0 : Nat) : Int) ≥ 128) = false := decide_eq_false (by omega)
          have hE : preE s e = e := by unfold preE; rw [if_neg (fun h => h128 h.2.2)]
          rw [hE] at hok ⊢
          simp -implicitDefEqProofs only [go_sem, g8, a0, rdO, g0, hb, g1]
          refine ⟨by omega, ?_⟩
          refine at_call trRRaw (rrawSp (i := 1) (k := 8) (s := s) (e := e) (by rfl) (by decide) (by decide)) ?_
          generalize rawT s e 8 = T at hok ⊢
          have hsz : T.size ≤ 8 := by rcases hok with h | h <;> omega
          simp -implicitDefEqProofs only [go_sem]
          refine loop_fam (fun (j : Nat) => j ≤ T.size) (fun j => ⟨[(5, .v (.string T)), (6, .v (.int .i64 (nvl ((nbs T).take j) : Nat))), (7, .v (.int .i64 j))], ⟨[(1, some (rdO (rawS s e 8) (rawE s e 8)))], H.x⟩, 2⟩) (fun j => T.size - j) 0 (Nat.zero_le _) ?_ ?_
          · refine sub_mk [] rfl rfl rfl ?_
            simp only [tmSub, hpSub, objSub, eqTm, eqHp, rn, lk, SV.ren, SV.renC, SV.renB, SV.renA, ren_ints, ren_strs, ren_pl, ren_svs, SV.v.injEq, Value.int.injEq, Body.ints.injEq, SV.ptr.injEq, SV.sl.injEq, Value.string.injEq, Value.bool.injEq, List.map_cons, List.map_nil, forall_const, Nat.reduceLT, Nat.lt_add_one, imp_self, true_and, and_true, and_self, ob_some, get_mk, lk_cons, ↓reduceIte, Nat.reduceEqDiff, ne_eq, not_true_eq_false, not_false_eq_true, Nat.one_ne_zero, Nat.zero_ne_one, Nat.succ_ne_self, Nat.reduceAdd, Bool.false_eq_true, false_implies, implies_true, reduceCtorEq]
            exact ⟨⟨rfl, rfl⟩, rfl⟩
          · intro j hj
            simp -implicitDefEqProofs only [go_sem]
            refine condK_bb (fun c => ?_) (fun c => ?_)
            · have c1 : j < T.size := by have := of_decide_eq_true c; omega
              have hb := bts_getD c1
              have hlt := nbs_get_lt c1
              have hv := hok.lt c1
              have w1 := ishl_8 hv
              have w2 : IntKind.i64.wrap (((nbs T).getD j 0 : Nat) : Int) = (((nbs T).getD j 0 : Nat) : Int) := wrap_i64 (by omega) (by omega)
              have w3 := ior_byte hv hlt
              have w4 : IntKind.i64.wrap ((j : Int) + 1) = ((j + 1 : Nat) : Int) := by rw [wrap_i64 (by omega) (by omega)]; omega
              have hs := num_step c1
              simp -implicitDefEqProofs only [go_sem, c, hb, w1, w2, w3, w4]
              refine ⟨⟨by omega, by omega⟩, ?_⟩
              refine kLoop_mk (j + 1) (by omega) (by omega) ?_
              refine sub_mk [] rfl rfl rfl ?_
              simp only [tmSub, hpSub, objSub, eqTm, eqHp, rn, lk, SV.ren, SV.renC, SV.renB, SV.renA, ren_ints, ren_strs, ren_pl, ren_svs, SV.v.injEq, Value.int.injEq, Body.ints.injEq, SV.ptr.injEq, SV.sl.injEq, Value.string.injEq, Value.bool.injEq, List.map_cons, List.map_nil, forall_const, Nat.reduceLT, Nat.lt_add_one, imp_self, true_and, and_true, and_self, ob_some, get_mk, lk_cons, ↓reduceIte, Nat.reduceEqDiff, ne_eq, not_true_eq_false, not_false_eq_true, Nat.one_ne_zero, Nat.zero_ne_one, Nat.succ_ne_self, Nat.reduceAdd, Bool.false_eq_true, false_implies, implies_true, reduceCtorEq, w4, hs]
              rfl
            · have c1 : j = T.size := by have := of_decide_eq_false c; omega
              subst c1
              have hn : nvl ((nbs T).take T.size) = num T := by unfold num; rw [List.take_of_length_le (by rw [nbs_len]; exact Nat.le_refl _)]
              simp -implicitDefEqProofs only [go_sem, c]
              rw [hn]
              refine sub_mk [] rfl rfl rfl ?_
              simp only [tmSub, hpSub, objSub, eqTm, eqHp, rn, lk, SV.ren, SV.renC, SV.renB, SV.renA, ren_ints, ren_strs, ren_pl, ren_svs, SV.v.injEq, Value.int.injEq, Body.ints.injEq, SV.ptr.injEq, SV.sl.injEq, Value.string.injEq, Value.bool.injEq, List.map_cons, List.map_nil, forall_const, Nat.reduceLT, Nat.lt_add_one, imp_self, true_and, and_true, and_self, ob_some, get_mk, lk_cons, ↓reduceIte, Nat.reduceEqDiff, ne_eq, not_true_eq_false, not_false_eq_true, Nat.one_ne_zero, Nat.zero_ne_one, Nat.succ_ne_self, Nat.reduceAdd, Bool.false_eq_true, false_implies, implies_true, reduceCtorEq]
              rfl
      · have g0 : decide ((s.size : Int) ≥ 8) = false := decide_eq_false (by omega)
        have hE : preE s e = e := by unfold preE; rw [if_neg (fun h => h8 h.2.1)]
        rw [hE] at hok ⊢
        simp -implicitDefEqProofs only [go_sem, g8, a0, rdO, g0]
        refine at_call trRRaw (rrawSp (i := 1) (k := 8) (s := s) (e := e) (by rfl) (by decide) (by decide)) ?_
        generalize rawT s e 8 = T at hok ⊢
        have hsz : T.size ≤ 8 := by rcases hok with h | h <;> omega
        simp -implicitDefEqProofs only [go_sem]
        refine loop_fam (fun (j : Nat) => j ≤ T.size) (fun j => ⟨[(5, .v (.string T)), (6, .v (.int .i64 (nvl ((nbs T).take j) : Nat))), (7, .v (.int .i64 j))], ⟨[(1, some (rdO (rawS s e 8) (rawE s e 8)))], H.x⟩, 2⟩) (fun j => T.size - j) 0 (Nat.zero_le _) ?_ ?_
        · refine sub_mk [] rfl rfl rfl ?_
          simp only [tmSub, hpSub, objSub, eqTm, eqHp, rn, lk, SV.ren, SV.renC, SV.renB, SV.renA, ren_ints, ren_strs, ren_pl, ren_svs, SV.v.injEq, Value.int.injEq, Body.ints.injEq, SV.ptr.injEq, SV.sl.injEq, Value.string.injEq, Value.bool.injEq, List.map_cons, List.map_nil, forall_const, Nat.reduceLT, Nat.lt_add_one, imp_self, true_and, and_true, and_self, ob_some, get_mk, lk_cons, ↓reduceIte, Nat.reduceEqDiff, ne_eq, not_true_eq_false, not_false_eq_true, Nat.one_ne_zero, Nat.zero_ne_one, Nat.succ_ne_self, Nat.reduceAdd, Bool.false_eq_true, false_implies, implies_true, reduceCtorEq]
          exact ⟨⟨rfl, rfl⟩, rfl⟩
        · intro j hj
          simp -implicitDefEqProofs only [go_sem]
          refine condK_bb (fun c => ?_) (fun c => ?_)
          · have c1 : j < T.size := by have := of_decide_eq_true c; omega
            have hb := bts_getD c1
            have hlt := nbs_get_lt c1
            have hv := hok.lt c1
            have w1 := ishl_8 hv
            have w2 : IntKind.i64.wrap (((nbs T).getD j 0 : Nat) : Int) = (((nbs T).getD j 0 : Nat) : Int) := wrap_i64 (by omega) (by omega)
            have w3 := ior_byte hv hlt
            have w4 : IntKind.i64.wrap ((j : Int) + 1) = ((j + 1 : Nat) : Int) := by rw [wrap_i64 (by omega) (by omega)]; omega
            have hs := num_step c1
            simp -implicitDefEqProofs only [go_sem, c, hb, w1, w2, w3, w4]
            refine ⟨⟨by omega, by omega⟩, ?_⟩
            refine kLoop_mk (j + 1) (by omega) (by omega) ?_
            refine sub_mk [] rfl rfl rfl ?_
            simp only [tmSub, hpSub, objSub, eqTm, eqHp, rn, lk, SV.ren, SV.renC, SV.renB, SV.renA, ren_ints, ren_strs, ren_pl, ren_svs, SV.v.injEq, Value.int.injEq, Body.ints.injEq, SV.ptr.injEq, SV.sl.injEq, Value.string.injEq, Value.bool.injEq, List.map_cons, List.map_nil, forall_const, Nat.reduceLT, Nat.lt_add_one, imp_self, true_and, and_true, and_self, ob_some, get_mk, lk_cons, ↓reduceIte, Nat.reduceEqDiff, ne_eq, not_true_eq_false, not_false_eq_true, Nat.one_ne_zero, Nat.zero_ne_one, Nat.succ_ne_self, Nat.reduceAdd, Bool.false_eq_true, false_implies, implies_true, reduceCtorEq, w4, hs]
            rfl
          · have c1 : j = T.size := by have := of_decide_eq_false c; omega
            subst c1
            have hn : nvl ((nbs T).take T.size) = num T := by unfold num; rw [List.take_of_length_le (by rw [nbs_len]; exact Nat.le_refl _)]
            simp -implicitDefEqProofs only [go_sem, c]
            rw [hn]
            refine sub_mk [] rfl rfl rfl ?_
            simp only [tmSub, hpSub, objSub, eqTm, eqHp, rn, lk, SV.ren, SV.renC, SV.renB, SV.renA, ren_ints, ren_strs, ren_pl, ren_svs, SV.v.injEq, Value.int.injEq, Body.ints.injEq, SV.ptr.injEq, SV.sl.injEq, Value.string.injEq, Value.bool.injEq, List.map_cons, List.map_nil, forall_const, Nat.reduceLT, Nat.lt_add_one, imp_self, true_and, and_true, and_self, ob_some, get_mk, lk_cons, ↓reduceIte, Nat.reduceEqDiff, ne_eq, not_true_eq_false, not_false_eq_true, Nat.one_ne_zero, Nat.zero_ne_one, Nat.succ_ne_self, Nat.reduceAdd, Bool.false_eq_true, false_implies, implies_true, reduceCtorEq]
            rfl
    · have a0 : decide (e = 0) = false := decide_eq_false h0
      have hE : preE s e = e := by unfold preE; rw [if_neg (fun h => h0 h.1)]
      rw [hE] at hok ⊢
      simp -implicitDefEqProofs only [go_sem, g8, a0, rdO]
      refine at_call trRRaw (rrawSp (i := 1) (k := 8) (s := s) (e := e) (by rfl) (by decide) (by decide)) ?_
      generalize rawT s e 8 = T at hok ⊢
      have hsz : T.size ≤ 8 := by rcases hok with h | h <;> omega
      simp -implicitDefEqProofs only [go_sem]
      refine loop_fam (fun (j : Nat) => j ≤ T.size) (fun j => ⟨[(5, .v (.string T)), (6, .v (.int .i64 (nvl ((nbs T).take j) : Nat))), (7, .v (.int .i64 j))], ⟨[(1, some (rdO (rawS s e 8) (rawE s e 8)))], H.x⟩, 2⟩) (fun j => T.size - j) 0 (Nat.zero_le _) ?_ ?_
      · refine sub_mk [] rfl rfl rfl ?_
        simp only [tmSub, hpSub, objSub, eqTm, eqHp, rn, lk, SV.ren, SV.renC, SV.renB, SV.renA, ren_ints, ren_strs, ren_pl, ren_svs, SV.v.injEq, Value.int.injEq, Body.ints.injEq, SV.ptr.injEq, SV.sl.injEq, Value.string.injEq, Value.bool.injEq, List.map_cons, List.map_nil, forall_const, Nat.reduceLT, Nat.lt_add_one, imp_self, true_and, and_true, and_self, ob_some, get_mk, lk_cons, ↓reduceIte, Nat.reduceEqDiff, ne_eq, not_true_eq_false, not_false_eq_true, Nat.one_ne_zero, Nat.zero_ne_one, Nat.succ_ne_self, Nat.reduceAdd, Bool.false_eq_true, false_implies, implies_true, reduceCtorEq]
        exact ⟨⟨rfl, rfl⟩, rfl⟩
      · intro j hj
        simp -implicitDefEqProofs only [go_sem]
        refine condK_bb (fun c => ?_) (fun c => ?_)
        · have c1 : j < T.size := by have := of_decide_eq_true c; omega
          have hb := bts_getD c1
          have hlt := nbs_get_lt c1
          have hv := hok.lt c1
          have w1 := ishl_8 hv
          have w2 : IntKind.i64.wrap (((nbs T).getD j 0 : Nat) : Int) = (((nbs T).getD j 0 : Nat) : Int) := wrap_i64 (by omega) (by omega)
          have w3 := ior_byte hv hlt
          have w4 : IntKind.i64.wrap ((j : Int) + 1) = ((j + 1 : Nat) : Int) := by rw [wrap_i64 (by omega) (by omega)]; omega
          have hs := num_step c1
          simp -implicitDefEqProofs only [go_sem, c, hb, w1, w2, w3, w4]
          refine ⟨⟨by omega, by omega⟩, ?_⟩
          refine kLoop_mk (j + 1) (by omega) (by omega) ?_
          refine sub_mk [] rfl rfl rfl ?_
          simp only [tmSub, hpSub, objSub, eqTm, eqHp, rn, lk, SV.ren, SV.renC, SV.renB, SV.renA, ren_ints, ren_strs, ren_pl, ren_svs, SV.v.injEq, Value.int.injEq, Body.ints.injEq, SV.ptr.injEq, SV.sl.injEq, Value.string.injEq, Value.bool.injEq, List.map_cons, List.map_nil, forall_const, Nat.reduceLT, Nat.lt_add_one, imp_self, true_and, and_true, and_self, ob_some, get_mk, lk_cons, ↓reduceIte, Nat.reduceEqDiff, ne_eq, not_true_eq_false, not_false_eq_true, Nat.one_ne_zero, Nat.zero_ne_one, Nat.succ_ne_self, Nat.reduceAdd, Bool.false_eq_true, false_implies, implies_true, reduceCtorEq, w4, hs]
          rfl
        · have c1 : j = T.size := by have := of_decide_eq_false c; omega
          subst c1
          have hn : nvl ((nbs T).take T.size) = num T := by unfold num; rw [List.take_of_length_le (by rw [nbs_len]; exact Nat.le_refl _)]
          simp -implicitDefEqProofs only [go_sem, c]
          rw [hn]
          refine sub_mk [] rfl rfl rfl ?_
          simp only [tmSub, hpSub, objSub, eqTm, eqHp, rn, lk, SV.ren, SV.renC, SV.renB, SV.renA, ren_ints, ren_strs, ren_pl, ren_svs, SV.v.injEq, Value.int.injEq, Body.ints.injEq, SV.ptr.injEq, SV.sl.injEq, Value.string.injEq, Value.bool.injEq, List.map_cons, List.map_nil, forall_const, Nat.reduceLT, Nat.lt_add_one, imp_self, true_and, and_true, and_self, ob_some, get_mk, lk_cons, ↓reduceIte, Nat.reduceEqDiff, ne_eq, not_true_eq_false, not_false_eq_true, Nat.one_ne_zero, Nat.zero_ne_one, Nat.succ_ne_self, Nat.reduceAdd, Bool.false_eq_true, false_implies, implies_true, reduceCtorEq]
          rfl)) [(1, i)] rfl rfl rfl (by omega) rfl rfl
    ⟨sub_wr rfl hi.1 hi.2 hg rfl, trivial⟩ (by simp [apartB, apart1, rn, lk]) (by simp [wrNZ, rn, lk]; omega) (by omega)
  exact this
variable {H : Hp} {n : Nat} {x : Nat → Option SO}

variable {H : Hp} {n : Nat} {x : Nat → Option SO}

variable {H : Hp} {n : Nat} {x : Nat → Option SO}

variable {H : Hp} {n : Nat} {x : Nat → Option SO}

theorem rnumW {s : ByteArray} {e : Int} {k : Nat} (hk : k ≤ 7) : fnVC CT mrRNumber [.ptr 1 0, .v (.int .i64 k)] ⟨[(1, some (rdO s e))], x⟩ 2 fun v H' n' => Sub 2 ⟨[(0, .v (.int .i64 (num (rawT s e k) : Nat)))], ⟨[(1, some (rdO (rawS s e k) (rawE s e k)))], x⟩, 2⟩ ⟨[(0, v)], H', n'⟩ := by
  unfold mrRNumber
  have hok : numOK (rawT s e k) := .inl (by have := rawT_size (s := s) (e := e) (k := k); omega)
  have g8 : decide ((k : Int) = 8) = false := decide_eq_false (by omega)
  simp -implicitDefEqProofs only [↓fnVC, initTm]
  simp -implicitDefEqProofs only [go_sem, g8]
  refine at_call trRRaw (rrawSp (i := 1) (k := k) (s := s) (e := e) (by rfl) (by decide) (by omega)) ?_
  generalize rawT s e k = T at hok ⊢
  have hsz : T.size ≤ 8 := by rcases hok with h | h <;> omega
  simp -implicitDefEqProofs only [go_sem]
  refine loop_fam (fun (j : Nat) => j ≤ T.size) (fun j => ⟨[(5, .v (.string T)), (6, .v (.int .i64 (nvl ((nbs T).take j) : Nat))), (7, .v (.int .i64 j))], ⟨[(1, some (rdO (rawS s e k) (rawE s e k)))], x⟩, 2⟩) (fun j => T.size - j) 0 (Nat.zero_le _) ?_ ?_
  · refine sub_mk [] rfl rfl rfl ?_
    simp only [tmSub, hpSub, objSub, eqTm, eqHp, rn, lk, SV.ren, SV.renC, SV.renB, SV.renA, ren_ints, ren_strs, ren_pl, ren_svs, SV.v.injEq, Value.int.injEq, Body.ints.injEq, SV.ptr.injEq, SV.sl.injEq, Value.string.injEq, Value.bool.injEq, List.map_cons, List.map_nil, forall_const, Nat.reduceLT, Nat.lt_add_one, imp_self, true_and, and_true, and_self, ob_some, get_mk, lk_cons, ↓reduceIte, Nat.reduceEqDiff, ne_eq, not_true_eq_false, not_false_eq_true, Nat.one_ne_zero, Nat.zero_ne_one, Nat.succ_ne_self, Nat.reduceAdd, Bool.false_eq_true, false_implies, implies_true, reduceCtorEq]
    exact ⟨⟨rfl, rfl⟩, rfl⟩
  · intro j hj
    simp -implicitDefEqProofs only [go_sem]
    refine condK_bb (fun c => ?_) (fun c => ?_)
    · have c1 : j < T.size := by have := of_decide_eq_true c; omega
      have hb := bts_getD c1
      have hlt := nbs_get_lt c1
      have hv := hok.lt c1
      have w1 := ishl_8 hv
      have w2 : IntKind.i64.wrap (((nbs T).getD j 0 : Nat) : Int) = (((nbs T).getD j 0 : Nat) : Int) := wrap_i64 (by omega) (by omega)
      have w3 := ior_byte hv hlt
      have w4 : IntKind.i64.wrap ((j : Int) + 1) = ((j + 1 : Nat) : Int) := by rw [wrap_i64 (by omega) (by omega)]; omega
      have hs := num_step c1
      simp -implicitDefEqProofs only [go_sem, c, hb, w1, w2, w3, w4]
      refine ⟨⟨by omega, by omega⟩, ?_⟩
      refine kLoop_mk (j + 1) (by omega) (by omega) ?_
      refine sub_mk [] rfl rfl rfl ?_
      simp only [tmSub, hpSub, objSub, eqTm, eqHp, rn, lk, SV.ren, SV.renC, SV.renB, SV.renA, ren_ints, ren_strs, ren_pl, ren_svs, SV.v.injEq, Value.int.injEq, Body.ints.injEq, SV.ptr.injEq, SV.sl.injEq, Value.string.injEq, Value.bool.injEq, List.map_cons, List.map_nil, forall_const, Nat.reduceLT, Nat.lt_add_one, imp_self, true_and, and_true, and_self, ob_some, get_mk, lk_cons, ↓reduceIte, Nat.reduceEqDiff, ne_eq, not_true_eq_false, not_false_eq_true, Nat.one_ne_zero, Nat.zero_ne_one, Nat.succ_ne_self, Nat.reduceAdd, Bool.false_eq_true, false_implies, implies_true, reduceCtorEq, w4, hs]
      rfl
    · have c1 : j = T.size := by have := of_decide_eq_false c; omega
      subst c1
      have hn : nvl ((nbs T).take T.size) = num T := by unfold num; rw [List.take_of_length_le (by rw [nbs_len]; exact Nat.le_refl _)]
      simp -implicitDefEqProofs only [go_sem, c]
      rw [hn]
      refine sub_mk [] rfl rfl rfl ?_
      simp only [tmSub, hpSub, objSub, eqTm, eqHp, rn, lk, SV.ren, SV.renC, SV.renB, SV.renA, ren_ints, ren_strs, ren_pl, ren_svs, SV.v.injEq, Value.int.injEq, Body.ints.injEq, SV.ptr.injEq, SV.sl.injEq, Value.string.injEq, Value.bool.injEq, List.map_cons, List.map_nil, forall_const, Nat.reduceLT, Nat.lt_add_one, imp_self, true_and, and_true, and_self, ob_some, get_mk, lk_cons, ↓reduceIte, Nat.reduceEqDiff, ne_eq, not_true_eq_false, not_false_eq_true, Nat.one_ne_zero, Nat.zero_ne_one, Nat.succ_ne_self, Nat.reduceAdd, Bool.false_eq_true, false_implies, implies_true, reduceCtorEq]
      rfl
theorem rnumSp {s : ByteArray} {e : Int} {k i : Nat} (hg : H.get i = some (rdO s e)) (hi : 0 < i ∧ i < 1000) (hk : k ≤ 7) :
    SpecAt Try.prog nrRNumber [.ptr i 0, .v (.int .i64 k)] H n (.v (.int .i64 (num (rawT s e k) : Nat))) ⟨(i, some (rdO (rawS s e k) (rawE s e k))) :: H.l, H.x⟩ n := by
  have := lift (n := n) (okT.spec trRNumber (rnumW (x := H.x) (s := s) (e := e) hk)) [(1, i)] rfl rfl rfl (by omega) rfl rfl
    ⟨sub_wr rfl hi.1 hi.2 hg rfl, trivial⟩ (by simp [apartB, apart1, rn, lk]) (by simp [wrNZ, rn, lk]; omega) (by omega)
  exact this
theorem rreadS0 {s : ByteArray} (hn : n + 1 ≤ 1000) : SpecAt Try.prog nrRead [.v (.string s)] H n (.ptr n 0) ⟨(n, some (rdO s 0)) :: H.l, H.x⟩ (n + 1) := by
  have := lift (n := n) (okT.spec trRead (args := [.v (.string s)]) (H := ⟨[], H.x⟩) (n := 1) (v := .ptr 1 0) (H' := ⟨[(1, some (rdO s 0))], H.x⟩) (n' := 2) (by
    unfold mrRead
    simp -implicitDefEqProofs only [↓fnVC, initTm]
    simp -implicitDefEqProofs only [go_sem]
    refine sub_mk [] rfl rfl rfl ?_
    simp only [tmSub, hpSub, objSub, eqTm, eqHp, rn, lk, SV.ren, SV.renC, SV.renB, SV.renA, ren_ints, ren_strs, ren_pl, ren_svs, SV.v.injEq, Value.int.injEq, Body.ints.injEq, SV.ptr.injEq, SV.sl.injEq, Value.string.injEq, Value.bool.injEq, List.map_cons, List.map_nil, forall_const, Nat.reduceLT, Nat.lt_add_one, imp_self, true_and, and_true, and_self, ob_some, get_mk, lk_cons, ↓reduceIte, Nat.reduceEqDiff, ne_eq, not_true_eq_false, not_false_eq_true, Nat.one_ne_zero, Nat.zero_ne_one, Nat.succ_ne_self, Nat.reduceAdd, Bool.false_eq_true, false_implies, implies_true, reduceCtorEq, rdO]
    rfl)) [] rfl rfl rfl (by omega) rfl rfl trivial rfl rfl (by omega)
  exact this
variable {H : Hp} {n : Nat} {x : Nat → Option SO}

end
section
/- Cells: the document's opening, where no copy is. -/
set_option linter.unusedVariables false
set_option linter.unusedSimpArgs false
set_option maxRecDepth 100000
open Go.Proofs
variable {H : Hp} {n : Nat} {x : Nat → Option SO} {d d' : Fd} {i a b c : Nat} {u1 u2 u3 : Bool} {C C' : Ce}

theorem rallW (hd : d.ok) (hsn : Sn d) : fnVC C3 mrFAll [.ptr 1 0] (rp3s d x) 4 fun v H' n' => Sub 4 ⟨[(0, .sl 4 0 d.seen.length 1)], ⟨[(1, some ⟨false, refB d 2 3⟩), (2, some ⟨false, strB d.safe⟩), (3, some ⟨false, .pl (qrow d.pend)⟩), (4, some ⟨true, strB d.seen⟩)], x⟩, 5⟩ ⟨[(0, v)], H', n'⟩ := by
  have q1 := crl_all64 hd
  unfold rp3s mrFAll
  simp -implicitDefEqProofs only [↓fnVC, initTm]
  simp -implicitDefEqProofs only [go_sem]
  refine at_call trFsettled (seS9 (i := 1) (a := 2) (b := 3) (d := d) (r := 4) (o := 0) (m := 1) (row := [64]) (ks := [64]) ⟨rfl, rfl, rfl, by decide⟩ hd (Nat.le_refl _) rfl (by decide) (by decide) rfl) ?_
  rw [q1, ← hsn]
  simp -implicitDefEqProofs only [go_sem]
  refine sub_mk [(4, 5)] rfl rfl rfl ?_
  simp only [tmSub, hpSub, objSub, eqTm, eqHp, rn, lk, SV.ren, SV.renC, SV.renB, SV.renA, ren_ints, ren_strs, ren_pl, ren_svs, SV.v.injEq, Value.int.injEq, Body.ints.injEq, SV.ptr.injEq, SV.sl.injEq, Value.string.injEq, Value.bool.injEq, List.map_cons, List.map_nil, forall_const, Nat.reduceLT, Nat.lt_add_one, imp_self, true_and, and_true, and_self, ob_some, get_mk, lk_cons, ↓reduceIte, Nat.reduceEqDiff, ne_eq, not_true_eq_false, not_false_eq_true, Nat.one_ne_zero, Nat.zero_ne_one, Nat.succ_ne_self, Nat.reduceAdd, Bool.false_eq_true, false_implies, implies_true, reduceCtorEq]
  repeat' (first | rfl | apply And.intro)
theorem ralG (h : RefAt H d i a b u1 u2 u3) (hd : d.ok) (hs : Sn d) (hn : n < 1000) : SpecAt Try.prog nrFAll [.ptr i 0] H n (.sl n 0 d.seen.length 1) ⟨(n, some ⟨true, strB d.seen⟩) :: H.l, H.x⟩ (n + 1) := by
  obtain ⟨hi, ha, hb, ⟨p1, p2, p3⟩, ⟨q1, q2, q3⟩, n1, n2, n3⟩ := h
  have := lift (n := n) (ok3.spec trFAll (rallW (x := H.x) hd hs)) [(1, i), (2, a), (3, b)] rfl rfl rfl (by omega) rfl rfl
    ⟨sub_ro rfl p1 hi rfl, sub_ro rfl p2 ha rfl, sub_ro rfl p3 hb rfl, trivial⟩ (by simp [apartB, apart1, rn, lk]) (by simp [wrNZ, rn, lk]; try omega) (by omega)
  exact this
def rcB (B h nu la : Int) (D : Nat) (wr : SV) : Body := .sv [.ptr D 0, .v (.int .i64 B), .v (.int .i64 h), .sl 0 0 0 2, wr, .v (.int .i64 nu), .v (.int .i64 la), .v (.bool false)]
def ropH (B h : Int) (d : Fd) (x : Nat → Option SO) : Hp := ⟨[(1, some ⟨false, rcB B h 0 1 2 (.sl 0 0 0 2)⟩), (2, some ⟨false, refB d 3 4⟩), (3, some ⟨false, strB d.safe⟩), (4, some ⟨false, .pl (qrow d.pend)⟩)], x⟩
theorem rcopiedN {B h k : Nat} (hB : B ≤ 4096) (hh : 2 ≤ h ∧ h ≤ 4096) (hk : k ≤ 1) (hd : d.ok) (hs : Sn d) (hl : B + k * h + h ≤ d.seen.length) (hN : NoHd (secT d (B + k * h : Nat))) :
    fnVC CT mrcopied [.ptr 1 0, .v (.int .i64 k)] (ropH B h d x) 5 fun v H' n' => Sub 5 ⟨[(0, .tup [.v (.int .i64 0), .sl 0 0 0 2])], ⟨[], x⟩, 5⟩ ⟨[(0, v)], H', n'⟩ := by
  unfold mrcopied ropH rcB
  simp -implicitDefEqProofs only [↓fnVC, initTm]
  simp -implicitDefEqProofs only [go_sem]
  refine at_call trFAll (ralG (i := 2) (a := 3) (b := 4) (d := d) (u1 := false) (u2 := false) (u3 := false) ⟨by rfl, by rfl, by rfl, by decide⟩ hd hs (by decide)) ?_
  have hm : k * h ≤ 4096 := by
    calc k * h ≤ 1 * h := Nat.mul_le_mul_right _ hk
      _ ≤ 4096 := by omega
  have w5 : IntKind.i64.wrap ((k : Int) * (h : Int)) = ((k * h : Nat) : Int) := by
    rw [← Int.natCast_mul]; exact wrap_i64 (by omega) (by omega)
  have w6 : IntKind.i64.wrap ((B : Int) + ((k * h : Nat) : Int)) = ((B + k * h : Nat) : Int) := by
    rw [wrap_i64 (by omega) (by omega)]; omega
  unfold strB
  simp -implicitDefEqProofs only [go_sem, w5, w6]
  have hsz : (secT d (B + k * h : Nat)).size = 64 := secT_size hd (by omega) (by omega)
  have hg : (List.map tx d.seen).getD (B + k * h) ByteArray.empty = secT d (B + k * h : Nat) := by
    unfold secT
    rw [Int.toNat_natCast, List.getD_eq_getElem?_getD, List.getElem?_map, List.getElem?_eq_getElem (by omega), List.getD_eq_getElem?_getD, List.getElem?_eq_getElem (by omega)]
    rfl
  refine ⟨⟨by omega, by omega⟩, by rw [List.length_map]; omega, ?_⟩
  rw [hg]
  generalize secT d (B + k * h : Nat) = s at hN hsz
  obtain ⟨e1, e2, hnn, l1, l2⟩ := hN
  refine at_call trRead (rreadS0 (s := s) (by decide)) ?_
  simp -implicitDefEqProofs only [go_sem]
  have f1 := rd_at (s := s) (k := 0) (w := 8) (by omega)
  have f2 := rd_at (s := s) (k := 8) (w := 4) (by omega)
  have f3 := rd_at (s := s) (k := 12) (w := 8) (by omega)
  rw [ext_all] at f1
  refine at_call trRNumber (reightSp (i := 6) (s := s) (e := 0) (by rfl) (by decide)) ?_
  rw [e1, f1.1, f1.2.1, f1.2.2]
  simp -implicitDefEqProofs only [go_sem]
  refine at_call trRNumber (rnumSp (i := 6) (k := 4) (s := s.extract 8 s.size) (e := 0) (by rfl) (by decide) (by decide)) ?_
  rw [f2.1, f2.2.1, f2.2.2]
  simp -implicitDefEqProofs only [go_sem]
  refine at_call trRNumber (reightSp (i := 6) (s := s.extract 12 s.size) (e := 0) (by rfl) (by decide)) ?_
  rw [e2, f3.1, f3.2.1, f3.2.2]
  rw [show 12 + 8 = 20 from rfl]
  unfold rdO
  simp -implicitDefEqProofs only [go_sem]
  by_cases c1 : num (s.extract 0 8) = 0
  · have a1 : decide ((num (s.extract 0 8) : Int) = 0) = true := decide_eq_true (by omega)
    simp -implicitDefEqProofs only [go_sem, a1]
    refine sub_mk [] rfl rfl rfl ?_
    simp only [tmSub, hpSub, objSub, eqTm, eqHp, rn, lk, SV.ren, SV.renC, SV.renB, SV.renA, ren_ints, ren_strs, ren_pl, ren_svs, SV.v.injEq, Value.int.injEq, Body.ints.injEq, SV.ptr.injEq, SV.sl.injEq, Value.string.injEq, Value.bool.injEq, List.map_cons, List.map_nil, forall_const, Nat.reduceLT, Nat.lt_add_one, imp_self, true_and, and_true, and_self, ob_some, get_mk, lk_cons, ↓reduceIte, Nat.reduceEqDiff, ne_eq, not_true_eq_false, not_false_eq_true, Nat.one_ne_zero, Nat.zero_ne_one, Nat.succ_ne_self, Nat.reduceAdd, Bool.false_eq_true, false_implies, implies_true, reduceCtorEq]
  have a1 : decide ((num (s.extract 0 8) : Int) = 0) = false := decide_eq_false (by omega)
  by_cases c2 : num (s.extract 0 8) = 9223372036854775807
  · have a2 : decide ((num (s.extract 0 8) : Int) = 9223372036854775807) = true := decide_eq_true (by omega)
    simp -implicitDefEqProofs only [go_sem, a1, a2]
    refine sub_mk [] rfl rfl rfl ?_
    simp only [tmSub, hpSub, objSub, eqTm, eqHp, rn, lk, SV.ren, SV.renC, SV.renB, SV.renA, ren_ints, ren_strs, ren_pl, ren_svs, SV.v.injEq, Value.int.injEq, Body.ints.injEq, SV.ptr.injEq, SV.sl.injEq, Value.string.injEq, Value.bool.injEq, List.map_cons, List.map_nil, forall_const, Nat.reduceLT, Nat.lt_add_one, imp_self, true_and, and_true, and_self, ob_some, get_mk, lk_cons, ↓reduceIte, Nat.reduceEqDiff, ne_eq, not_true_eq_false, not_false_eq_true, Nat.one_ne_zero, Nat.zero_ne_one, Nat.succ_ne_self, Nat.reduceAdd, Bool.false_eq_true, false_implies, implies_true, reduceCtorEq]
  have a2 : decide ((num (s.extract 0 8) : Int) = 9223372036854775807) = false := decide_eq_false (by omega)
  have a3 : decide ((num (s.extract 0 8) : Int) = (num (s.extract 12 20) : Int)) = false := decide_eq_false (by omega)
  simp -implicitDefEqProofs only [go_sem, a1, a2, a3, Bool.not_false]
  refine sub_mk [] rfl rfl rfl ?_
  simp only [tmSub, hpSub, objSub, eqTm, eqHp, rn, lk, SV.ren, SV.renC, SV.renB, SV.renA, ren_ints, ren_strs, ren_pl, ren_svs, SV.v.injEq, Value.int.injEq, Body.ints.injEq, SV.ptr.injEq, SV.sl.injEq, Value.string.injEq, Value.bool.injEq, List.map_cons, List.map_nil, forall_const, Nat.reduceLT, Nat.lt_add_one, imp_self, true_and, and_true, and_self, ob_some, get_mk, lk_cons, ↓reduceIte, Nat.reduceEqDiff, ne_eq, not_true_eq_false, not_false_eq_true, Nat.one_ne_zero, Nat.zero_ne_one, Nat.succ_ne_self, Nat.reduceAdd, Bool.false_eq_true, false_implies, implies_true, reduceCtorEq]
structure RopAt (H : Hp) (B h : Int) (d : Fd) (i D a b : Nat) : Prop where
  cell : ∃ u, H.get i = some ⟨u, rcB B h 0 1 D (.sl 0 0 0 2)⟩
  dev : ∃ u, H.get D = some ⟨u, refB d a b⟩
  safe : ∃ u, H.get a = some ⟨u, strB d.safe⟩
  pend : ∃ u, H.get b = some ⟨u, .pl (qrow d.pend)⟩
  ne : 0 < i ∧ 0 < D ∧ 0 < a ∧ 0 < b
theorem rcopiedNS {B h k D : Nat} (hO : RopAt H B h d i D a b) (hB : B ≤ 4096) (hh : 2 ≤ h ∧ h ≤ 4096) (hk : k ≤ 1) (hd : d.ok) (hs : Sn d) (hl : B + k * h + h ≤ d.seen.length) (hN : NoHd (secT d (B + k * h : Nat))) :
    SpecAt Try.prog nrcopied [.ptr i 0, .v (.int .i64 k)] H n (.tup [.v (.int .i64 0), .sl 0 0 0 2]) H n := by
  obtain ⟨⟨u1, h1⟩, ⟨u2, h2⟩, ⟨u3, h3⟩, ⟨u4, h4⟩, p1, p2, p3, p4⟩ := hO
  have := lift_ro (n := n) (okT.spec trcopied (rcopiedN (x := H.x) hB hh hk hd hs hl hN)) [(1, i), (2, D), (3, a), (4, b)] rfl rfl rfl (by omega) rfl rfl
    ⟨sub_ro rfl p1 h1 rfl, sub_ro rfl p2 h2 rfl, sub_ro rfl p3 h3 rfl, sub_ro rfl p4 h4 rfl, trivial⟩ (by simp [ropH, apartB, apart1, rn, lk]) (by simp [ropH, wrNZ, rn, lk]) rfl
  exact this
def rnwB (B h : Int) (D : Nat) : Body := .sv [.ptr D 0, .v (.int .i64 B), .v (.int .i64 h), .sl 0 0 0 2, .sl 0 0 0 2, .v (.int .i64 0), .v (.int .i64 1), .v (.bool false)]
set_option maxHeartbeats 1000000 in
theorem ropenW {B h : Nat} (hB : B ≤ 4096) (hh : 2 ≤ h ∧ h ≤ 4096) (hd : d.ok) (hs : Sn d) (ho : d.off = false) (hl : B + 2 * h ≤ d.seen.length) (h0 : NoHd (secT d B)) (h1 : NoHd (secT d (B + h : Nat))) :
    fnVC CT mrCOpen [.ptr 1 0, .v (.int .i64 B), .v (.int .i64 h)] (rp3s d x) 4 fun v H' n' => Sub 4 ⟨[(0, .tup [.ptr 4 0, .v (.int .i64 0)])], ⟨[(4, some ⟨true, rnwB B h 1⟩)], x⟩, 5⟩ ⟨[(0, v)], H', n'⟩ := by
  have hsn := hd.most
  obtain ⟨hh1, hh2⟩ := hh
  unfold mrCOpen rp3s refB strB
  simp -implicitDefEqProofs only [↓fnVC, initTm]
  have a1 : decide ((B : Int) < 0) = false := decide_eq_false (by omega)
  have a2 : decide ((h : Int) < 2) = false := decide_eq_false (by omega)
  have a3 : decide ((B : Int) > (d.seen.length : Int)) = false := decide_eq_false (by omega)
  have w1 : IntKind.i64.wrap ((d.seen.length : Int) - (B : Int)) = ((d.seen.length - B : Nat) : Int) := by rw [wrap_i64 (by omega) (by omega)]; omega
  have e4 : ((d.seen.length - B : Nat) : Int).tdiv 2 = (((d.seen.length - B) / 2 : Nat) : Int) := rfl
  have w2 : IntKind.i64.wrap (((d.seen.length - B : Nat) : Int).tdiv 2) = (((d.seen.length - B) / 2 : Nat) : Int) := by rw [e4, wrap_i64 (by omega) (by omega)]
  have a4 : decide ((h : Int) > (((d.seen.length - B) / 2 : Nat) : Int)) = false := decide_eq_false (by omega)
  simp -implicitDefEqProofs only [go_sem, a1, a2, a3, w1, w2, a4]
  refine condK_bb (fun c => by rw [ho] at c; cases c) (fun c => ?_)
  simp -implicitDefEqProofs only [go_sem, if_true, Option.bind_some, Option.bind_none, sp8_0, sp8_1, sp8_2, sp8_3, sp8_4, sp8_5, sp8_6, sp8_7]
  refine at_call trcopied (rcopiedNS (i := 4) (D := 1) (a := 2) (b := 3) (k := 0) (B := B) (h := h) (d := d) ⟨⟨_, by rfl⟩, ⟨_, by rfl⟩, ⟨_, by rfl⟩, ⟨_, by rfl⟩, by decide⟩ hB ⟨hh1, hh2⟩ (by decide) hd hs (by omega) (by rw [Nat.zero_mul]; exact h0)) ?_
  simp -implicitDefEqProofs only [go_sem]
  refine at_call trcopied (rcopiedNS (i := 4) (D := 1) (a := 2) (b := 3) (k := 1) (B := B) (h := h) (d := d) ⟨⟨_, by rfl⟩, ⟨_, by rfl⟩, ⟨_, by rfl⟩, ⟨_, by rfl⟩, by decide⟩ hB ⟨hh1, hh2⟩ (by decide) hd hs (by omega) (by rw [Nat.one_mul]; exact h1)) ?_
  simp -implicitDefEqProofs only [go_sem, sp8_0, sp8_1, sp8_2, sp8_3, sp8_4, sp8_5, sp8_6, sp8_7]
  unfold rnwB
  refine sub_mk [] rfl rfl rfl ?_
  simp only [tmSub, hpSub, objSub, eqTm, eqHp, rn, lk, SV.ren, SV.renC, SV.renB, SV.renA, ren_ints, ren_strs, ren_pl, ren_svs, SV.v.injEq, Value.int.injEq, Body.ints.injEq, SV.ptr.injEq, SV.sl.injEq, Value.string.injEq, Value.bool.injEq, List.map_cons, List.map_nil, forall_const, Nat.reduceLT, Nat.lt_add_one, imp_self, true_and, and_true, and_self, ob_some, get_mk, lk_cons, ↓reduceIte, Nat.reduceEqDiff, ne_eq, not_true_eq_false, not_false_eq_true, Nat.one_ne_zero, Nat.zero_ne_one, Nat.succ_ne_self, Nat.reduceAdd, Bool.false_eq_true, false_implies, implies_true, reduceCtorEq]
theorem ropenS {B h : Nat} (hR : RefAt H d i a b true true true) (hB : B ≤ 4096) (hh : 2 ≤ h ∧ h ≤ 4096) (hd : d.ok) (hs : Sn d) (ho : d.off = false) (hl : B + 2 * h ≤ d.seen.length) (h0 : NoHd (secT d B)) (h1 : NoHd (secT d (B + h : Nat))) (hn : n + 1 ≤ 1000) :
    SpecAt Try.prog nrCOpen [.ptr i 0, .v (.int .i64 B), .v (.int .i64 h)] H n (.tup [.ptr n 0, .v (.int .i64 0)]) ⟨(n, some ⟨true, rnwB B h i⟩) :: H.l, H.x⟩ (n + 1) := by
  obtain ⟨hi, ha, hb, ⟨p1, p2, p3⟩, ⟨q1, q2, q3⟩, n1, n2, n3⟩ := hR
  have := lift (n := n) (okT.spec trCOpen (ropenW (x := H.x) hB hh hd hs ho hl h0 h1)) [(1, i), (2, a), (3, b)] rfl rfl rfl (by omega) rfl rfl
    ⟨sub_ro rfl p1 hi rfl, sub_ro rfl p2 ha rfl, sub_ro rfl p3 hb rfl, trivial⟩ (by simp [rp3s, apartB, apart1, rn, lk]) (by simp [rp3s, wrNZ, rn, lk]) (by omega)
  exact this
theorem ropenE {B h : Int} (hR : RefAt H d i a b true true true) (hd : d.ok) (hN : noReg d.seen.length B h) : SpecAt Try.prog nrCOpen [.ptr i 0, .v (.int .i64 B), .v (.int .i64 h)] H n (.tup [.v (.pointer none), .v (.int .i64 1)]) H n := by
  obtain ⟨hi, ha, hb, ⟨p1, p2, p3⟩, ⟨q1, q2, q3⟩, n1, n2, n3⟩ := hR
  have hsn := hd.most
  refine okT.pure trCOpen (?_)
  unfold mrCOpen
  unfold refB at hi
  simp -implicitDefEqProofs only [↓fnVC, initTm]
  by_cases c1 : B < 0
  · have a1 : decide (B < 0) = true := decide_eq_true c1
    simp -implicitDefEqProofs only [go_sem, a1]
  have a1 : decide (B < 0) = false := decide_eq_false c1
  by_cases c2 : h < 2
  · have a2 : decide (h < 2) = true := decide_eq_true c2
    simp -implicitDefEqProofs only [go_sem, a1, a2]
  have a2 : decide (h < 2) = false := decide_eq_false c2
  by_cases c3 : (d.seen.length : Int) < B
  · have a3 : decide (B > (d.seen.length : Int)) = true := decide_eq_true c3
    simp -implicitDefEqProofs only [go_sem, hi, a1, a2, a3]
  have a3 : decide (B > (d.seen.length : Int)) = false := decide_eq_false c3
  have w1 : IntKind.i64.wrap ((d.seen.length : Int) - B) = (d.seen.length : Int) - B := by rw [wrap_i64 (by omega) (by omega)]
  have w2 : IntKind.i64.wrap (((d.seen.length : Int) - B).tdiv 2) = ((d.seen.length : Int) - B).tdiv 2 := by
    rw [Int.tdiv_eq_ediv_of_nonneg (by omega)]
    exact wrap_i64 (by omega) (by omega)
  have a4 : decide (h > ((d.seen.length : Int) - B).tdiv 2) = true := decide_eq_true (by
    rcases hN with h | h | h | h
    · exact absurd h c1
    · exact absurd h c2
    · exact absurd h c3
    · exact h)
  simp -implicitDefEqProofs only [go_sem, hi, a1, a2, a3, w1, w2, a4]
end
section
/- Cells: without a device, or beyond its end. -/
set_option linter.unusedVariables false
set_option linter.unusedSimpArgs false
set_option maxRecDepth 100000
section
open Go.Proofs Go.ChangeShapes Go.WideShapes Go.ChangeAt Go.RowKit
variable {H : Type} {enc : TypeId × Value → H} {W : World}
theorem op_cells {fuel : Nat} {cs : List Value} {x : DataW H × List MemPlace} (h : DataW.trod enc Try.prog W 0 (fun _ => true) true fuel 41 cs = some x) :
    ∃ (k : Int) (nm t : ByteArray) (m : Int) (v : Value), cs = [.int .u8 k, .string nm, .string t, .int .i64 m, v] := by
  obtain ⟨xs, n, rfl, hx, hl, hxl, hf⟩ := DataW.trod_struct Try.underlying41 h
  have h0 := hf 0 { name := "Kind", type := 5, offset := 0, embedded := false, tag := "", pkgPath := "", byteOffset := 0 } rfl
  have h1 := hf 1 { name := "Name", type := 9, offset := 1, embedded := false, tag := "", pkgPath := "", byteOffset := 8 } rfl
  have h2 := hf 2 { name := "Text", type := 9, offset := 2, embedded := false, tag := "", pkgPath := "", byteOffset := 24 } rfl
  have h3 := hf 3 { name := "N", type := 3, offset := 3, embedded := false, tag := "", pkgPath := "", byteOffset := 40 } rfl
  have c5 : Try.prog.cellsOf 5 = 1 := by kernel_rfl
  have c9 : Try.prog.cellsOf 9 = 1 := by kernel_rfl
  have c3 : Try.prog.cellsOf 3 = 1 := by kernel_rfl
  have c41 : Try.prog.cellsOf 41 = 5 := by kernel_rfl
  rw [c41] at hl
  match cs, hl with
  | [a, b, c, d, e], _ =>
    match xs, hxl with
    | [y0, y1, y2, y3, y4], _ =>
      simp only [c5, c9, c3, List.drop_succ_cons, List.drop_zero, List.take_succ_cons, List.take_zero, List.getElem?_cons_succ, List.getElem?_cons_zero] at h0 h1 h2 h3
      obtain ⟨M, e0, rfl, hM⟩ := DataW.trod_int Try.underlying5 h0
      obtain ⟨nm, e1, rfl, _⟩ := DataW.trod_string Try.underlying9 h1
      obtain ⟨t, e2, rfl, _⟩ := DataW.trod_string Try.underlying9 h2
      obtain ⟨m, e3, rfl, hm⟩ := DataW.trod_int Try.underlying3 h3
      simp only [List.cons.injEq, and_true] at e0 e1 e2 e3
      subst e0; subst e1; subst e2; subst e3
      exact ⟨M, nm, t, m, e, rfl⟩
theorem op_val {b0 : Nat} {v : Value} {d : DataW H} {ps : List MemPlace} (hval : Value.okWide Try.prog W .any b0 41 v) (h : DataW.Trod enc Try.prog W 0 (fun _ => true) true 41 v d ps) :
    ∃ (k : Int) (nm t : ByteArray) (m : Int) (y : Value), v = .agg #[.int .u8 k, .string nm, .string t, .int .i64 m, y] := by
  obtain ⟨cs, rfl, hsz⟩ := okWide_struct Try.underlying41 hval
  obtain ⟨fuel, h⟩ := h
  obtain ⟨k, nm, t, m, y, e⟩ := op_cells (show DataW.trod enc Try.prog W 0 (fun _ => true) true fuel 41 cs.toList = some (d, ps) from h)
  exact ⟨k, nm, t, m, y, by cases cs; simp only at e; rw [e]⟩
end
open Go.Proofs
variable {H : Hp} {n : Nat} {x : Nat → Option SO} {d d' : Fd} {i a b c : Nat} {u1 u2 u3 : Bool} {C C' : Ce}
theorem newNo {k j : Nat} (h : j < k) : NoHd (secT (newD k) j) := by
  have hz : (newD k).seen.getD j [] = z64 := by
    show (List.replicate k (zi 64)).getD j [] = z64
    rw [List.getD_eq_getElem?_getD, List.getElem?_replicate, if_pos h]; rfl
  exact z64_Z.no hz (.inl z64_get)
set_option maxHeartbeats 1000000 in
theorem wNone {B h : Int} {k m : Int} {nm t : ByteArray} {y : Value} (hb : -9223372036854775808 ≤ B ∧ B < 9223372036854775808 ∧ -9223372036854775808 ≤ h ∧ h < 9223372036854775808) :
    fnVC CT mCellNone [.v (.int .i64 B), .v (.int .i64 h), .agg [.v (.int .u8 k), .v (.string nm), .v (.string t), .v (.int .i64 m), .v y]] ⟨[], x⟩ 1 fun v H' n' => Sub 1 ⟨[(0, .v (.bool true))], ⟨[], x⟩, 1⟩ ⟨[(0, v)], H', n'⟩ := by
  unfold mCellNone
  simp -implicitDefEqProofs only [↓fnVC, initTm]
  simp -implicitDefEqProofs only [go_sem]
  refine at_call tcommits commitsS ?_
  simp -implicitDefEqProofs only [go_sem]
  refine at_call tCOpen openNil ?_
  simp -implicitDefEqProofs only [go_sem]
  refine in_call mixT tbegun ?_
  unfold mbegun
  simp -implicitDefEqProofs only [↓fnVC, initTm]
  simp -implicitDefEqProofs only [go_sem]
  refine at_call tFNew (nwD (k := 20) (by decide) (by decide) (by decide)) ?_
  unfold devL
  simp -implicitDefEqProofs only [go_sem]
  refine at_call trFNew (rnwG (k := 20) (by decide) (by decide) (by decide)) ?_
  unfold refL
  simp -implicitDefEqProofs only [go_sem, splice_zero, splice_succ, List.drop_succ_cons, List.drop_zero, List.drop_nil, List.cons_append, List.nil_append, List.length_cons, List.length_nil, if_true, Option.bind_some, Option.bind_none]
  have n00 : decide (((0 : Nat) : Int) = 0) = true := rfl
  have dok : (newD 20).ok := newD_ok (by decide)
  have dsn : Sn (newD 20) := Sn.new
  have dof : (newD 20).off = false := rfl
  have dlen : (newD 20).seen.length = 20 := by simp [newD]
  have hno : ∀ j : Nat, j < 20 → NoHd (secT (newD 20) ((j : Nat) : Int)) := fun j hj => newNo hj
  have hnR : ∀ B h, B + 2 * h ≤ 20 → 1 ≤ h → Reg (newD 20).seen B h 0 1 [] := fun B h h1 h2 => Reg.new h1 h2
  generalize newD 20 = d0 at dok dsn dof dlen hno hnR ⊢
  refine in_call mixT twopen ?_
  unfold mwopen
  simp -implicitDefEqProofs only [↓fnVC, initTm]
  simp -implicitDefEqProofs only [go_sem, splice_zero, splice_succ, List.drop_succ_cons, List.drop_zero, List.drop_nil, List.cons_append, List.nil_append, List.length_cons, List.length_nil, if_true, Option.bind_some, Option.bind_none]
  by_cases hr : noReg 20 B h
  · refine at_call tCOpen (openE (i := 2) (a := 3) (b := 4) (c := 5) (d := d0) ⟨by rfl, by rfl, by rfl, by rfl, by decide⟩ dok (by rw [dlen]; exact hr)) ?_
    simp -implicitDefEqProofs only [go_sem, splice_zero, splice_succ, List.drop_succ_cons, List.drop_zero, List.drop_nil, List.cons_append, List.nil_append, List.length_cons, List.length_nil, if_true, Option.bind_some, Option.bind_none]
    refine at_call trCOpen (ropenE (i := 6) (a := 7) (b := 8) (d := d0) ⟨by rfl, by rfl, by rfl, by decide⟩ dok (by rw [dlen]; exact hr)) ?_
    simp -implicitDefEqProofs only [go_sem, splice_zero, splice_succ, List.drop_succ_cons, List.drop_zero, List.drop_nil, List.cons_append, List.nil_append, List.length_cons, List.length_nil, if_true, Option.bind_some, Option.bind_none]
    simp -implicitDefEqProofs only [go_sem]
    refine at_call tCGet getN ?_
    simp -implicitDefEqProofs only [go_sem]
    refine at_call tCUndo undoN ?_
    have q1 : seq ⟨#[]⟩ ⟨#[]⟩ = true := seq_self _
    simp -implicitDefEqProofs only [go_sem, q1]
    refine at_call tCNames namesN ?_
    simp -implicitDefEqProofs only [go_sem, n00]
    refine at_call tCNumber numN ?_
    simp -implicitDefEqProofs only [go_sem]
    refine at_call tCPut putN ?_
    simp -implicitDefEqProofs only [go_sem]
    refine at_call tCCommit commitN ?_
    simp -implicitDefEqProofs only [go_sem]
    refine at_call tCDrop dropN ?_
    simp -implicitDefEqProofs only [go_sem]
    refine sub_mk [] rfl rfl rfl ?_
    simp only [tmSub, hpSub, objSub, eqTm, eqHp, rn, lk, SV.ren, SV.renC, SV.renB, SV.renA, ren_ints, ren_strs, ren_pl, ren_svs, SV.v.injEq, Value.int.injEq, Body.ints.injEq, SV.ptr.injEq, SV.sl.injEq, Value.string.injEq, Value.bool.injEq, List.map_cons, List.map_nil, forall_const, Nat.reduceLT, Nat.lt_add_one, imp_self, true_and, and_true, and_self, ob_some, get_mk, lk_cons, ↓reduceIte, Nat.reduceEqDiff, ne_eq, not_true_eq_false, not_false_eq_true, Nat.one_ne_zero, Nat.zero_ne_one, Nat.succ_ne_self, Nat.reduceAdd, Bool.false_eq_true, false_implies, implies_true, reduceCtorEq]
  · have hr1 : 0 ≤ B ∧ 2 ≤ h ∧ B ≤ 20 ∧ h ≤ ((20 : Nat) - B).tdiv 2 := by unfold noReg at hr; omega
    rw [Int.tdiv_eq_ediv_of_nonneg (by omega)] at hr1
    obtain ⟨B, rfl⟩ : ∃ k : Nat, B = k := ⟨B.toNat, by omega⟩
    obtain ⟨h, rfl⟩ : ∃ k : Nat, h = k := ⟨h.toNat, by omega⟩
    have hBh : B + 2 * h ≤ 20 := by omega
    refine at_call tCOpen (openR (i := 2) (a := 3) (b := 4) (c := 5) (d := d0) ⟨by rfl, by rfl, by rfl, by rfl, by decide⟩ (by omega) (by omega) dok dof (by omega) (hnR B h hBh (by omega)) srtE_nil (by decide)) ?_
    simp -implicitDefEqProofs only [go_sem, splice_zero, splice_succ, List.drop_succ_cons, List.drop_zero, List.drop_nil, List.cons_append, List.nil_append, List.length_cons, List.length_nil, if_true, Option.bind_some, Option.bind_none]
    refine at_call trCOpen (ropenS (i := 6) (a := 7) (b := 8) (d := d0) ⟨by rfl, by rfl, by rfl, by decide⟩ (by omega) (by omega) dok dsn dof (by omega) (hno B (by omega)) (hno (B + h) (by omega)) (by decide)) ?_
    simp -implicitDefEqProofs only [go_sem, splice_zero, splice_succ, List.drop_succ_cons, List.drop_zero, List.drop_nil, List.cons_append, List.nil_append, List.length_cons, List.length_nil, if_true, Option.bind_some, Option.bind_none]
    simp -implicitDefEqProofs only [go_sem]
    refine at_call tCGet getN ?_
    simp -implicitDefEqProofs only [go_sem]
    refine at_call tCUndo undoN ?_
    have q1 : seq ⟨#[]⟩ ⟨#[]⟩ = true := seq_self _
    simp -implicitDefEqProofs only [go_sem, q1]
    refine at_call tCNames namesN ?_
    simp -implicitDefEqProofs only [go_sem, n00]
    refine at_call tCNumber numN ?_
    simp -implicitDefEqProofs only [go_sem]
    refine at_call tCPut putN ?_
    simp -implicitDefEqProofs only [go_sem]
    refine at_call tCCommit commitN ?_
    simp -implicitDefEqProofs only [go_sem]
    refine at_call tCDrop dropN ?_
    simp -implicitDefEqProofs only [go_sem]
    refine sub_mk [] rfl rfl rfl ?_
    simp only [tmSub, hpSub, objSub, eqTm, eqHp, rn, lk, SV.ren, SV.renC, SV.renB, SV.renA, ren_ints, ren_strs, ren_pl, ren_svs, SV.v.injEq, Value.int.injEq, Body.ints.injEq, SV.ptr.injEq, SV.sl.injEq, Value.string.injEq, Value.bool.injEq, List.map_cons, List.map_nil, forall_const, Nat.reduceLT, Nat.lt_add_one, imp_self, true_and, and_true, and_self, ob_some, get_mk, lk_cons, ↓reduceIte, Nat.reduceEqDiff, ne_eq, not_true_eq_false, not_false_eq_true, Nat.one_ne_zero, Nat.zero_ne_one, Nat.succ_ne_self, Nat.reduceAdd, Bool.false_eq_true, false_implies, implies_true, reduceCtorEq]
end
end Go.Sx