/- Trees, at this program. -/
import Derived.Test.YtaggkccjgnkloaaGreatCelD
import Derived.Test.YtaggkccjgnkloaaGreatCelG
import Derived.Test.YtaggkccjgnkloaaGreatSxC

set_option linter.unusedVariables false
set_option linter.unusedSimpArgs false
set_option maxRecDepth 100000
namespace Go.Sx
attribute [local go_sem ↓] bind_mk intsB_mk strsB_mk svB_mk fnVC ob_some vc_skip vc_exit vc_ret vc_seq vc_block kSeq_normal kSeq_exit kSeq_ret kBlock_normal kBlock_exit kBlock_ret vc_reg vc_regD vc_cond condK_true condK_false vc_loop kLoop_exit kLoop_ret kRoll_normal kRoll_exit kRoll_ret vcOps_nil vcOps_cons gd_bool gd_undef put_some put_none vcT_fin vcT_pure vcT_act vcT_acts vcT_stop stab_none stab_some stabM_nil stabM_cons stabO_ld stabO_ldn stabO_slP stabO_b2s fldOf_ai fldOf_agg fldOf_ait fldOf_aggt intsOf_nil intsOf_cons strsOf_nil strsOf_cons c_omap ob_if lk_nil lk_cons ev_t ev_k z_mov z_pick z_bin z_binB z_binP z_un z_r2s z_conv z_s2b z_b2s z_mkM z_luM z_upM z_lenM lenMk_mp lenMk_nil plsOf_v z_delM asM_so plV_v plV_agg mpOf_mp mpOf_nil mpUp_mp asM_mp luV_ok luV_v z_allocT aggOf_mk z_boxT z_alloc z_bld z_bldI z_rowI z_rowS z_ld z_ldn z_st z_stn asN_ptr asN_fn z_nilck z_fld z_fadr z_idxA z_idxP z_idxS z_idxV z_slS z_slL z_slP z_mk z_lenS z_lenL z_app appC_ints appC_pl appC_sv appC_strs isS_strs loose_ints loose_pl loose_sv z_slM z_callv callvK_fn callvK_f callvK_yl vc_rangeF rfEnd_eq rfGo_none rfGo_ret rfGo_exit yGo_mk yEnd_n yEnd_r yEnd_e yRdy_mk yMid_n putPs_nil putPs_cons leaf_v leaf_ptr leaf_sl leaf_yl leaf_mp z_appS z_appST z_appZ z_cpyS z_mkfn reps_int reps_str z_rowV z_slnil nilK_zero z_cpy z_call asT_tup z_extT z_box boxOf_ai boxOf_agg boxOf_int boxOf_str boxOf_bool boxOf_ptr boxOf_sl sbin_int sbin_str sbinB_mk sbinP_nn sbinP_pn sbinP_np i_add i_sub i_mul i_quo i_rem i_and i_or i_xor i_andNot i_shl i_shr i_eql i_neq i_lss i_leq i_gtr i_geq st_add st_eql st_neq st_lss st_leq st_gtr st_geq bo_eql bo_neq pt_eql pt_neq un_neg un_xor un_not asI_mk asB_mk asS_mk asP_mk asSl_mk asBy_mk bnd_none bnd_some get_mk hput_mk hdel_mk kill_eq wrOf_eq rowOf_eq rsvs_0 rsvs_1 rsvs_2 rsvs_3 rsv_t rsv_c1 rsv_cn nt_v nt_ptr nt_sl nt_agg nt_ai get_ints get_strs get_pl get_sv getN_ints getN_sv set_ints set_strs set_sv setN_ints setN_sv part_ints part_strs part_sv cat_ints cat_strs cat_sv over_ints over_strs over_sv ones_ints ones_strs evs_nil evs_cons condK_eqt condK_eqf det_callP V_ns V_nn V_gs V_gn obC_mk fresh_ev freshT_ev freshR_ev setN_plagg setN_intsv setN_svai setN_svagg over_intsv set_pl setN_pl setN_plai getN_pl getN_strs part_pl cat_pl over_pl over_plints z_mm
attribute [local go_sem] initTm ne_eq not_true_eq_false not_false_eq_true true_and and_true List.length_cons List.length_nil Int.toNat_natCast Nat.add_zero Nat.zero_add Nat.mul_one List.getElem?_cons_zero List.drop_zero List.take_length List.take_succ_cons List.take_zero List.take_nil List.drop_succ_cons Option.map_some Nat.le_refl implies_true List.getElem?_cons_succ decide_true decide_false Bool.not_true Bool.not_false beq_self_eq_true Nat.succ_ne_self Nat.one_ne_zero Nat.zero_ne_one vk_mk hk_mk nk_mk tok_eq plsOf_map intsOf_map bodyOf_pl bodyOf_ints bodyOf_strs bodyOf_sv part_aggv part_agg part_ai part_int part_str part_bool part_sl part_ptr part_nil numsOf_map u_int u_str u_bool u_pnil u_sl u_ptr u_oci u_ocs evq_nil evq_cons fillS_nil fillS_cons u_ocb ones_pl cells_sv cells_ints cells_strs cells_pl smms_nil smms_cons smm_min smm_max plsOf_nil List.nil_append List.all_cons List.all_nil Bool.and_self Bool.true_and Bool.and_true zws_len zw_len zi_len List.set_cons_zero List.set_cons_succ List.flatMap_cons List.flatMap_nil List.append_nil
attribute [local go_sem_proc] Nat.reduceEqDiff Nat.reduceAdd Nat.reduceMul Nat.reduceLT Nat.reduceLeDiff Nat.reduceSub Int.reduceToNat Int.reduceLE Int.reduceLT reduceCtorEq Int.reduceEq Int.reduceGT Int.reduceGE Int.reduceNeg
attribute [local go_sem_proc ↓] reduceIte
section
open Go.Proofs
variable {H : Hp} {n : Nat} {x : Nat → Option SO}
theorem rfailW {s : ByteArray} {e f : Int} : fnVC CT mrRFail [.ptr 1 0, .v (.int .i64 f)] ⟨[(1, some (rdO s e))], x⟩ 2 fun v H' n' => Sub 2 ⟨[(0, .tup [])], ⟨[(1, some (rdO s (failE e f)))], x⟩, 2⟩ ⟨[(0, v)], H', n'⟩ := by
  unfold mrRFail rdO
  unfold failE
  by_cases he : e = 0
  · have g0 : decide (e = 0) = true := decide_eq_true he
    rw [if_pos he]
    simp -implicitDefEqProofs only [↓fnVC, initTm]
    simp -implicitDefEqProofs only [go_sem, g0]
    refine sub_mk [] rfl rfl rfl ?_
    simp only [tmSub, hpSub, objSub, eqTm, eqHp, rn, lk, SV.ren, SV.renC, SV.renB, SV.renA, ren_ints, ren_strs, ren_pl, ren_svs, SV.v.injEq, Value.int.injEq, Body.ints.injEq, SV.ptr.injEq, SV.sl.injEq, Value.string.injEq, Value.bool.injEq, List.map_cons, List.map_nil, forall_const, Nat.reduceLT, Nat.lt_add_one, imp_self, true_and, and_true, and_self, ob_some, get_mk, lk_cons, ↓reduceIte, Nat.reduceEqDiff, ne_eq, not_true_eq_false, not_false_eq_true, Nat.one_ne_zero, Nat.zero_ne_one, Nat.succ_ne_self, Nat.reduceAdd, Bool.false_eq_true, false_implies, implies_true, reduceCtorEq]
  · have g0 : decide (e = 0) = false := decide_eq_false he
    rw [if_neg he]
    simp -implicitDefEqProofs only [↓fnVC, initTm]
    simp -implicitDefEqProofs only [go_sem, g0]
    refine sub_mk [] rfl rfl rfl ?_
    simp only [tmSub, hpSub, objSub, eqTm, eqHp, rn, lk, SV.ren, SV.renC, SV.renB, SV.renA, ren_ints, ren_strs, ren_pl, ren_svs, SV.v.injEq, Value.int.injEq, Body.ints.injEq, SV.ptr.injEq, SV.sl.injEq, Value.string.injEq, Value.bool.injEq, List.map_cons, List.map_nil, forall_const, Nat.reduceLT, Nat.lt_add_one, imp_self, true_and, and_true, and_self, ob_some, get_mk, lk_cons, ↓reduceIte, Nat.reduceEqDiff, ne_eq, not_true_eq_false, not_false_eq_true, Nat.one_ne_zero, Nat.zero_ne_one, Nat.succ_ne_self, Nat.reduceAdd, Bool.false_eq_true, false_implies, implies_true, reduceCtorEq]
theorem rfailSp {s : ByteArray} {e f : Int} {i : Nat} (hg : H.get i = some (rdO s e)) (hi : 0 < i ∧ i < 1000) :
    SpecAt Tryz.prog nrRFail [.ptr i 0, .v (.int .i64 f)] H n (.tup []) ⟨(i, some (rdO s (failE e f))) :: H.l, H.x⟩ n := by
  have := lift (n := n) (okT.spec trRFail (rfailW (x := H.x) (s := s) (e := e) (f := f))) [(1, i)] rfl rfl rfl (by omega) rfl rfl
    ⟨sub_wr rfl hi.1 hi.2 hg rfl, trivial⟩ (by simp [apartB, apart1, rn, lk]) (by simp [wrNZ, rn, lk]; omega) (by omega)
  exact this
theorem rrawW {s : ByteArray} {e : Int} {k : Nat} (hk : k ≤ 1048576) : fnVC CT mrRRaw [.ptr 1 0, .v (.int .i64 k)] ⟨[(1, some (rdO s e))], x⟩ 2 fun v H' n' => Sub 2 ⟨[(0, .v (.string (rawT s e k)))], ⟨[(1, some (rdO (rawS s e k) (rawE s e k)))], x⟩, 2⟩ ⟨[(0, v)], H', n'⟩ := by
  unfold mrRRaw
  have g1 : decide ((k : Int) < 0) = false := decide_eq_false (by omega)
  by_cases he : e = 0
  · subst he
    have g0 : decide ((0 : Int) = 0) = true := rfl
    by_cases hs : s.size < k
    · have g2 : decide ((k : Int) > (s.size : Int)) = true := decide_eq_true (by omega)
      have r1 : rawT s 0 k = ⟨#[]⟩ := by unfold rawT; rw [if_pos (.inr hs)]
      have r2 : rawS s 0 k = s := by unfold rawS; rw [if_pos (.inr hs)]
      have r3 : rawE s 0 k = 2 := by unfold rawE; rw [if_neg (by simp), if_pos hs]
      simp -implicitDefEqProofs only [↓fnVC, initTm]
      simp -implicitDefEqProofs only [go_sem, g0, g1, g2, rdO]
      refine at_call trRFail (rfailSp (i := 1) (s := s) (e := 0) (by rfl) (by decide)) ?_
      have r4 : failE 0 2 = 2 := rfl
      simp -implicitDefEqProofs only [go_sem]
      rw [r1, r2, r3, r4]
      refine sub_mk [] rfl rfl rfl ?_
      simp only [tmSub, hpSub, objSub, eqTm, eqHp, rn, lk, SV.ren, SV.renC, SV.renB, SV.renA, ren_ints, ren_strs, ren_pl, ren_svs, SV.v.injEq, Value.int.injEq, Body.ints.injEq, SV.ptr.injEq, SV.sl.injEq, Value.string.injEq, Value.bool.injEq, List.map_cons, List.map_nil, forall_const, Nat.reduceLT, Nat.lt_add_one, imp_self, true_and, and_true, and_self, ob_some, get_mk, lk_cons, ↓reduceIte, Nat.reduceEqDiff, ne_eq, not_true_eq_false, not_false_eq_true, Nat.one_ne_zero, Nat.zero_ne_one, Nat.succ_ne_self, Nat.reduceAdd, Bool.false_eq_true, false_implies, implies_true, reduceCtorEq, rdO]
    · have g2 : decide ((k : Int) > (s.size : Int)) = false := decide_eq_false (by omega)
      have r1 : rawT s 0 k = s.extract 0 k := by unfold rawT; rw [if_neg (by simp; omega)]
      have r2 : rawS s 0 k = s.extract k s.size := by unfold rawS; rw [if_neg (by simp; omega)]
      have r3 : rawE s 0 k = 0 := by unfold rawE; rw [if_neg (by simp), if_neg hs]
      simp -implicitDefEqProofs only [↓fnVC, initTm]
      simp -implicitDefEqProofs only [go_sem, g0, g1, g2, rdO]
      rw [r1, r2, r3]
      refine ⟨⟨by omega, by omega⟩, ⟨by omega, by omega, by omega⟩, ?_⟩
      refine sub_mk [] rfl rfl rfl ?_
      simp only [tmSub, hpSub, objSub, eqTm, eqHp, rn, lk, SV.ren, SV.renC, SV.renB, SV.renA, ren_ints, ren_strs, ren_pl, ren_svs, SV.v.injEq, Value.int.injEq, Body.ints.injEq, SV.ptr.injEq, SV.sl.injEq, Value.string.injEq, Value.bool.injEq, List.map_cons, List.map_nil, forall_const, Nat.reduceLT, Nat.lt_add_one, imp_self, true_and, and_true, and_self, ob_some, get_mk, lk_cons, ↓reduceIte, Nat.reduceEqDiff, ne_eq, not_true_eq_false, not_false_eq_true, Nat.one_ne_zero, Nat.zero_ne_one, Nat.succ_ne_self, Nat.reduceAdd, Bool.false_eq_true, false_implies, implies_true, reduceCtorEq]
  · have g0 : decide (e = 0) = false := decide_eq_false he
    have r1 : rawT s e k = ⟨#[]⟩ := by unfold rawT; rw [if_pos (.inl he)]
    have r2 : rawS s e k = s := by unfold rawS; rw [if_pos (.inl he)]
    have r3 : rawE s e k = e := by unfold rawE; rw [if_pos he]
    simp -implicitDefEqProofs only [↓fnVC, initTm]
    simp -implicitDefEqProofs only [go_sem, g0, rdO]
    rw [r1, r2, r3]
    refine sub_mk [] rfl rfl rfl ?_
    simp only [tmSub, hpSub, objSub, eqTm, eqHp, rn, lk, SV.ren, SV.renC, SV.renB, SV.renA, ren_ints, ren_strs, ren_pl, ren_svs, SV.v.injEq, Value.int.injEq, Body.ints.injEq, SV.ptr.injEq, SV.sl.injEq, Value.string.injEq, Value.bool.injEq, List.map_cons, List.map_nil, forall_const, Nat.reduceLT, Nat.lt_add_one, imp_self, true_and, and_true, and_self, ob_some, get_mk, lk_cons, ↓reduceIte, Nat.reduceEqDiff, ne_eq, not_true_eq_false, not_false_eq_true, Nat.one_ne_zero, Nat.zero_ne_one, Nat.succ_ne_self, Nat.reduceAdd, Bool.false_eq_true, false_implies, implies_true, reduceCtorEq]
theorem rrawSp {s : ByteArray} {e : Int} {k i : Nat} (hg : H.get i = some (rdO s e)) (hi : 0 < i ∧ i < 1000) (hk : k ≤ 1048576) :
    SpecAt Tryz.prog nrRRaw [.ptr i 0, .v (.int .i64 k)] H n (.v (.string (rawT s e k))) ⟨(i, some (rdO (rawS s e k) (rawE s e k))) :: H.l, H.x⟩ n := by
  have := lift (n := n) (okT.spec trRRaw (rrawW (x := H.x) (s := s) (e := e) hk)) [(1, i)] rfl rfl rfl (by omega) rfl rfl
    ⟨sub_wr rfl hi.1 hi.2 hg rfl, trivial⟩ (by simp [apartB, apart1, rn, lk]) (by simp [wrNZ, rn, lk]; omega) (by omega)
  exact this
variable {H : Hp} {n : Nat} {x : Nat → Option SO}
theorem reightSp {s : ByteArray} {e : Int} {i : Nat} (hg : H.get i = some (rdO s e)) (hi : 0 < i ∧ i < 1000) :
    SpecAt Tryz.prog nrRNumber [.ptr i 0, .v (.int .i64 8)] H n (.v (.int .i64 (num (rawT s (preE s e) 8) : Nat))) ⟨(i, some (rdO (rawS s (preE s e) 8) (rawE s (preE s e) 8))) :: H.l, H.x⟩ n := by
  have := lift (n := n) (okT.spec trRNumber (args := [.ptr 1 0, .v (.int .i64 8)]) (H := ⟨[(1, some (rdO s e))], H.x⟩) (n := 2) (v := .v (.int .i64 (num (rawT s (preE s e) 8) : Nat))) (H' := ⟨[(1, some (rdO (rawS s (preE s e) 8) (rawE s (preE s e) 8)))], H.x⟩) (n' := 2) (by
    have hok := eight_ok (s := s) (e := e)
    have g8 : decide ((8 : Int) = 8) = true := rfl
    unfold mrRNumber
    simp -implicitDefEqProofs only [↓fnVC, initTm]
    by_cases h0 : e = 0
    · have a0 : decide (e = 0) = true := decide_eq_true h0
      by_cases h8 : 8 ≤ s.size
      · have g0 : decide ((s.size : Int) ≥ 8) = true := decide_eq_true (by omega)
        have hb := bts_getD (t := s) (j := 0) (by omega)
        by_cases h128 : 128 ≤ (nbs s).getD 0 0
        · have g1 : decide ((((nbs s).getD 0 0 : Nat) : Int) ≥ 128) = true := decide_eq_true (by omega)
          have hE : failE e 3 = preE s e := by unfold failE preE; rw [if_pos h0, if_pos ⟨h0, h8, h128⟩]
          simp -implicitDefEqProofs only [go_sem, g8, a0, rdO, g0, hb, g1]
          refine ⟨by omega, ?_⟩
          refine at_call trRFail (rfailSp (i := 1) (s := s) (e := e) (f := 3) (by rfl) (by decide)) ?_
          rw [hE]
          simp -implicitDefEqProofs only [go_sem]
          refine at_call trRRaw (rrawSp (i := 1) (k := 8) (s := s) (e := (preE s e)) (by rfl) (by decide) (by decide)) ?_
          generalize rawT s (preE s e) 8 = T at hok ⊢
          have hsz : T.size ≤ 8 := by rcases hok with h | h <;> omega
          simp -implicitDefEqProofs only [go_sem]
          refine loop_fam (fun (j : Nat) => j ≤ T.size) (fun j => ⟨[(5, .v (.string T)), (6, .v (.int .i64 (nvl ((nbs T).take j) : Nat))), (7, .v (.int .i64 j))], ⟨[(1, some (rdO (rawS s (preE s e) 8) (rawE s (preE s e) 8)))], H.x⟩, 2⟩) (fun j => T.size - j) 0 (Nat.zero_le _) ?_ ?_
          · refine sub_mk [] rfl rfl rfl ?_
            simp only [tmSub, hpSub, objSub, eqTm, eqHp, rn, lk, SV.ren, SV.renC, SV.renB, SV.renA, ren_ints, ren_strs, ren_pl, ren_svs, SV.v.injEq, Value.int.injEq, Body.ints.injEq, SV.ptr.injEq, SV.sl.injEq, Value.string.injEq, Value.bool.injEq, List.map_cons, List.map_nil, forall_const, Nat.reduceLT, Nat.lt_add_one, imp_self, true_and, and_true, and_self, ob_some, get_mk, lk_cons, ↓reduceIte, Nat.reduceEqDiff, ne_eq, not_true_eq_false, not_false_eq_true, Nat.one_ne_zero, Nat.zero_ne_one, Nat.succ_ne_self, Nat.reduceAdd, Bool.false_eq_true, false_implies, implies_true, reduceCtorEq]
            exact ⟨⟨rfl, rfl⟩, rfl⟩
          · intro j hj
            simp -implicitDefEqProofs only [go_sem]
            refine condK_bb (fun c => ?_) (fun c => ?_)
            · have c1 : j < T.size := by have := of_decide_eq_true c; omega
              have hb := bts_getD c1
              have hlt := nbs_get_lt c1
              have hv := hok.lt c1
              have w1 := ishl_8 hv
              have w2 : IntKind.i64.wrap (((nbs T).getD j 0 : Nat) : Int) = (((nbs T).getD j 0 : Nat) : Int) := wrap_i64 (by omega) (by omega)
              have w3 := ior_byte hv hlt
              have w4 : IntKind.i64.wrap ((j : Int) + 1) = ((j + 1 : Nat) : Int) := by rw [wrap_i64 (by omega) (by omega)]; omega
              have hs := num_step c1
              simp -implicitDefEqProofs only [go_sem, c, hb, w1, w2, w3, w4]
              refine ⟨⟨by omega, by omega⟩, ?_⟩
              refine kLoop_mk (j + 1) (by omega) (by omega) ?_
              refine sub_mk [] rfl rfl rfl ?_
              simp only [tmSub, hpSub, objSub, eqTm, eqHp, rn, lk, SV.ren, SV.renC, SV.renB, SV.renA, ren_ints, ren_strs, ren_pl, ren_svs, SV.v.injEq, Value.int.injEq, Body.ints.injEq, SV.ptr.injEq, SV.sl.injEq, Value.string.injEq, Value.bool.injEq, List.map_cons, List.map_nil, forall_const, Nat.reduceLT, Nat.lt_add_one, imp_self, true_and, and_true, and_self, ob_some, get_mk, lk_cons, ↓reduceIte, Nat.reduceEqDiff, ne_eq, not_true_eq_false, not_false_eq_true, Nat.one_ne_zero, Nat.zero_ne_one, Nat.succ_ne_self, Nat.reduceAdd, Bool.false_eq_true, false_implies, implies_true, reduceCtorEq, w4, hs]
              rfl
            · have c1 : j = T.size := by have := of_decide_eq_false c; omega
              subst c1
              have hn : nvl ((nbs T).take T.size) = num T := by unfold num; rw [List.take_of_length_le (by rw [nbs_len]; exact Nat.le_refl _)]
              simp -implicitDefEqProofs only [go_sem, c]
              rw [hn]
              refine sub_mk [] rfl rfl rfl ?_
              simp only [tmSub, hpSub, objSub, eqTm, eqHp, rn, lk, SV.ren, SV.renC, SV.renB, SV.renA, ren_ints, ren_strs, ren_pl, ren_svs, SV.v.injEq, Value.int.injEq, Body.ints.injEq, SV.ptr.injEq, SV.sl.injEq, Value.string.injEq, Value.bool.injEq, List.map_cons, List.map_nil, forall_const, Nat.reduceLT, Nat.lt_add_one, imp_self, true_and, and_true, and_self, ob_some, get_mk, lk_cons, ↓reduceIte, Nat.reduceEqDiff, ne_eq, not_true_eq_false, not_false_eq_true, Nat.one_ne_zero, Nat.zero_ne_one, Nat.succ_ne_self, Nat.reduceAdd, Bool.false_eq_true, false_implies, implies_true, reduceCtorEq]
              rfl
        · have g1 : decide ((((nbs s).getD 0 0 : Nat) : Int) ≥ 128) = false := decide_eq_false (by omega)
          have hE : preE s e = e := by unfold preE; rw [if_neg (fun h => h128 h.2.2)]
          rw [hE] at hok ⊢
          simp -implicitDefEqProofs only [go_sem, g8, a0, rdO, g0, hb, g1]
          refine ⟨by omega, ?_⟩
          refine at_call trRRaw (rrawSp (i := 1) (k := 8) (s := s) (e := e) (by rfl) (by decide) (by decide)) ?_
          generalize rawT s e 8 = T at hok ⊢
          have hsz : T.size ≤ 8 := by rcases hok with h | h <;> omega
          simp -implicitDefEqProofs only [go_sem]
          refine loop_fam (fun (j : Nat) => j ≤ T.size) (fun j => ⟨[(5, .v (.string T)), (6, .v (.int .i64 (nvl ((nbs T).take j) : Nat))), (7, .v (.int .i64 j))], ⟨[(1, some (rdO (rawS s e 8) (rawE s e 8)))], H.x⟩, 2⟩) (fun j => T.size - j) 0 (Nat.zero_le _) ?_ ?_
          · refine sub_mk [] rfl rfl rfl ?_
            simp only [tmSub, hpSub, objSub, eqTm, eqHp, rn, lk, SV.ren, SV.renC, SV.renB, SV.renA, ren_ints, ren_strs, ren_pl, ren_svs, SV.v.injEq, Value.int.injEq, Body.ints.injEq, SV.ptr.injEq, SV.sl.injEq, Value.string.injEq, Value.bool.injEq, List.map_cons, List.map_nil, forall_const, Nat.reduceLT, Nat.lt_add_one, imp_self, true_and, and_true, and_self, ob_some, get_mk, lk_cons, ↓reduceIte, Nat.reduceEqDiff, ne_eq, not_true_eq_false, not_false_eq_true, Nat.one_ne_zero, Nat.zero_ne_one, Nat.succ_ne_self, Nat.reduceAdd, Bool.false_eq_true, false_implies, implies_true, reduceCtorEq]
            exact ⟨⟨rfl, rfl⟩, rfl⟩
          · intro j hj
            simp -implicitDefEqProofs only [go_sem]
            refine condK_bb (fun c => ?_) (fun c => ?_)
            · have c1 : j < T.size := by have := of_decide_eq_true c; omega
              have hb := bts_getD c1
              have hlt := nbs_get_lt c1
              have hv := hok.lt c1
              have w1 := ishl_8 hv
              have w2 : IntKind.i64.wrap (((nbs T).getD j 0 : Nat) : Int) = (((nbs T).getD j 0 : Nat) : Int) := wrap_i64 (by omega) (by omega)
              have w3 := ior_byte hv hlt
              have w4 : IntKind.i64.wrap ((j : Int) + 1) = ((j + 1 : Nat) : Int) := by rw [wrap_i64 (by omega) (by omega)]; omega
              have hs := num_step c1
              simp -implicitDefEqProofs only [go_sem, c, hb, w1, w2, w3, w4]
              refine ⟨⟨by omega, by omega⟩, ?_⟩
              refine kLoop_mk (j + 1) (by omega) (by omega) ?_
              refine sub_mk [] rfl rfl rfl ?_
              simp only [tmSub, hpSub, objSub, eqTm, eqHp, rn, lk, SV.ren, SV.renC, SV.renB, SV.renA, ren_ints, ren_strs, ren_pl, ren_svs, SV.v.injEq, Value.int.injEq, Body.ints.injEq, SV.ptr.injEq, SV.sl.injEq, Value.string.injEq, Value.bool.injEq, List.map_cons, List.map_nil, forall_const, Nat.reduceLT, Nat.lt_add_one, imp_self, true_and, and_true, and_self, ob_some, get_mk, lk_cons, ↓reduceIte, Nat.reduceEqDiff, ne_eq, not_true_eq_false, not_false_eq_true, Nat.one_ne_zero, Nat.zero_ne_one, Nat.succ_ne_self, Nat.reduceAdd, Bool.false_eq_true, false_implies, implies_true, reduceCtorEq, w4, hs]
              rfl
            · have c1 : j = T.size := by have := of_decide_eq_false c; omega
              subst c1
              have hn : nvl ((nbs T).take T.size) = num T := by unfold num; rw [List.take_of_length_le (by rw [nbs_len]; exact Nat.le_refl _)]
              simp -implicitDefEqProofs only [go_sem, c]
              rw [hn]
              refine sub_mk [] rfl rfl rfl ?_
              simp only [tmSub, hpSub, objSub, eqTm, eqHp, rn, lk, SV.ren, SV.renC, SV.renB, SV.renA, ren_ints, ren_strs, ren_pl, ren_svs, SV.v.injEq, Value.int.injEq, Body.ints.injEq, SV.ptr.injEq, SV.sl.injEq, Value.string.injEq, Value.bool.injEq, List.map_cons, List.map_nil, forall_const, Nat.reduceLT, Nat.lt_add_one, imp_self, true_and, and_true, and_self, ob_some, get_mk, lk_cons, ↓reduceIte, Nat.reduceEqDiff, ne_eq, not_true_eq_false, not_false_eq_true, Nat.one_ne_zero, Nat.zero_ne_one, Nat.succ_ne_self, Nat.reduceAdd, Bool.false_eq_true, false_implies, implies_true, reduceCtorEq]
              rfl
      · have g0 : decide ((s.size : Int) ≥ 8) = false := decide_eq_false (by omega)
        have hE : preE s e = e := by unfold preE; rw [if_neg (fun h => h8 h.2.1)]
        rw [hE] at hok ⊢
        simp -implicitDefEqProofs only [go_sem, g8, a0, rdO, g0]
        refine at_call trRRaw (rrawSp (i := 1) (k := 8) (s := s) (e := e) (by rfl) (by decide) (by decide)) ?_
        generalize rawT s e 8 = T at hok ⊢
        have hsz : T.size ≤ 8 := by rcases hok with h | h <;> omega
        simp -implicitDefEqProofs only [go_sem]
        refine loop_fam (fun (j : Nat) => j ≤ T.size) (fun j => ⟨[(5, .v (.string T)), (6, .v (.int .i64 (nvl ((nbs T).take j) : Nat))), (7, .v (.int .i64 j))], ⟨[(1, some (rdO (rawS s e 8) (rawE s e 8)))], H.x⟩, 2⟩) (fun j => T.size - j) 0 (Nat.zero_le _) ?_ ?_
        · refine sub_mk [] rfl rfl rfl ?_
          simp only [tmSub, hpSub, objSub, eqTm, eqHp, rn, lk, SV.ren, SV.renC, SV.renB, SV.renA, ren_ints, ren_strs, ren_pl, ren_svs, SV.v.injEq, Value.int.injEq, Body.ints.injEq, SV.ptr.injEq, SV.sl.injEq, Value.string.injEq, Value.bool.injEq, List.map_cons, List.map_nil, forall_const, Nat.reduceLT, Nat.lt_add_one, imp_self, true_and, and_true, and_self, ob_some, get_mk, lk_cons, ↓reduceIte, Nat.reduceEqDiff, ne_eq, not_true_eq_false, not_false_eq_true, Nat.one_ne_zero, Nat.zero_ne_one, Nat.succ_ne_self, Nat.reduceAdd, Bool.false_eq_true, false_implies, implies_true, reduceCtorEq]
          exact ⟨⟨rfl, rfl⟩, rfl⟩
        · intro j hj
          simp -implicitDefEqProofs only [go_sem]
          refine condK_bb (fun c => ?_) (fun c => ?_)
          · have c1 : j < T.size := by have := of_decide_eq_true c; omega
            have hb := bts_getD c1
            have hlt := nbs_get_lt c1
            have hv := hok.lt c1
            have w1 := ishl_8 hv
            have w2 : IntKind.i64.wrap (((nbs T).getD j 0 : Nat) : Int) = (((nbs T).getD j 0 : Nat) : Int) := wrap_i64 (by omega) (by omega)
            have w3 := ior_byte hv hlt
            have w4 : IntKind.i64.wrap ((j : Int) + 1) = ((j + 1 : Nat) : Int) := by rw [wrap_i64 (by omega) (by omega)]; omega
            have hs := num_step c1
            simp -implicitDefEqProofs only [go_sem, c, hb, w1, w2, w3, w4]
            refine ⟨⟨by omega, by omega⟩, ?_⟩
            refine kLoop_mk (j + 1) (by omega) (by omega) ?_
            refine sub_mk [] rfl rfl rfl ?_
            simp only [tmSub, hpSub, objSub, eqTm, eqHp, rn, lk, SV.ren, SV.renC, SV.renB, SV.renA, ren_ints, ren_strs, ren_pl, ren_svs, SV.v.injEq, Value.int.injEq, Body.ints.injEq, SV.ptr.injEq, SV.sl.injEq, Value.string.injEq, Value.bool.injEq, List.map_cons, List.map_nil, forall_const, Nat.reduceLT, Nat.lt_add_one, imp_self, true_and, and_true, and_self, ob_some, get_mk, lk_cons, ↓reduceIte, Nat.reduceEqDiff, ne_eq, not_true_eq_false, not_false_eq_true, Nat.one_ne_zero, Nat.zero_ne_one, Nat.succ_ne_self, Nat.reduceAdd, Bool.false_eq_true, false_implies, implies_true, reduceCtorEq, w4, hs]
            rfl
          · have c1 : j = T.size := by have := of_decide_eq_false c; omega
            subst c1
            have hn : nvl ((nbs T).take T.size) = num T := by unfold num; rw [List.take_of_length_le (by rw [nbs_len]; exact Nat.le_refl _)]
            simp -implicitDefEqProofs only [go_sem, c]
            rw [hn]
            refine sub_mk [] rfl rfl rfl ?_
            simp only [tmSub, hpSub, objSub, eqTm, eqHp, rn, lk, SV.ren, SV.renC, SV.renB, SV.renA, ren_ints, ren_strs, ren_pl, ren_svs, SV.v.injEq, Value.int.injEq, Body.ints.injEq, SV.ptr.injEq, SV.sl.injEq, Value.string.injEq, Value.bool.injEq, List.map_cons, List.map_nil, forall_const, Nat.reduceLT, Nat.lt_add_one, imp_self, true_and, and_true, and_self, ob_some, get_mk, lk_cons, ↓reduceIte, Nat.reduceEqDiff, ne_eq, not_true_eq_false, not_false_eq_true, Nat.one_ne_zero, Nat.zero_ne_one, Nat.succ_ne_self, Nat.reduceAdd, Bool.false_eq_true, false_implies, implies_true, reduceCtorEq]
            rfl
    · have a0 : decide (e = 0) = false := decide_eq_false h0
      have hE : preE s e = e := by unfold preE; rw [if_neg (fun h => h0 h.1)]
      rw [hE] at hok ⊢
      simp -implicitDefEqProofs only [go_sem, g8, a0, rdO]
      refine at_call trRRaw (rrawSp (i := 1) (k := 8) (s := s) (e := e) (by rfl) (by decide) (by decide)) ?_
      generalize rawT s e 8 = T at hok ⊢
      have hsz : T.size ≤ 8 := by rcases hok with h | h <;> omega
      simp -implicitDefEqProofs only [go_sem]
      refine loop_fam (fun (j : Nat) => j ≤ T.size) (fun j => ⟨[(5, .v (.string T)), (6, .v (.int .i64 (nvl ((nbs T).take j) : Nat))), (7, .v (.int .i64 j))], ⟨[(1, some (rdO (rawS s e 8) (rawE s e 8)))], H.x⟩, 2⟩) (fun j => T.size - j) 0 (Nat.zero_le _) ?_ ?_
      · refine sub_mk [] rfl rfl rfl ?_
        simp only [tmSub, hpSub, objSub, eqTm, eqHp, rn, lk, SV.ren, SV.renC, SV.renB, SV.renA, ren_ints, ren_strs, ren_pl, ren_svs, SV.v.injEq, Value.int.injEq, Body.ints.injEq, SV.ptr.injEq, SV.sl.injEq, Value.string.injEq, Value.bool.injEq, List.map_cons, List.map_nil, forall_const, Nat.reduceLT, Nat.lt_add_one, imp_self, true_and, and_true, and_self, ob_some, get_mk, lk_cons, ↓reduceIte, Nat.reduceEqDiff, ne_eq, not_true_eq_false, not_false_eq_true, Nat.one_ne_zero, Nat.zero_ne_one, Nat.succ_ne_self, Nat.reduceAdd, Bool.false_eq_true, false_implies, implies_true, reduceCtorEq]
        exact ⟨⟨rfl, rfl⟩, rfl⟩
      · intro j hj
        simp -implicitDefEqProofs only [go_sem]
        refine condK_bb (fun c => ?_) (fun c => ?_)
        · have c1 : j < T.size := by have := of_decide_eq_true c; omega
          have hb := bts_getD c1
          have hlt := nbs_get_lt c1
          have hv := hok.lt c1
          have w1 := ishl_8 hv
          have w2 : IntKind.i64.wrap (((nbs T).getD j 0 : Nat) : Int) = (((nbs T).getD j 0 : Nat) : Int) := wrap_i64 (by omega) (by omega)
          have w3 := ior_byte hv hlt
          have w4 : IntKind.i64.wrap ((j : Int) + 1) = ((j + 1 : Nat) : Int) := by rw [wrap_i64 (by omega) (by omega)]; omega
          have hs := num_step c1
          simp -implicitDefEqProofs only [go_sem, c, hb, w1, w2, w3, w4]
          refine ⟨⟨by omega, by omega⟩, ?_⟩
          refine kLoop_mk (j + 1) (by omega) (by omega) ?_
          refine sub_mk [] rfl rfl rfl ?_
          simp only [tmSub, hpSub, objSub, eqTm, eqHp, rn, lk, SV.ren, SV.renC, SV.renB, SV.renA, ren_ints, ren_strs, ren_pl, ren_svs, SV.v.injEq, Value.int.injEq, Body.ints.injEq, SV.ptr.injEq, SV.sl.injEq, Value.string.injEq, Value.bool.injEq, List.map_cons, List.map_nil, forall_const, Nat.reduceLT, Nat.lt_add_one, imp_self, true_and, and_true, and_self, ob_some, get_mk, lk_cons, ↓reduceIte, Nat.reduceEqDiff, ne_eq, not_true_eq_false, not_false_eq_true, Nat.one_ne_zero, Nat.zero_ne_one, Nat.succ_ne_self, Nat.reduceAdd, Bool.false_eq_true, false_implies, implies_true, reduceCtorEq, w4, hs]
          rfl
        · have c1 : j = T.size := by have := of_decide_eq_false c; omega
          subst c1
          have hn : nvl ((nbs T).take T.size) = num T := by unfold num; rw [List.take_of_length_le (by rw [nbs_len]; exact Nat.le_refl _)]
          simp -implicitDefEqProofs only [go_sem, c]
          rw [hn]
          refine sub_mk [] rfl rfl rfl ?_
          simp only [tmSub, hpSub, objSub, eqTm, eqHp, rn, lk, SV.ren, SV.renC, SV.renB, SV.renA, ren_ints, ren_strs, ren_pl, ren_svs, SV.v.injEq, Value.int.injEq, Body.ints.injEq, SV.ptr.injEq, SV.sl.injEq, Value.string.injEq, Value.bool.injEq, List.map_cons, List.map_nil, forall_const, Nat.reduceLT, Nat.lt_add_one, imp_self, true_and, and_true, and_self, ob_some, get_mk, lk_cons, ↓reduceIte, Nat.reduceEqDiff, ne_eq, not_true_eq_false, not_false_eq_true, Nat.one_ne_zero, Nat.zero_ne_one, Nat.succ_ne_self, Nat.reduceAdd, Bool.false_eq_true, false_implies, implies_true, reduceCtorEq]
          rfl)) [(1, i)] rfl rfl rfl (by omega) rfl rfl
    ⟨sub_wr rfl hi.1 hi.2 hg rfl, trivial⟩ (by simp [apartB, apart1, rn, lk]) (by simp [wrNZ, rn, lk]; omega) (by omega)
  exact this
variable {H : Hp} {n : Nat} {x : Nat → Option SO}
variable {H : Hp} {n : Nat} {x : Nat → Option SO}
variable {H : Hp} {n : Nat} {x : Nat → Option SO}
variable {H : Hp} {n : Nat} {x : Nat → Option SO}
theorem rnumW {s : ByteArray} {e : Int} {k : Nat} (hk : k ≤ 7) : fnVC CT mrRNumber [.ptr 1 0, .v (.int .i64 k)] ⟨[(1, some (rdO s e))], x⟩ 2 fun v H' n' => Sub 2 ⟨[(0, .v (.int .i64 (num (rawT s e k) : Nat)))], ⟨[(1, some (rdO (rawS s e k) (rawE s e k)))], x⟩, 2⟩ ⟨[(0, v)], H', n'⟩ := by
  unfold mrRNumber
  have hok : numOK (rawT s e k) := .inl (by have := rawT_size (s := s) (e := e) (k := k); omega)
  have g8 : decide ((k : Int) = 8) = false := decide_eq_false (by omega)
  simp -implicitDefEqProofs only [↓fnVC, initTm]
  simp -implicitDefEqProofs only [go_sem, g8]
  refine at_call trRRaw (rrawSp (i := 1) (k := k) (s := s) (e := e) (by rfl) (by decide) (by omega)) ?_
  generalize rawT s e k = T at hok ⊢
  have hsz : T.size ≤ 8 := by rcases hok with h | h <;> omega
  simp -implicitDefEqProofs only [go_sem]
  refine loop_fam (fun (j : Nat) => j ≤ T.size) (fun j => ⟨[(5, .v (.string T)), (6, .v (.int .i64 (nvl ((nbs T).take j) : Nat))), (7, .v (.int .i64 j))], ⟨[(1, some (rdO (rawS s e k) (rawE s e k)))], x⟩, 2⟩) (fun j => T.size - j) 0 (Nat.zero_le _) ?_ ?_
  · refine sub_mk [] rfl rfl rfl ?_
    simp only [tmSub, hpSub, objSub, eqTm, eqHp, rn, lk, SV.ren, SV.renC, SV.renB, SV.renA, ren_ints, ren_strs, ren_pl, ren_svs, SV.v.injEq, Value.int.injEq, Body.ints.injEq, SV.ptr.injEq, SV.sl.injEq, Value.string.injEq, Value.bool.injEq, List.map_cons, List.map_nil, forall_const, Nat.reduceLT, Nat.lt_add_one, imp_self, true_and, and_true, and_self, ob_some, get_mk, lk_cons, ↓reduceIte, Nat.reduceEqDiff, ne_eq, not_true_eq_false, not_false_eq_true, Nat.one_ne_zero, Nat.zero_ne_one, Nat.succ_ne_self, Nat.reduceAdd, Bool.false_eq_true, false_implies, implies_true, reduceCtorEq]
    exact ⟨⟨rfl, rfl⟩, rfl⟩
  · intro j hj
    simp -implicitDefEqProofs only [go_sem]
    refine condK_bb (fun c => ?_) (fun c => ?_)
    · have c1 : j < T.size := by have := of_decide_eq_true c; omega
      have hb := bts_getD c1
      have hlt := nbs_get_lt c1
      have hv := hok.lt c1
      have w1 := ishl_8 hv
      have w2 : IntKind.i64.wrap (((nbs T).getD j 0 : Nat) : Int) = (((nbs T).getD j 0 : Nat) : Int) := wrap_i64 (by omega) (by omega)
      have w3 := ior_byte hv hlt
      have w4 : IntKind.i64.wrap ((j : Int) + 1) = ((j + 1 : Nat) : Int) := by rw [wrap_i64 (by omega) (by omega)]; omega
      have hs := num_step c1
      simp -implicitDefEqProofs only [go_sem, c, hb, w1, w2, w3, w4]
      refine ⟨⟨by omega, by omega⟩, ?_⟩
      refine kLoop_mk (j + 1) (by omega) (by omega) ?_
      refine sub_mk [] rfl rfl rfl ?_
      simp only [tmSub, hpSub, objSub, eqTm, eqHp, rn, lk, SV.ren, SV.renC, SV.renB, SV.renA, ren_ints, ren_strs, ren_pl, ren_svs, SV.v.injEq, Value.int.injEq, Body.ints.injEq, SV.ptr.injEq, SV.sl.injEq, Value.string.injEq, Value.bool.injEq, List.map_cons, List.map_nil, forall_const, Nat.reduceLT, Nat.lt_add_one, imp_self, true_and, and_true, and_self, ob_some, get_mk, lk_cons, ↓reduceIte, Nat.reduceEqDiff, ne_eq, not_true_eq_false, not_false_eq_true, Nat.one_ne_zero, Nat.zero_ne_one, Nat.succ_ne_self, Nat.reduceAdd, Bool.false_eq_true, false_implies, implies_true, reduceCtorEq, w4, hs]
      rfl
    · have c1 : j = T.size := by have := of_decide_eq_false c; omega
      subst c1
      have hn : nvl ((nbs T).take T.size) = num T := by unfold num; rw [List.take_of_length_le (by rw [nbs_len]; exact Nat.le_refl _)]
      simp -implicitDefEqProofs only [go_sem, c]
      rw [hn]
      refine sub_mk [] rfl rfl rfl ?_
      simp only [tmSub, hpSub, objSub, eqTm, eqHp, rn, lk, SV.ren, SV.renC, SV.renB, SV.renA, ren_ints, ren_strs, ren_pl, ren_svs, SV.v.injEq, Value.int.injEq, Body.ints.injEq, SV.ptr.injEq, SV.sl.injEq, Value.string.injEq, Value.bool.injEq, List.map_cons, List.map_nil, forall_const, Nat.reduceLT, Nat.lt_add_one, imp_self, true_and, and_true, and_self, ob_some, get_mk, lk_cons, ↓reduceIte, Nat.reduceEqDiff, ne_eq, not_true_eq_false, not_false_eq_true, Nat.one_ne_zero, Nat.zero_ne_one, Nat.succ_ne_self, Nat.reduceAdd, Bool.false_eq_true, false_implies, implies_true, reduceCtorEq]
      rfl
theorem rnumSp {s : ByteArray} {e : Int} {k i : Nat} (hg : H.get i = some (rdO s e)) (hi : 0 < i ∧ i < 1000) (hk : k ≤ 7) :
    SpecAt Tryz.prog nrRNumber [.ptr i 0, .v (.int .i64 k)] H n (.v (.int .i64 (num (rawT s e k) : Nat))) ⟨(i, some (rdO (rawS s e k) (rawE s e k))) :: H.l, H.x⟩ n := by
  have := lift (n := n) (okT.spec trRNumber (rnumW (x := H.x) (s := s) (e := e) hk)) [(1, i)] rfl rfl rfl (by omega) rfl rfl
    ⟨sub_wr rfl hi.1 hi.2 hg rfl, trivial⟩ (by simp [apartB, apart1, rn, lk]) (by simp [wrNZ, rn, lk]; omega) (by omega)
  exact this
theorem rreadS0 {s : ByteArray} (hn : n + 1 ≤ 1000) : SpecAt Tryz.prog nrRead [.v (.string s)] H n (.ptr n 0) ⟨(n, some (rdO s 0)) :: H.l, H.x⟩ (n + 1) := by
  have := lift (n := n) (okT.spec trRead (args := [.v (.string s)]) (H := ⟨[], H.x⟩) (n := 1) (v := .ptr 1 0) (H' := ⟨[(1, some (rdO s 0))], H.x⟩) (n' := 2) (by
    unfold mrRead
    simp -implicitDefEqProofs only [↓fnVC, initTm]
    simp -implicitDefEqProofs only [go_sem]
    refine sub_mk [] rfl rfl rfl ?_
    simp only [tmSub, hpSub, objSub, eqTm, eqHp, rn, lk, SV.ren, SV.renC, SV.renB, SV.renA, ren_ints, ren_strs, ren_pl, ren_svs, SV.v.injEq, Value.int.injEq, Body.ints.injEq, SV.ptr.injEq, SV.sl.injEq, Value.string.injEq, Value.bool.injEq, List.map_cons, List.map_nil, forall_const, Nat.reduceLT, Nat.lt_add_one, imp_self, true_and, and_true, and_self, ob_some, get_mk, lk_cons, ↓reduceIte, Nat.reduceEqDiff, ne_eq, not_true_eq_false, not_false_eq_true, Nat.one_ne_zero, Nat.zero_ne_one, Nat.succ_ne_self, Nat.reduceAdd, Bool.false_eq_true, false_implies, implies_true, reduceCtorEq, rdO]
    rfl)) [] rfl rfl rfl (by omega) rfl rfl trivial rfl rfl (by omega)
  exact this
variable {H : Hp} {n : Nat} {x : Nat → Option SO}
end
section
/- Cells: the document's opening, where no copy is. -/
set_option linter.unusedVariables false
set_option linter.unusedSimpArgs false
set_option maxRecDepth 100000
open Go.Proofs
variable {H : Hp} {n : Nat} {x : Nat → Option SO} {d d' : Fd} {i a b c : Nat} {u1 u2 u3 : Bool} {C C' : Ce}
theorem rallW (hd : d.ok) (hsn : Sn d) : fnVC C3 mrFAll [.ptr 1 0] (rp3s d x) 4 fun v H' n' => Sub 4 ⟨[(0, .sl 4 0 d.seen.length 1)], ⟨[(1, some ⟨false, refB d 2 3⟩), (2, some ⟨false, strB d.safe⟩), (3, some ⟨false, .pl (qrow d.pend)⟩), (4, some ⟨true, strB d.seen⟩)], x⟩, 5⟩ ⟨[(0, v)], H', n'⟩ := by
  have q1 := crl_all64 hd
  unfold rp3s mrFAll
  simp -implicitDefEqProofs only [↓fnVC, initTm]
  simp -implicitDefEqProofs only [go_sem]
  refine at_call trFsettled (seS9 (i := 1) (a := 2) (b := 3) (d := d) (r := 4) (o := 0) (m := 1) (row := [64]) (ks := [64]) ⟨rfl, rfl, rfl, by decide⟩ hd (Nat.le_refl _) rfl (by decide) (by decide) rfl) ?_
  rw [q1, ← hsn]
  simp -implicitDefEqProofs only [go_sem]
  refine sub_mk [(4, 5)] rfl rfl rfl ?_
  simp only [tmSub, hpSub, objSub, eqTm, eqHp, rn, lk, SV.ren, SV.renC, SV.renB, SV.renA, ren_ints, ren_strs, ren_pl, ren_svs, SV.v.injEq, Value.int.injEq, Body.ints.injEq, SV.ptr.injEq, SV.sl.injEq, Value.string.injEq, Value.bool.injEq, List.map_cons, List.map_nil, forall_const, Nat.reduceLT, Nat.lt_add_one, imp_self, true_and, and_true, and_self, ob_some, get_mk, lk_cons, ↓reduceIte, Nat.reduceEqDiff, ne_eq, not_true_eq_false, not_false_eq_true, Nat.one_ne_zero, Nat.zero_ne_one, Nat.succ_ne_self, Nat.reduceAdd, Bool.false_eq_true, false_implies, implies_true, reduceCtorEq]
  repeat' (first | rfl | apply And.intro)
theorem ralG (h : RefAt H d i a b u1 u2 u3) (hd : d.ok) (hs : Sn d) (hn : n < 1000) : SpecAt Tryz.prog nrFAll [.ptr i 0] H n (.sl n 0 d.seen.length 1) ⟨(n, some ⟨true, strB d.seen⟩) :: H.l, H.x⟩ (n + 1) := by
  obtain ⟨hi, ha, hb, ⟨p1, p2, p3⟩, ⟨q1, q2, q3⟩, n1, n2, n3⟩ := h
  have := lift (n := n) (ok3.spec trFAll (rallW (x := H.x) hd hs)) [(1, i), (2, a), (3, b)] rfl rfl rfl (by omega) rfl rfl
    ⟨sub_ro rfl p1 hi rfl, sub_ro rfl p2 ha rfl, sub_ro rfl p3 hb rfl, trivial⟩ (by simp [apartB, apart1, rn, lk]) (by simp [wrNZ, rn, lk]; try omega) (by omega)
  exact this
def rcB (B h nu la : Int) (D : Nat) (wr : SV) : Body := .sv [.ptr D 0, .v (.int .i64 B), .v (.int .i64 h), .sl 0 0 0 2, wr, .v (.int .i64 nu), .v (.int .i64 la), .v (.bool false)]
def ropH (B h : Int) (d : Fd) (x : Nat → Option SO) : Hp := ⟨[(1, some ⟨false, rcB B h 0 1 2 (.sl 0 0 0 2)⟩), (2, some ⟨false, refB d 3 4⟩), (3, some ⟨false, strB d.safe⟩), (4, some ⟨false, .pl (qrow d.pend)⟩)], x⟩
theorem rcopiedN {B h k : Nat} (hB : B ≤ 4096) (hh : 2 ≤ h ∧ h ≤ 4096) (hk : k ≤ 1) (hd : d.ok) (hs : Sn d) (hl : B + k * h + h ≤ d.seen.length) (hN : NoHd (secT d (B + k * h : Nat))) :
    fnVC CT mrcopied [.ptr 1 0, .v (.int .i64 k)] (ropH B h d x) 5 fun v H' n' => Sub 5 ⟨[(0, .tup [.v (.int .i64 0), .sl 0 0 0 2])], ⟨[], x⟩, 5⟩ ⟨[(0, v)], H', n'⟩ := by
  unfold mrcopied ropH rcB
  simp -implicitDefEqProofs only [↓fnVC, initTm]
  simp -implicitDefEqProofs only [go_sem]
  refine at_call trFAll (ralG (i := 2) (a := 3) (b := 4) (d := d) (u1 := false) (u2 := false) (u3 := false) ⟨by rfl, by rfl, by rfl, by decide⟩ hd hs (by decide)) ?_
  have hm : k * h ≤ 4096 := by
    calc k * h ≤ 1 * h := Nat.mul_le_mul_right _ hk
      _ ≤ 4096 := by omega
  have w5 : IntKind.i64.wrap ((k : Int) * (h : Int)) = ((k * h : Nat) : Int) := by
    rw [← Int.natCast_mul]; exact wrap_i64 (by omega) (by omega)
  have w6 : IntKind.i64.wrap ((B : Int) + ((k * h : Nat) : Int)) = ((B + k * h : Nat) : Int) := by
    rw [wrap_i64 (by omega) (by omega)]; omega
  unfold strB
  simp -implicitDefEqProofs only [go_sem, w5, w6]
  have hsz : (secT d (B + k * h : Nat)).size = 64 := secT_size hd (by omega) (by omega)
  have hg : (List.map tx d.seen).getD (B + k * h) ByteArray.empty = secT d (B + k * h : Nat) := by
    unfold secT
    rw [Int.toNat_natCast, List.getD_eq_getElem?_getD, List.getElem?_map, List.getElem?_eq_getElem (by omega), List.getD_eq_getElem?_getD, List.getElem?_eq_getElem (by omega)]
    rfl
  refine ⟨⟨by omega, by omega⟩, by rw [List.length_map]; omega, ?_⟩
  rw [hg]
  generalize secT d (B + k * h : Nat) = s at hN hsz
  obtain ⟨e1, e2, hnn, l1, l2⟩ := hN
  refine at_call trRead (rreadS0 (s := s) (by decide)) ?_
  simp -implicitDefEqProofs only [go_sem]
  have f1 := rd_at (s := s) (k := 0) (w := 8) (by omega)
  have f2 := rd_at (s := s) (k := 8) (w := 4) (by omega)
  have f3 := rd_at (s := s) (k := 12) (w := 8) (by omega)
  rw [ext_all] at f1
  refine at_call trRNumber (reightSp (i := 6) (s := s) (e := 0) (by rfl) (by decide)) ?_
  rw [e1, f1.1, f1.2.1, f1.2.2]
  simp -implicitDefEqProofs only [go_sem]
  refine at_call trRNumber (rnumSp (i := 6) (k := 4) (s := s.extract 8 s.size) (e := 0) (by rfl) (by decide) (by decide)) ?_
  rw [f2.1, f2.2.1, f2.2.2]
  simp -implicitDefEqProofs only [go_sem]
  refine at_call trRNumber (reightSp (i := 6) (s := s.extract 12 s.size) (e := 0) (by rfl) (by decide)) ?_
  rw [e2, f3.1, f3.2.1, f3.2.2]
  rw [show 12 + 8 = 20 from rfl]
  unfold rdO
  simp -implicitDefEqProofs only [go_sem]
  by_cases c1 : num (s.extract 0 8) = 0
  · have a1 : decide ((num (s.extract 0 8) : Int) = 0) = true := decide_eq_true (by omega)
    simp -implicitDefEqProofs only [go_sem, a1]
    refine sub_mk [] rfl rfl rfl ?_
    simp only [tmSub, hpSub, objSub, eqTm, eqHp, rn, lk, SV.ren, SV.renC, SV.renB, SV.renA, ren_ints, ren_strs, ren_pl, ren_svs, SV.v.injEq, Value.int.injEq, Body.ints.injEq, SV.ptr.injEq, SV.sl.injEq, Value.string.injEq, Value.bool.injEq, List.map_cons, List.map_nil, forall_const, Nat.reduceLT, Nat.lt_add_one, imp_self, true_and, and_true, and_self, ob_some, get_mk, lk_cons, ↓reduceIte, Nat.reduceEqDiff, ne_eq, not_true_eq_false, not_false_eq_true, Nat.one_ne_zero, Nat.zero_ne_one, Nat.succ_ne_self, Nat.reduceAdd, Bool.false_eq_true, false_implies, implies_true, reduceCtorEq]
  have a1 : decide ((num (s.extract 0 8) : Int) = 0) = false := decide_eq_false (by omega)
  by_cases c2 : num (s.extract 0 8) = 9223372036854775807
  · have a2 : decide ((num (s.extract 0 8) : Int) = 9223372036854775807) = true := decide_eq_true (by omega)
    simp -implicitDefEqProofs only [go_sem, a1, a2]
    refine sub_mk [] rfl rfl rfl ?_
    simp only [tmSub, hpSub, objSub, eqTm, eqHp, rn, lk, SV.ren, SV.renC, SV.renB, SV.renA, ren_ints, ren_strs, ren_pl, ren_svs, SV.v.injEq, Value.int.injEq, Body.ints.injEq, SV.ptr.injEq, SV.sl.injEq, Value.string.injEq, Value.bool.injEq, List.map_cons, List.map_nil, forall_const, Nat.reduceLT, Nat.lt_add_one, imp_self, true_and, and_true, and_self, ob_some, get_mk, lk_cons, ↓reduceIte, Nat.reduceEqDiff, ne_eq, not_true_eq_false, not_false_eq_true, Nat.one_ne_zero, Nat.zero_ne_one, Nat.succ_ne_self, Nat.reduceAdd, Bool.false_eq_true, false_implies, implies_true, reduceCtorEq]
  have a2 : decide ((num (s.extract 0 8) : Int) = 9223372036854775807) = false := decide_eq_false (by omega)
  have a3 : decide ((num (s.extract 0 8) : Int) = (num (s.extract 12 20) : Int)) = false := decide_eq_false (by omega)
  simp -implicitDefEqProofs only [go_sem, a1, a2, a3, Bool.not_false]
  refine sub_mk [] rfl rfl rfl ?_
  simp only [tmSub, hpSub, objSub, eqTm, eqHp, rn, lk, SV.ren, SV.renC, SV.renB, SV.renA, ren_ints, ren_strs, ren_pl, ren_svs, SV.v.injEq, Value.int.injEq, Body.ints.injEq, SV.ptr.injEq, SV.sl.injEq, Value.string.injEq, Value.bool.injEq, List.map_cons, List.map_nil, forall_const, Nat.reduceLT, Nat.lt_add_one, imp_self, true_and, and_true, and_self, ob_some, get_mk, lk_cons, ↓reduceIte, Nat.reduceEqDiff, ne_eq, not_true_eq_false, not_false_eq_true, Nat.one_ne_zero, Nat.zero_ne_one, Nat.succ_ne_self, Nat.reduceAdd, Bool.false_eq_true, false_implies, implies_true, reduceCtorEq]
structure RopAt (H : Hp) (B h : Int) (d : Fd) (i D a b : Nat) : Prop where
  cell : ∃ u, H.get i = some ⟨u, rcB B h 0 1 D (.sl 0 0 0 2)⟩
  dev : ∃ u, H.get D = some ⟨u, refB d a b⟩
  safe : ∃ u, H.get a = some ⟨u, strB d.safe⟩
  pend : ∃ u, H.get b = some ⟨u, .pl (qrow d.pend)⟩
  ne : 0 < i ∧ 0 < D ∧ 0 < a ∧ 0 < b
theorem rcopiedNS {B h k D : Nat} (hO : RopAt H B h d i D a b) (hB : B ≤ 4096) (hh : 2 ≤ h ∧ h ≤ 4096) (hk : k ≤ 1) (hd : d.ok) (hs : Sn d) (hl : B + k * h + h ≤ d.seen.length) (hN : NoHd (secT d (B + k * h : Nat))) :
    SpecAt Tryz.prog nrcopied [.ptr i 0, .v (.int .i64 k)] H n (.tup [.v (.int .i64 0), .sl 0 0 0 2]) H n := by
  obtain ⟨⟨u1, h1⟩, ⟨u2, h2⟩, ⟨u3, h3⟩, ⟨u4, h4⟩, p1, p2, p3, p4⟩ := hO
  have := lift_ro (n := n) (okT.spec trcopied (rcopiedN (x := H.x) hB hh hk hd hs hl hN)) [(1, i), (2, D), (3, a), (4, b)] rfl rfl rfl (by omega) rfl rfl
    ⟨sub_ro rfl p1 h1 rfl, sub_ro rfl p2 h2 rfl, sub_ro rfl p3 h3 rfl, sub_ro rfl p4 h4 rfl, trivial⟩ (by simp [ropH, apartB, apart1, rn, lk]) (by simp [ropH, wrNZ, rn, lk]) rfl
  exact this
def rnwB (B h : Int) (D : Nat) : Body := .sv [.ptr D 0, .v (.int .i64 B), .v (.int .i64 h), .sl 0 0 0 2, .sl 0 0 0 2, .v (.int .i64 0), .v (.int .i64 1), .v (.bool false)]
set_option maxHeartbeats 1000000 in
theorem ropenW {B h : Nat} (hB : B ≤ 4096) (hh : 2 ≤ h ∧ h ≤ 4096) (hd : d.ok) (hs : Sn d) (ho : d.off = false) (hl : B + 2 * h ≤ d.seen.length) (h0 : NoHd (secT d B)) (h1 : NoHd (secT d (B + h : Nat))) :
    fnVC CT mrCOpen [.ptr 1 0, .v (.int .i64 B), .v (.int .i64 h)] (rp3s d x) 4 fun v H' n' => Sub 4 ⟨[(0, .tup [.ptr 4 0, .v (.int .i64 0)])], ⟨[(4, some ⟨true, rnwB B h 1⟩)], x⟩, 5⟩ ⟨[(0, v)], H', n'⟩ := by
  have hsn := hd.most
  obtain ⟨hh1, hh2⟩ := hh
  unfold mrCOpen rp3s refB strB
  simp -implicitDefEqProofs only [↓fnVC, initTm]
  have a1 : decide ((B : Int) < 0) = false := decide_eq_false (by omega)
  have a2 : decide ((h : Int) < 2) = false := decide_eq_false (by omega)
  have a3 : decide ((B : Int) > (d.seen.length : Int)) = false := decide_eq_false (by omega)
  have w1 : IntKind.i64.wrap ((d.seen.length : Int) - (B : Int)) = ((d.seen.length - B : Nat) : Int) := by rw [wrap_i64 (by omega) (by omega)]; omega
  have e4 : ((d.seen.length - B : Nat) : Int).tdiv 2 = (((d.seen.length - B) / 2 : Nat) : Int) := rfl
  have w2 : IntKind.i64.wrap (((d.seen.length - B : Nat) : Int).tdiv 2) = (((d.seen.length - B) / 2 : Nat) : Int) := by rw [e4, wrap_i64 (by omega) (by omega)]
  have a4 : decide ((h : Int) > (((d.seen.length - B) / 2 : Nat) : Int)) = false := decide_eq_false (by omega)
  simp -implicitDefEqProofs only [go_sem, a1, a2, a3, w1, w2, a4]
  refine condK_bb (fun c => by rw [ho] at c; cases c) (fun c => ?_)
  simp -implicitDefEqProofs only [go_sem, if_true, Option.bind_some, Option.bind_none, sp8_0, sp8_1, sp8_2, sp8_3, sp8_4, sp8_5, sp8_6, sp8_7]
  refine at_call trcopied (rcopiedNS (i := 4) (D := 1) (a := 2) (b := 3) (k := 0) (B := B) (h := h) (d := d) ⟨⟨_, by rfl⟩, ⟨_, by rfl⟩, ⟨_, by rfl⟩, ⟨_, by rfl⟩, by decide⟩ hB ⟨hh1, hh2⟩ (by decide) hd hs (by omega) (by rw [Nat.zero_mul]; exact h0)) ?_
  simp -implicitDefEqProofs only [go_sem]
  refine at_call trcopied (rcopiedNS (i := 4) (D := 1) (a := 2) (b := 3) (k := 1) (B := B) (h := h) (d := d) ⟨⟨_, by rfl⟩, ⟨_, by rfl⟩, ⟨_, by rfl⟩, ⟨_, by rfl⟩, by decide⟩ hB ⟨hh1, hh2⟩ (by decide) hd hs (by omega) (by rw [Nat.one_mul]; exact h1)) ?_
  simp -implicitDefEqProofs only [go_sem, sp8_0, sp8_1, sp8_2, sp8_3, sp8_4, sp8_5, sp8_6, sp8_7]
  unfold rnwB
  refine sub_mk [] rfl rfl rfl ?_
  simp only [tmSub, hpSub, objSub, eqTm, eqHp, rn, lk, SV.ren, SV.renC, SV.renB, SV.renA, ren_ints, ren_strs, ren_pl, ren_svs, SV.v.injEq, Value.int.injEq, Body.ints.injEq, SV.ptr.injEq, SV.sl.injEq, Value.string.injEq, Value.bool.injEq, List.map_cons, List.map_nil, forall_const, Nat.reduceLT, Nat.lt_add_one, imp_self, true_and, and_true, and_self, ob_some, get_mk, lk_cons, ↓reduceIte, Nat.reduceEqDiff, ne_eq, not_true_eq_false, not_false_eq_true, Nat.one_ne_zero, Nat.zero_ne_one, Nat.succ_ne_self, Nat.reduceAdd, Bool.false_eq_true, false_implies, implies_true, reduceCtorEq]
theorem ropenS {B h : Nat} (hR : RefAt H d i a b true true true) (hB : B ≤ 4096) (hh : 2 ≤ h ∧ h ≤ 4096) (hd : d.ok) (hs : Sn d) (ho : d.off = false) (hl : B + 2 * h ≤ d.seen.length) (h0 : NoHd (secT d B)) (h1 : NoHd (secT d (B + h : Nat))) (hn : n + 1 ≤ 1000) :
    SpecAt Tryz.prog nrCOpen [.ptr i 0, .v (.int .i64 B), .v (.int .i64 h)] H n (.tup [.ptr n 0, .v (.int .i64 0)]) ⟨(n, some ⟨true, rnwB B h i⟩) :: H.l, H.x⟩ (n + 1) := by
  obtain ⟨hi, ha, hb, ⟨p1, p2, p3⟩, ⟨q1, q2, q3⟩, n1, n2, n3⟩ := hR
  have := lift (n := n) (okT.spec trCOpen (ropenW (x := H.x) hB hh hd hs ho hl h0 h1)) [(1, i), (2, a), (3, b)] rfl rfl rfl (by omega) rfl rfl
    ⟨sub_ro rfl p1 hi rfl, sub_ro rfl p2 ha rfl, sub_ro rfl p3 hb rfl, trivial⟩ (by simp [rp3s, apartB, apart1, rn, lk]) (by simp [rp3s, wrNZ, rn, lk]) (by omega)
  exact this
end
end Go.Sx
/- Slices of calls (Op) that came in. -/
set_option linter.unusedVariables false
set_option linter.unusedSimpArgs false
set_option maxRecDepth 100000
namespace Go.Sx
open Go.Proofs Go.ChangeShapes Go.WideShapes Go.ChangeAt Go.RowKit Go.Deep
variable {H : Type} {enc : TypeId × Value → H} {W : World}
theorem op_cells {fuel : Nat} {cs : List Value} {x : DataW H × List MemPlace} (h : DataW.trod enc Tryz.prog W 0 (fun _ => true) true fuel 31 cs = some x) :
    ∃ (u : Int) (nm : ByteArray) (s : ByteArray) (k : Int) (kv : Value) (n : Nat) (y : DataW H × List MemPlace), cs = [.int .u8 u, .string nm, .string s, .int .i64 k, kv] ∧ (Lit.int .u8 u).wf = true ∧ (Lit.int .i64 k).wf = true ∧ DataW.trod enc Tryz.prog W 0 (fun _ => true) true n 23 [kv] = some y := by
  obtain ⟨xs, n, rfl, rfl, hl, hxl, hf⟩ := DataW.trod_struct Tryz.underlying31 h
  have h0 := hf 0 { name := "Kind", type := 5, offset := 0, embedded := false, tag := "", pkgPath := "", byteOffset := 0 } rfl
  have h1 := hf 1 { name := "Name", type := 9, offset := 1, embedded := false, tag := "", pkgPath := "", byteOffset := 8 } rfl
  have h2 := hf 2 { name := "Text", type := 9, offset := 2, embedded := false, tag := "", pkgPath := "", byteOffset := 24 } rfl
  have h3 := hf 3 { name := "N", type := 3, offset := 3, embedded := false, tag := "", pkgPath := "", byteOffset := 40 } rfl
  have h4 := hf 4 { name := "Fate", type := 25, offset := 4, embedded := false, tag := "", pkgPath := "", byteOffset := 48 } rfl
  have c_5 : Tryz.prog.cellsOf 5 = 1 := by kernel_rfl
  have c_9 : Tryz.prog.cellsOf 9 = 1 := by kernel_rfl
  have c_3 : Tryz.prog.cellsOf 3 = 1 := by kernel_rfl
  have cF : Tryz.prog.cellsOf 25 = 1 := by kernel_rfl
  have cO : Tryz.prog.cellsOf 31 = 5 := by kernel_rfl
  rw [cO] at hl
  match cs, hl with
  | [a0, a1, a2, a3, a4], _ =>
    match xs, hxl with
    | [y0, y1, y2, y3, y4], _ =>
      simp only [c_5, c_9, c_3, cF, List.drop_succ_cons, List.drop_zero, List.take_succ_cons, List.take_zero, List.getElem?_cons_succ, List.getElem?_cons_zero] at h0 h1 h2 h3 h4
      obtain ⟨u, e0, w0⟩ := DataW.trod_int Tryz.underlying5 h0
      obtain ⟨nm, e1, w1⟩ := DataW.trod_string Tryz.underlying9 h1
      obtain ⟨s, e2, w2⟩ := DataW.trod_string Tryz.underlying9 h2
      obtain ⟨k, e3, w3⟩ := DataW.trod_int Tryz.underlying3 h3
      obtain ⟨xs', n', rfl, eF, hl', hxl', hf'⟩ := DataW.trod_struct Tryz.underlying25 h4
      have hK := hf' 0 { name := "Keep", type := 23, offset := 0, embedded := false, tag := "", pkgPath := "", byteOffset := 0 } rfl
      have cK : Tryz.prog.cellsOf 23 = 1 := by kernel_rfl
      simp only [cK, List.drop_zero, List.take_succ_cons, List.take_zero] at hK
      obtain ⟨yK, gK⟩ : ∃ y, xs'[0]? = some y := ⟨_, List.getElem?_eq_getElem (by rw [hxl']; decide)⟩
      rw [gK] at hK
      simp only [List.cons.injEq, and_true] at e0 e1 e2 e3
      subst e0; subst e1; subst e2; subst e3
      exact ⟨u, nm, s, k, a4, _, _, rfl, w0.2, w3.2, hK⟩
theorem fate_cells {fuel : Nat} {cs : List Value} {x : DataW H × List MemPlace} (h : DataW.trod enc Tryz.prog W 0 (fun _ => true) true fuel 25 cs = some x) :
    ∃ (kv : Value) (n : Nat) (y : DataW H × List MemPlace), cs = [kv] ∧ DataW.trod enc Tryz.prog W 0 (fun _ => true) true n 23 [kv] = some y := by
  obtain ⟨xs', n', rfl, rfl, hl', hxl', hf'⟩ := DataW.trod_struct Tryz.underlying25 h
  have h4 := hf' 0 { name := "Keep", type := 23, offset := 0, embedded := false, tag := "", pkgPath := "", byteOffset := 0 } rfl
  have c51 : Tryz.prog.cellsOf 23 = 1 := by kernel_rfl
  have c53 : Tryz.prog.cellsOf 25 = 1 := by kernel_rfl
  rw [c53] at hl'
  match cs, hl' with
  | [a], _ =>
    simp only [c51, List.drop_zero, List.take_succ_cons, List.take_zero] at h4
    obtain ⟨y4, g4⟩ : ∃ y, xs'[0]? = some y := ⟨_, List.getElem?_eq_getElem (by rw [hxl']; decide)⟩
    rw [g4] at h4
    exact ⟨a, _, _, rfl, h4⟩
theorem cells?_get {W : World} {b n : Nat} {a : Addr} {cs : List Value} (h : W.cells? b a n = some cs) (i : Nat) (hi : i < n) : W.cell? (a.add i) = cs[i]? := by
  unfold World.cells? at h
  split at h
  · exact mapM_some_get h i i (by simp [hi])
  · cases h
structure KV (W : World) (l : Loc) (zs : List Int) (m : Nat) (kv : Value) : Prop where
  row : ∀ ρ, ObjOK ρ W l ⟨false, .ints .i64 zs⟩
  live : ∀ k, l.blk = some k → k < W.heap.size
  sl : slrel l 0 m 1 kv
  len : m ≤ zs.length
  sh : l.sh = none
theorem in_kv {fuel : Nat} {kv : Value} {y : DataW H × List MemPlace} (h0 : DataW.trod enc Tryz.prog W 0 (fun _ => true) true fuel 23 [kv] = some y) : ∃ l zs m, KV W l zs m kv := by
  rcases open_ints Tryz.underlying23 Tryz.underlying3 (by kernel_rfl) h0 with ⟨hcs, hx⟩ | ⟨a, len, cap, zs, hcs, _, hl, hm, hz, hx, hcell, hws⟩
  · cases hcs
    exact ⟨⟨none, 0, 0, false, none⟩, [], 0, fun ρ => ⟨rfl, exOK_ro rfl⟩, fun k hk => (by cases hk), ⟨rfl, .inl rfl⟩, Nat.le_refl _, rfl⟩
  · cases hcs
    replace hz : zs.length = cap := by simpa using hz
    by_cases h00 : cap = 0
    · subst h00
      have : len = 0 := by omega
      subst this
      exact ⟨⟨none, 0, 1, false, none⟩, [], 0, fun ρ => ⟨rfl, exOK_ro rfl⟩, fun k hk => (by cases hk), ⟨rfl, .inr ⟨by decide, a, rfl⟩⟩, Nat.le_refl _, rfl⟩
    · have hc0 := hcell 0 (by omega)
      have hs : a.spot = none := by
        have := World.cell?_spot hc0
        simpa [Addr.add] using this
      obtain ⟨c, T, fr, hb⟩ : ∃ c T fr, W.heap[a.block]? = some (.cells c T fr) := by
        have e : a.add 0 = a := by simp [Addr.add]
        rw [e] at hc0
        unfold World.cell? at hc0
        split at hc0
        · rename_i c T fr hb; exact ⟨c, T, fr, hb⟩
        · cases hc0
      have hsz : a.off + zs.length ≤ c.size := by
        have := hcell (zs.length - 1) (by omega)
        rw [cell_at hs hb] at this
        have := (Array.getElem?_eq_some_iff.1 this).1
        omega
      refine ⟨⟨some a.block, a.off, cap, false, none⟩, zs, len, fun ρ => ⟨?_, exOK_ro rfl⟩, fun k hk => (by cases hk; exact (Array.getElem?_eq_some_iff.1 hb).1), ?_, by omega, rfl⟩
      · refine ⟨c, T, fr, hb, by simp only; omega, by simp [Body.cells, hz], ?_, fun h => by cases h⟩
        intro j x hj
        simp only [Body.cells, List.getElem?_map] at hj
        have hj' : j < zs.length := by
          cases hq : zs[j]? with
          | none => rw [hq] at hj; cases hj
          | some q => exact (List.getElem?_eq_some_iff.1 hq).1
        refine ⟨.int .i64 (zs.getD j 0), by rw [← cell_at hs hb]; exact hcell j hj', ?_⟩
        rw [List.getElem?_eq_getElem hj'] at hj
        simp only [Option.map_some, Option.some.injEq] at hj
        subst hj
        simp [crel, arel, List.getD_eq_getElem?_getD, List.getElem?_eq_getElem hj']
      · refine ⟨cap, a.off, hl, ⟨by simp, fun e => by cases e⟩, fun h => by simp, ?_⟩
        cases a; cases hs; rfl
structure OpV where
  u : Int
  nm : ByteArray
  s : ByteArray
  k : Int
  zs : List Int
  m : Nat
def ocell (id : Nat) (o : OpV) : List SV := [.v (.int .u8 o.u), .v (.string o.nm), .v (.string o.s), .v (.int .i64 o.k), .sl id 0 o.m 1]
def orow (A : Nat) : Nat → List OpV → List SV
  | _, [] => []
  | j, o :: r => ocell (1000 + 4 * j + A) o ++ orow A (j + 1) r
theorem orow_len {A : Nat} : ∀ {l : List OpV} {j : Nat}, (orow A j l).length = l.length * 5
  | [], _ => rfl
  | o :: r, j => by simp only [orow, List.length_append, orow_len, ocell, List.length_cons, List.length_nil]; omega
theorem orow_at {A : Nat} {o0 : OpV} : ∀ {l : List OpV} {j0 j : Nat}, j < l.length → ((orow A j0 l).drop (j * 5)).take 5 = ocell (1000 + 4 * (j0 + j) + A) (l.getD j o0)
  | [], _, _, h => by simp at h
  | o :: r, j0, 0, _ => by simp [orow, ocell]
  | o :: r, j0, j + 1, h => by
    have := orow_at (A := A) (o0 := o0) (l := r) (j0 := j0 + 1) (j := j) (by simpa using h)
    have e : (orow A j0 (o :: r)).drop ((j + 1) * 5) = (orow A (j0 + 1) r).drop (j * 5) := by
      rw [show (j + 1) * 5 = 5 + j * 5 by omega, ← List.drop_drop]; rfl
    rw [e, this, show j0 + 1 + j = j0 + (j + 1) by omega]; rfl
def OpV.rng (o : OpV) : Prop := (0 ≤ o.u ∧ o.u ≤ 255) ∧ (-9223372036854775808 ≤ o.k ∧ o.k ≤ 9223372036854775807)
structure OpsIn (W : World) (v : Value) (ops : List OpV) (m : Nat) (lf : Nat → Loc) : Prop where
  lem : m ≤ ops.length
  rng : ∀ j, j < ops.length → (ops.getD j ⟨0, .empty, .empty, 0, [], 0⟩).rng
  sh : ∀ j, (lf j).sh = none
  ok : ∃ vs : List Value, vs.length = ops.length * 5 ∧ (∀ j, j < ops.length → ∃ kv, (vs.drop (j * 5)).take 5 = [.int .u8 (ops.getD j ⟨0, .empty, .empty, 0, [], 0⟩).u, .string (ops.getD j ⟨0, .empty, .empty, 0, [], 0⟩).nm, .string (ops.getD j ⟨0, .empty, .empty, 0, [], 0⟩).s, .int .i64 (ops.getD j ⟨0, .empty, .empty, 0, [], 0⟩).k, kv] ∧
      KV W (lf j) (ops.getD j ⟨0, .empty, .empty, 0, [], 0⟩).zs (ops.getD j ⟨0, .empty, .empty, 0, [], 0⟩).m kv) ∧
    ((v = .slice none 0 0 ∧ ops = [] ∧ m = 0) ∨ ∃ a c T fr, v = .slice (some a) m ops.length ∧ a.spot = none ∧ W.heap[a.block]? = some (.cells c T fr) ∧ ∀ i, i < vs.length → W.cell? (a.add i) = vs[i]?)
theorem in_ops {b0 : Nat} {v : Value} {d : DataW H} {ps : List MemPlace} (hval : Value.okWide Tryz.prog W .any b0 22 v) (h0 : DataW.Trod enc Tryz.prog W 0 (fun _ => true) true 22 v d ps) : ∃ ops m lf, OpsIn W v ops m lf := by
  obtain ⟨a0, len, cap, rfl⟩ := okWide_slice Tryz.underlying22 hval
  obtain ⟨fuel, hf⟩ := h0
  rcases open_slice Tryz.underlying22 hf with ⟨hcs, hx⟩ | ⟨a, len', cap', m, n', D, Pl, hcs, _, hl, hm, hmm, hx, hall⟩
  · simp only [Value.cells] at hcs
    cases hcs
    exact ⟨[], 0, fun _ => ⟨none, 0, 0, false, none⟩, Nat.le_refl _, fun j hj => (by simp at hj), fun _ => rfl, [], rfl, fun j hj => (by simp at hj), .inl ⟨rfl, rfl, rfl⟩⟩
  · simp only [Value.cells] at hcs
    cases hcs
    simp only [if_true] at hmm
    subst hmm
    obtain ⟨hs, c, T, fr, hb⟩ := spot_none Tryz.underlying22 hval
    have c55 : Tryz.prog.cellsOf 31 = 5 := by kernel_rfl
    rw [c55] at hall
    have each : ∀ j, ∃ (o : OpV) (l : Loc) (kv : Value), l.sh = none ∧ (j < m → W.cells? 0 (a.add (j * 5)) 5 = some [.int .u8 o.u, .string o.nm, .string o.s, .int .i64 o.k, kv] ∧ KV W l o.zs o.m kv ∧ o.rng) := by
      intro j
      by_cases hj : j < m
      · obtain ⟨cs', g1, g2⟩ := hall j hj
        obtain ⟨b0, b1, b2, b3, kv, n'', y, rfl, r0, r1, hk⟩ := op_cells g2
        obtain ⟨l, zs, q, hkv⟩ := in_kv hk
        exact ⟨⟨b0, b1, b2, b3, zs, q⟩, l, kv, hkv.sh, fun _ => ⟨g1, hkv, by simpa [Lit.wf, IntKind.min, IntKind.max, IntKind.signed, IntKind.bits] using r0, by simpa [Lit.wf, IntKind.min, IntKind.max, IntKind.signed, IntKind.bits] using r1⟩⟩
      · exact ⟨⟨0, .empty, .empty, 0, [], 0⟩, ⟨none, 0, 0, false, none⟩, .bool false, rfl, fun h => absurd h hj⟩
    obtain ⟨of, hof⟩ := Classical.axiomOfChoice each
    obtain ⟨lf, hlf⟩ := Classical.axiomOfChoice hof
    obtain ⟨kf, hkf⟩ := Classical.axiomOfChoice hlf
    have hget : ∀ j, j < m → ((List.range m).map of).getD j ⟨0, .empty, .empty, 0, [], 0⟩ = of j := fun j hj => by
      rw [List.getD_eq_getElem?_getD, List.getElem?_map, List.getElem?_range hj]; rfl
    refine ⟨(List.range m).map of, len, lf, by simp; exact hl, fun j hj => by rw [hget j (by simpa using hj)]; exact ((hkf j).2 (by simpa using hj)).2.2, fun j => (hkf j).1, ((List.range m).map fun j => [Value.int .u8 (of j).u, .string (of j).nm, .string (of j).s, .int .i64 (of j).k, kf j]).flatten, ?_, ?_, .inr ⟨a, c, T, fr, by simp, hs, hb, ?_⟩⟩
    · rw [flat_len (z := 5) (by intro s hs; simp at hs; obtain ⟨j, _, rfl⟩ := hs; rfl)]; simp
    · intro j hj
      have hj' : j < m := by simpa using hj
      refine ⟨kf j, ?_, ?_⟩
      · rw [flat_take (z := 5) (by intro s hs; simp at hs; obtain ⟨j, _, rfl⟩ := hs; rfl) (by simpa using hj'), hget j hj', List.getD_eq_getElem?_getD, List.getElem?_map, List.getElem?_range hj']; rfl
      · rw [hget j hj']; exact ((hkf j).2 hj').2.1
    · intro i hi
      rw [flat_len (z := 5) (by intro s hs; simp at hs; obtain ⟨j, _, rfl⟩ := hs; rfl)] at hi
      simp only [List.length_map, List.length_range] at hi
      have hj : i / 5 < m := by omega
      have h1 := ((hkf (i / 5)).2 hj).1
      have h2 := flat_take (z := 5) (l := (List.range m).map fun j => [Value.int .u8 (of j).u, .string (of j).nm, .string (of j).s, .int .i64 (of j).k, kf j]) (j := i / 5) (by intro s hs; simp at hs; obtain ⟨j, _, rfl⟩ := hs; rfl) (by simpa using hj)
      rw [List.getD_eq_getElem?_getD, List.getElem?_map, List.getElem?_range hj] at h2
      simp only [Option.map_some, Option.getD_some] at h2
      have h3 : (((List.range m).map fun j => [Value.int .u8 (of j).u, .string (of j).nm, .string (of j).s, .int .i64 (of j).k, kf j]).flatten)[i]? = [Value.int .u8 (of (i / 5)).u, .string (of (i / 5)).nm, .string (of (i / 5)).s, .int .i64 (of (i / 5)).k, kf (i / 5)][i % 5]? := by
        rw [← h2, List.getElem?_take, if_pos (Nat.mod_lt _ (by decide)), List.getElem?_drop]
        congr 1; omega
      rw [h3]
      have h4 := cells?_get h1 (i % 5) (Nat.mod_lt _ (by decide))
      rw [← h4]
      rw [cell_at hs hb]
      obtain ⟨s1, s2, s3⟩ := add_spot hs (i / 5 * 5)
      rw [cell_at (a := a.add (i / 5 * 5)) s1 (by rw [s2]; exact hb), s3]
      congr 1; omega
theorem row_loc {a : Addr} {len cap z : Nat} {c : Array Value} {T : TypeId} {fr : Nat × Nat} {vs : List Value} (hz0 : 0 < z) (hs : a.spot = none) (hb : W.heap[a.block]? = some (.cells c T fr)) (hl : len ≤ cap)
    (hvs : vs.length = cap * z) (hcell : ∀ i, i < vs.length → W.cell? (a.add i) = vs[i]?) :
    ∃ l : Loc, (∀ (ρ : Nat → Loc) (b : Body), (∀ es, b ≠ .mp es) → All2 (crel ρ) b.cells vs → ObjOK ρ W l ⟨false, b⟩) ∧ (∀ k, l.blk = some k → k < W.heap.size) ∧ slrel l 0 len z (.slice (some a) len cap) ∧ l.sh = none := by
  have hblk : a.block < W.heap.size := (Array.getElem?_eq_some_iff.1 hb).1
  have hsz : vs.length ≠ 0 → a.off + vs.length ≤ c.size := by
    intro h
    have := hcell (vs.length - 1) (by omega)
    rw [cell_at hs hb, List.getElem?_eq_getElem (by omega)] at this
    have := (Array.getElem?_eq_some_iff.1 this).1
    omega
  have hobj : ∀ (ρ : Nat → Loc) (l : Loc) (b : Body), l.ex = false → (∀ es, b ≠ .mp es) → RowOK ρ W l false b.cells → ObjOK ρ W l ⟨false, b⟩ := fun ρ l b hx hnm h => ObjOK.mk hnm h (exOK_ro hx)
  by_cases h00 : vs.length = 0
  · refine ⟨⟨some a.block, 0, 0, false, none⟩, fun ρ b hnm hcr => hobj ρ _ b rfl hnm ?_, fun k hk => (by cases hk; exact hblk), ?_, rfl⟩
    · have hlen := hcr.length
      refine ⟨c, T, fr, hb, Nat.zero_le _, by rw [hlen, h00]; exact Nat.le_refl _, ?_, fun h => by cases h⟩
      intro j x hj
      have : j < b.cells.length := (List.getElem?_eq_some_iff.1 hj).1
      omega
    · have hc : cap = 0 := by
        rcases Nat.mul_eq_zero.1 (hvs ▸ h00) with h | h
        · exact h
        · omega
      refine ⟨cap, a.off, hl, ⟨by simp [hc], fun e => by cases e⟩, fun h => absurd hc h, ?_⟩
      cases a; cases hs; rfl
  · refine ⟨⟨some a.block, a.off, cap * z, false, none⟩, fun ρ b hnm hcr => hobj ρ _ b rfl hnm ?_, fun k hk => (by cases hk; exact hblk), ?_, rfl⟩
    · have hlen := hcr.length
      refine ⟨c, T, fr, hb, by simp only; have := hsz h00; omega, by simp only; omega, ?_, fun h => by cases h⟩
      intro j x hj
      have hj' : j < vs.length := by rw [← hlen]; exact (List.getElem?_eq_some_iff.1 hj).1
      obtain ⟨y, hy, hr⟩ := hcr.get hj
      exact ⟨y, by rw [← cell_at hs hb, hcell j hj', hy], hr⟩
    · refine ⟨cap, a.off, hl, ⟨by simp, fun e => by cases e⟩, fun h => by simp, ?_⟩
      cases a; cases hs; rfl
def argX (opsA : Nat → List OpV) (rb : Nat → Option Body) (i : Nat) : Option SO :=
  if i < 1000 then none else if (i - 1000) % 4 = 3 then (rb ((i - 1000) / 4)).map (fun b => ⟨false, b⟩)
  else if (i - 1000) / 4 < (opsA ((i - 1000) % 4)).length then some ⟨false, .ints .i64 ((opsA ((i - 1000) % 4)).getD ((i - 1000) / 4) ⟨0, .empty, .empty, 0, [], 0⟩).zs⟩ else none
def argR (lfA : Nat → Nat → Loc) (lr : Nat → Loc) (i : Nat) : Loc := if i < 1000 then ⟨none, 0, 0, false, none⟩ else if (i - 1000) % 4 = 3 then lr ((i - 1000) / 4) else lfA ((i - 1000) % 4) ((i - 1000) / 4)
theorem argX_row {opsA : Nat → List OpV} {rb : Nat → Option Body} {j : Nat} {b : Body} (h : rb j = some b) : argX opsA rb (1003 + 4 * j) = some ⟨false, b⟩ := by
  unfold argX
  rw [if_neg (by omega), show (1003 + 4 * j - 1000) / 4 = j by omega, if_pos (by omega), h]; rfl
theorem argR_at {lfA : Nat → Nat → Loc} {lr : Nat → Loc} {j A : Nat} (hA : A < 3) : argR lfA lr (1000 + 4 * j + A) = lfA A j := by
  unfold argR
  rw [if_neg (by omega), show (1000 + 4 * j + A - 1000) / 4 = j by omega, show (1000 + 4 * j + A - 1000) % 4 = A by omega, if_neg (by omega)]
theorem argR_row {lfA : Nat → Nat → Loc} {lr : Nat → Loc} {j : Nat} : argR lfA lr (1003 + 4 * j) = lr j := by
  unfold argR
  rw [if_neg (by omega), show (1003 + 4 * j - 1000) / 4 = j by omega, if_pos (by omega)]
theorem hrel_args {opsA : Nat → List OpV} {lfA : Nat → Nat → Loc} {vA : Nat → Value} {mA : Nat → Nat} {rb : Nat → Option Body} {lr : Nat → Loc} (h : ∀ A, A < 3 → OpsIn W (vA A) (opsA A) (mA A) (lfA A))
    (hr : ∀ j b, rb j = some b → b.lt 1 = true ∧ (∀ k, (lr j).blk = some k → k < W.heap.size) ∧ ObjOK (argR lfA lr) W (lr j) ⟨false, b⟩) (hsh : ∀ j, (lr j).sh = none) (hsf : ∀ A j, (lfA A j).sh = none) :
    HRel (· < W.heap.size) W (argR lfA lr) 1 ⟨[], argX opsA rb⟩ W := by
  have hx : ∀ i s, argX opsA rb i = some s → 1000 ≤ i ∧ s.wr = false ∧ s.b.lt 1 = true ∧ ObjOK (argR lfA lr) W (argR lfA lr i) s ∧ ∀ k, (argR lfA lr i).blk = some k → k < W.heap.size := by
    intro i s hs
    unfold argX at hs
    split at hs
    · cases hs
    · rename_i hi
      split at hs
      · rename_i h3
        rw [Option.map_eq_some_iff] at hs
        obtain ⟨b, hb, rfl⟩ := hs
        obtain ⟨e1, e2, e3⟩ := hr _ b hb
        have e : argR lfA lr i = lr ((i - 1000) / 4) := by unfold argR; rw [if_neg hi, if_pos h3]
        rw [e]
        exact ⟨by omega, rfl, e1, e3, e2⟩
      · rename_i h3
        split at hs
        · rename_i hj
          cases hs
          obtain ⟨vs, _, hv, _⟩ := (h ((i - 1000) % 4) (by have := Nat.mod_lt (i - 1000) (by decide : 0 < 4); omega)).ok
          obtain ⟨kv, _, hk⟩ := hv _ hj
          have e : argR lfA lr i = lfA ((i - 1000) % 4) ((i - 1000) / 4) := by unfold argR; rw [if_neg hi, if_neg h3]
          rw [e]
          exact ⟨by omega, rfl, rfl, hk.row _, hk.live⟩
        · cases hs
  have hg : ∀ i, Hp.get ⟨[], argX opsA rb⟩ i = argX opsA rb i := fun i => rfl
  refine { os := rfl, tape := rfl, output := rfl, size := Nat.le_refl _, keep := fun _ _ => rfl, old := fun _ h => h, nil := ⟨rfl, rfl⟩, pos := by omega, obj := ?_, lt := ?_, own := ?_, inj := ?_, live := ?_, xok := ?_, shk := ShKeep.refl _, shp := fun i T c b e1 _ => (by
    unfold argR at e1
    split at e1
    · cases e1
    split at e1
    · rw [hsh] at e1; cases e1
    · rw [hsf] at e1; cases e1) }
  · exact fun i s hs => (hx i s (hg i ▸ hs)).2.2.2.1
  · intro i s hs
    obtain ⟨h1, _, h2, _, _⟩ := hx i s (hg i ▸ hs)
    exact ⟨by unfold idOK; simp; omega, h2⟩
  · intro i s b hs hw
    rw [(hx i s (hg i ▸ hs)).2.1] at hw; cases hw
  · intro i j s s' b _ hs _ hw
    rw [(hx i s (hg i ▸ hs)).2.1] at hw; cases hw
  · exact fun i s b hs hb => (hx i s (hg i ▸ hs)).2.2.2.2 b hb
  · intro i s hs
    obtain ⟨h1, h2, h3, _, _⟩ := hx i s hs
    exact ⟨h1, h2, h3, rfl⟩
theorem orow_lt {A n : Nat} : ∀ {l : List OpV} {j : Nat}, (orow A j l).all (ltB n) = true
  | [], _ => rfl
  | o :: r, j => by
    simp only [orow, List.all_append, orow_lt, Bool.and_true, ocell, List.all_cons, List.all_nil, ltB, ltA, idOK]
    simp; omega
theorem ops_loc {A m : Nat} {v : Value} {ops : List OpV} {lf : Nat → Loc} (h : OpsIn W v ops m lf) :
    ∃ l : Loc, (∀ ρ : Nat → Loc, (∀ j, ρ (1000 + 4 * j + A) = lf j) → ObjOK ρ W l ⟨false, .sv (orow A 0 ops)⟩) ∧ (∀ k, l.blk = some k → k < W.heap.size) ∧ slrel l 0 m 5 v ∧ l.sh = none := by
  obtain ⟨hm, _, _, vs, hvl, hv, hcase⟩ := h
  rcases hcase with ⟨rfl, rfl, rfl⟩ | ⟨a, c, T, fr, rfl, hs, hb, hcell⟩
  · exact ⟨⟨none, 0, 0, false, none⟩, fun ρ _ => ⟨rfl, exOK_ro rfl⟩, fun k hk => (by cases hk), ⟨rfl, .inl rfl⟩, rfl⟩
  · obtain ⟨l, g1, g2, g3, g4⟩ := row_loc (vs := vs) (z := 5) (by decide) hs hb hm (by omega) hcell
    refine ⟨l, fun ρ hρ => g1 ρ _ (by simp) ?_, g2, g3, g4⟩
    refine All2.of_get (by simp only [Body.cells]; rw [orow_len, hvl]) fun i x hx => ?_
    simp only [Body.cells] at hx
    have hi : i < ops.length * 5 := by rw [← orow_len (A := A) (l := ops) (j := 0)]; exact (List.getElem?_eq_some_iff.1 hx).1
    have hj : i / 5 < ops.length := by omega
    obtain ⟨kv, h1, h2⟩ := hv (i / 5) hj
    have h3 := orow_at (A := A) (o0 := ⟨0, .empty, .empty, 0, [], 0⟩) (l := ops) (j0 := 0) hj
    have e1 : (orow A 0 ops)[i]? = (ocell (1000 + 4 * (0 + i / 5) + A) (ops.getD (i / 5) ⟨0, .empty, .empty, 0, [], 0⟩))[i % 5]? := by
      rw [← h3, List.getElem?_take, if_pos (Nat.mod_lt _ (by decide)), List.getElem?_drop]; congr 1; omega
    have e2 : vs[i]? = [Value.int .u8 (ops.getD (i / 5) ⟨0, .empty, .empty, 0, [], 0⟩).u, .string (ops.getD (i / 5) ⟨0, .empty, .empty, 0, [], 0⟩).nm, .string (ops.getD (i / 5) ⟨0, .empty, .empty, 0, [], 0⟩).s, .int .i64 (ops.getD (i / 5) ⟨0, .empty, .empty, 0, [], 0⟩).k, kv][i % 5]? := by
      rw [← h1, List.getElem?_take, if_pos (Nat.mod_lt _ (by decide)), List.getElem?_drop]; congr 1; omega
    rw [e1] at hx
    rw [e2]
    have hid : ρ (1000 + 4 * (0 + i / 5) + A) = lf (i / 5) := by rw [Nat.zero_add]; exact hρ _
    generalize ops.getD (i / 5) ⟨0, .empty, .empty, 0, [], 0⟩ = o at hx h2 ⊢
    have h4 : i % 5 = 0 ∨ i % 5 = 1 ∨ i % 5 = 2 ∨ i % 5 = 3 ∨ i % 5 = 4 := by omega
    rcases h4 with h4 | h4 | h4 | h4 | h4 <;> rw [h4] at hx ⊢ <;> simp only [ocell, List.getElem?_cons_zero, List.getElem?_cons_succ, Option.some.injEq] at hx ⊢ <;> subst hx
    · exact ⟨_, rfl, rfl⟩
    · exact ⟨_, rfl, rfl⟩
    · exact ⟨_, rfl, rfl⟩
    · exact ⟨_, rfl, rfl⟩
    · refine ⟨_, rfl, ?_⟩
      show slrel (ρ (1000 + 4 * (0 + i / 5) + A)) 0 o.m 1 kv
      rw [hid]; exact h2.sl
end Go.Sx
