/- Delta: DeltaPieces. -/
import Derived.Test.YtmcilmfnnpfdjaaDelF

set_option linter.unusedVariables false
set_option linter.unusedSimpArgs false
set_option maxRecDepth 100000
namespace Go.Sx
attribute [local go_sem ↓] bind_mk intsB_mk strsB_mk svB_mk fnVC ob_some vc_skip vc_exit vc_ret vc_seq vc_block kSeq_normal kSeq_exit kSeq_ret kBlock_normal kBlock_exit kBlock_ret vc_reg vc_regD vc_cond condK_true condK_false vc_loop kLoop_exit kLoop_ret kRoll_normal kRoll_exit kRoll_ret vcOps_nil vcOps_cons gd_bool gd_undef put_some put_none vcT_fin vcT_pure vcT_act vcT_acts vcT_stop stab_none stab_some stabM_nil stabM_cons stabO_ld stabO_ldn stabO_slP stabO_b2s fldOf_ai fldOf_agg fldOf_ait fldOf_aggt intsOf_nil intsOf_cons strsOf_nil strsOf_cons c_omap ob_if lk_nil lk_cons ev_t ev_k z_mov z_pick z_bin z_binB z_binP z_un z_r2s z_conv z_s2b z_b2s z_mkM z_luM z_upM plV_v plV_agg mpOf_mp mpOf_nil mpUp_mp asM_mp luV_ok luV_v z_allocT aggOf_mk z_boxT z_alloc z_bld z_bldI z_rowI z_rowS z_ld z_ldn z_st z_stn asN_ptr asN_fn z_nilck z_fld z_fadr z_idxA z_idxP z_idxS z_idxV z_slS z_slL z_slP z_mk z_lenS z_lenL z_app appC_ints appC_pl appC_sv appC_strs isS_strs loose_ints loose_pl loose_sv z_slM z_callv callvK_fn callvK_f callvK_yl vc_rangeF rfEnd_eq rfGo_none rfGo_ret rfGo_exit yGo_mk yEnd_n yEnd_r yEnd_e yRdy_mk yMid_n putPs_nil putPs_cons leaf_v leaf_ptr leaf_sl leaf_yl leaf_mp z_appS z_appST z_appZ z_cpyS z_mkfn reps_int reps_str z_rowV z_slnil nilK_zero z_cpy z_call asT_tup z_extT z_box boxOf_ai boxOf_agg boxOf_int boxOf_str boxOf_bool boxOf_ptr boxOf_sl sbin_int sbin_str sbinB_mk sbinP_nn sbinP_pn sbinP_np i_add i_sub i_mul i_quo i_rem i_and i_or i_xor i_andNot i_shl i_shr i_eql i_neq i_lss i_leq i_gtr i_geq st_add st_eql st_neq st_lss st_leq st_gtr st_geq bo_eql bo_neq pt_eql pt_neq un_neg un_xor un_not asI_mk asB_mk asS_mk asP_mk asSl_mk asBy_mk bnd_none bnd_some get_mk hput_mk hdel_mk kill_eq wrOf_eq rowOf_eq rsvs_0 rsvs_1 rsvs_2 rsvs_3 rsv_t rsv_c1 rsv_cn nt_v nt_ptr nt_sl nt_agg nt_ai get_ints get_strs get_pl get_sv getN_ints getN_sv set_ints set_strs set_sv setN_ints setN_sv part_ints part_strs part_sv cat_ints cat_strs cat_sv over_ints over_strs over_sv ones_ints ones_strs evs_nil evs_cons condK_eqt condK_eqf det_callP V_ns V_nn V_gs V_gn obC_mk fresh_ev freshT_ev freshR_ev setN_plagg setN_intsv setN_svai setN_svagg over_intsv set_pl setN_pl setN_plai getN_pl getN_strs part_pl cat_pl over_pl over_plints z_mm
attribute [local go_sem] initTm ne_eq not_true_eq_false not_false_eq_true true_and and_true List.length_cons List.length_nil Int.toNat_natCast Nat.add_zero Nat.zero_add Nat.mul_one List.getElem?_cons_zero List.drop_zero List.take_length List.take_succ_cons List.take_zero List.take_nil List.drop_succ_cons Option.map_some Nat.le_refl implies_true List.getElem?_cons_succ decide_true decide_false Bool.not_true Bool.not_false beq_self_eq_true Nat.succ_ne_self Nat.one_ne_zero Nat.zero_ne_one vk_mk hk_mk nk_mk tok_eq plsOf_map intsOf_map bodyOf_pl bodyOf_ints bodyOf_strs bodyOf_sv part_aggv part_agg part_ai part_int part_str part_bool part_sl part_ptr part_nil numsOf_map u_int u_str u_bool u_pnil u_sl u_ptr u_oci u_ocs evq_nil evq_cons fillS_nil fillS_cons u_ocb ones_pl cells_sv cells_ints cells_strs cells_pl smms_nil smms_cons smm_min smm_max plsOf_nil List.nil_append List.all_cons List.all_nil Bool.and_self Bool.true_and Bool.and_true zws_len zw_len zi_len List.set_cons_zero List.set_cons_succ List.flatMap_cons List.flatMap_nil List.append_nil
attribute [local go_sem_proc] Nat.reduceEqDiff Nat.reduceAdd Nat.reduceMul Nat.reduceLT Nat.reduceLeDiff Nat.reduceSub Int.reduceToNat Int.reduceLE Int.reduceLT reduceCtorEq Int.reduceEq Int.reduceGT Int.reduceGE Int.reduceNeg
attribute [local go_sem_proc ↓] reduceIte
section
open Go.Proofs
variable {p q : Pt} {H : Hp} {n : Nat} {x : Nat → Option SO}
def pcT (old patch : ByteArray) (m i a : Nat) : List (Nat × SV) := [(0, .v (.string old)), (1, .v (.string patch)), (2, .sl 1 0 m 1), (7, .ptr 2 0), (8, .v (.int .i64 a)), (9, .v (.int .i64 i))]
def pcF (old patch : ByteArray) (cs : List Int) (m : Nat) (x : Nat → Option SO) (t : Nat × Nat × Pt) : St :=
  if t.2.2.made.size = 0 then ⟨pcT old patch m t.1 t.2.1, ⟨[(1, some ⟨false, .ints .u16 cs⟩), (2, some (patE t.2.2)), (3, some ⟨false, ghP 2⟩)], x⟩, 4⟩
  else ⟨pcT old patch m t.1 t.2.1, ⟨[(1, some ⟨false, .ints .u16 cs⟩), (2, some (patN t.2.2 2 4)), (3, some ⟨false, ghP 2⟩), (4, some ⟨true, .ints .u8 (bts t.2.2.made)⟩), (5, some ⟨false, .mp (.shp 4 5 none)⟩)], x⟩, 6⟩
theorem pcF_E {old patch : ByteArray} {cs : List Int} {m : Nat} {t : Nat × Nat × Pt} (h : t.2.2.made.size = 0) : pcF old patch cs m x t = ⟨pcT old patch m t.1 t.2.1, ⟨[(1, some ⟨false, .ints .u16 cs⟩), (2, some (patE t.2.2)), (3, some ⟨false, ghP 2⟩)], x⟩, 4⟩ := if_pos h
theorem pcF_N {old patch : ByteArray} {cs : List Int} {m : Nat} {t : Nat × Nat × Pt} (h : ¬t.2.2.made.size = 0) : pcF old patch cs m x t = ⟨pcT old patch m t.1 t.2.1, ⟨[(1, some ⟨false, .ints .u16 cs⟩), (2, some (patN t.2.2 2 4)), (3, some ⟨false, ghP 2⟩), (4, some ⟨true, .ints .u8 (bts t.2.2.made)⟩), (5, some ⟨false, .mp (.shp 4 5 none)⟩)], x⟩, 6⟩ := if_neg h
set_option maxHeartbeats 2000000 in
theorem piecesW {old patch : ByteArray} {cs : List Int} {m : Nat} (hs : patch.size ≤ 1048576) (hm : m ≤ cs.length) (hm2 : m ≤ 1048576) (hcs : ∀ c ∈ cs, 0 ≤ c ∧ c ≤ 65535) :
    fnVC CT mDeltaPieces [.v (.string old), .v (.string patch), .sl 1 0 m 1] ⟨[(1, some ⟨false, .ints .u16 cs⟩)], x⟩ 2 fun v H' n' => Sub 2 ⟨[(0, .v (.bool true))], ⟨[], x⟩, 2⟩ ⟨[(0, v)], H', n'⟩ := by
  unfold mDeltaPieces
  simp -implicitDefEqProofs only [↓fnVC, initTm]
  simp -implicitDefEqProofs only [go_sem]
  refine at_call tturns turnsS ?_
  simp -implicitDefEqProofs only [go_sem]
  refine at_call tDNew (newS (by decide)) ?_
  simp -implicitDefEqProofs only [go_sem]
  refine loop_fam (fun (t : Nat × Nat × Pt) => Ps old (patch.extract 0 t.2.1) t.2.2 ∧ t.2.1 ≤ patch.size ∧ t.1 ≤ 61 ∧ (t.1 = 61 → t.2.1 = patch.size))
    (pcF old patch cs m x) (fun t => (patch.size - t.2.1) + (61 - t.1)) (0, 0, nwP old) ⟨?_, Nat.zero_le _, Nat.zero_le _, fun h => by cases h⟩ ?_ ?_
  · show Ps old (patch.extract 0 0) (nwP old)
    rw [ba_zero (a := patch.extract 0 0) (by rw [ex_size]; omega)]
    exact ps_nil old
  · rw [pcF_E (by rfl)]
    unfold pcT patE ghP
    refine sub_mk [] rfl rfl rfl ?_
    simp only [tmSub, hpSub, objSub, eqTm, eqHp, rn, lk, SV.ren, SV.renC, SV.renB, SV.renA, ren_ints, ren_strs, ren_pl, ren_svs, SV.v.injEq, Value.int.injEq, Body.ints.injEq, SV.ptr.injEq, SV.sl.injEq, Value.string.injEq, Value.bool.injEq, List.map_cons, List.map_nil, forall_const, Nat.reduceLT, Nat.lt_add_one, imp_self, true_and, and_true, and_self, ob_some, get_mk, lk_cons, ↓reduceIte, Nat.reduceEqDiff, ne_eq, not_true_eq_false, not_false_eq_true, Nat.one_ne_zero, Nat.zero_ne_one, Nat.succ_ne_self, Nat.reduceAdd, Bool.false_eq_true, false_implies, implies_true, reduceCtorEq]
    repeat' (first | rfl | apply And.intro)
  · rintro ⟨i, a, p⟩ ⟨hps, ha, hi, hi2⟩
    have ha : a ≤ patch.size := ha
    have hps : Ps old (patch.extract 0 a) p := hps
    have hi : i ≤ 61 := hi
    have hi2 : i = 61 → a = patch.size := hi2
    by_cases hz : p.made.size = 0
    · rw [pcF_E (by exact hz)]
      unfold pcT
      simp -implicitDefEqProofs only [go_sem]
      by_cases c0 : a < patch.size
      · have b0 : decide ((a : Int) < patch.size) = true := decide_eq_true (by omega)
        have w1 : IntKind.i64.wrap ((patch.size : Int) - (a : Int)) = ((patch.size - a : Nat) : Int) := by rw [wrap_i64 (by omega) (by omega)]; omega
        simp -implicitDefEqProofs only [go_sem, b0, w1]
        have key : (∃ k : Nat, k ≤ patch.size - a ∧ (k = patch.size - a ∨ i < 60)) := ⟨_, Nat.le_refl _, .inl rfl⟩
        clear key
        by_cases d1 : i < m
        · have b1 : decide ((i : Int) < m) = true := decide_eq_true (by omega)
          by_cases d2 : i < 60
          · have b2 : decide ((i : Int) < 60) = true := decide_eq_true (by omega)
            obtain ⟨c, hc, hc2⟩ : ∃ c : Nat, cs.getD i 0 = (c : Int) ∧ c ≤ 65535 := by
              have hmem : cs.getD i 0 ∈ cs := by rw [List.getD_eq_getElem?_getD, List.getElem?_eq_getElem (by omega)]; exact List.getElem_mem _
              have := hcs _ hmem
              exact ⟨(cs.getD i 0).toNat, by omega, by omega⟩
            have t1 : ((c : Int)).tmod 100 = ((c % 100 : Nat) : Int) := by rw [Int.tmod_eq_emod_of_nonneg (by omega)]; omega
            have t2 : IntKind.i64.wrap ((c % 100 : Nat) : Int) = ((c % 100 : Nat) : Int) := wrap_i64 (by omega) (by omega)
            have t3 : min ((patch.size - a : Nat) : Int) ((c % 100 : Nat) : Int) = ((min (patch.size - a) (c % 100) : Nat) : Int) := by omega
            have hk : min (patch.size - a) (c % 100) ≤ patch.size - a := Nat.min_le_left _ _
            have hk2 : min (patch.size - a) (c % 100) = patch.size - a ∨ i < 60 := .inr d2
            generalize min (patch.size - a) (c % 100) = k at t3 hk hk2
            have wk : IntKind.i64.wrap ((a : Int) + (k : Int)) = ((a + k : Nat) : Int) := by rw [wrap_i64 (by omega) (by omega)]; omega
            simp -implicitDefEqProofs only [go_sem, b1, b2, hc, t1, t2, t3, wk]
            refine ⟨⟨by omega, by omega⟩, by omega, ⟨by omega, by omega, by omega⟩, ?_⟩
            have hT : patch.extract 0 a ++ patch.extract a (a + k) = patch.extract 0 (a + k) := ex_cat (by omega) (by omega)
            have hcz : (patch.extract a (a + k)).size ≤ 1073000000 := by rw [ex_size]; omega
            obtain ⟨hst, hse⟩ := ps_step (c := patch.extract a (a + k)) hps (by rw [ex_size, ex_size]; omega)
            rw [hT] at hst hse
            have hgo := hst.good.ok.om
            have hw := wr_good (s := patch.extract a (a + k)) hps.good hcz
            have w9 : IntKind.i64.wrap ((i : Int) + 1) = ((i + 1 : Nat) : Int) := by rw [wrap_i64 (by omega) (by omega)]; omega
            obtain ⟨q, hq⟩ : ∃ q, goQ old (patch.extract 0 (a + k)) = q := ⟨_, rfl⟩
            have hz0 := hst.z
            rw [hq] at hz0

            by_cases hz2 : (wrP p (patch.extract a (a + k))).2.made.size = 0
            · refine at_call tDWrite (wEE (i := 2) (g := 3) ⟨by rfl, ⟨_, by rfl⟩, by decide⟩ hps.good hcz hz hz2) ?_
              generalize (wrP p (patch.extract a (a + k))).2 = p2 at hst hz2 hz0 hgo hw ⊢
              rw [hse, hq]
              simp -implicitDefEqProofs only [go_sem, wk]
              refine ⟨by omega, ?_⟩
              refine at_call trGo (goS (by rw [ex_size]; omega)) ?_
              rw [hq]
              unfold gV
              simp -implicitDefEqProofs only [go_sem, spl5]
              have s0 : decide (q.e = q.e) = true := decide_eq_true rfl
              have s1 : decide ((p2.made.size : Int) > 8192) = false := decide_eq_false (by omega)
              by_cases e0 : q.e = 0
              · have p2q := hz0 e0
                have b4 : decide (q.e = 0) = true := decide_eq_true e0
                have b5 : decide ((p2.made.size : Int) = q.made.size) = true := decide_eq_true (by rw [p2q])
                simp -implicitDefEqProofs only [go_sem, s0]
                refine at_call tDMade (madeES hz2 (by rfl)) ?_
                simp -implicitDefEqProofs only [go_sem, s1, spl5, b4]
                refine at_call tDMade (madeES hz2 (by rfl)) ?_
                simp -implicitDefEqProofs only [go_sem, s1, spl5, b4, b5, w9]
                refine kLoop_mk (i + 1, a + k, p2) ⟨hst, by show a + k ≤ _; omega, by show i + 1 ≤ 61; omega, fun h => by have h : i + 1 = 61 := h; show a + k = _; omega⟩ (by show (patch.size - (a + k)) + (61 - (i + 1)) < (patch.size - a) + (61 - i); omega) ?_
                rw [pcF_E (by exact hz2)]
                unfold pcT
                refine sub_mk [] rfl rfl rfl ?_
                simp only [tmSub, hpSub, objSub, eqTm, eqHp, rn, lk, SV.ren, SV.renC, SV.renB, SV.renA, ren_ints, ren_strs, ren_pl, ren_svs, SV.v.injEq, Value.int.injEq, Body.ints.injEq, SV.ptr.injEq, SV.sl.injEq, Value.string.injEq, Value.bool.injEq, List.map_cons, List.map_nil, forall_const, Nat.reduceLT, Nat.lt_add_one, imp_self, true_and, and_true, and_self, ob_some, get_mk, lk_cons, ↓reduceIte, Nat.reduceEqDiff, ne_eq, not_true_eq_false, not_false_eq_true, Nat.one_ne_zero, Nat.zero_ne_one, Nat.succ_ne_self, Nat.reduceAdd, Bool.false_eq_true, false_implies, implies_true, reduceCtorEq, patN]
                repeat' (first | rfl | apply And.intro)
              · have b4 : decide (q.e = 0) = false := decide_eq_false e0
                simp -implicitDefEqProofs only [go_sem, s0]
                refine at_call tDMade (madeES hz2 (by rfl)) ?_
                simp -implicitDefEqProofs only [go_sem, s1, spl5, b4, w9]
                refine kLoop_mk (i + 1, a + k, p2) ⟨hst, by show a + k ≤ _; omega, by show i + 1 ≤ 61; omega, fun h => by have h : i + 1 = 61 := h; show a + k = _; omega⟩ (by show (patch.size - (a + k)) + (61 - (i + 1)) < (patch.size - a) + (61 - i); omega) ?_
                rw [pcF_E (by exact hz2)]
                unfold pcT
                refine sub_mk [] rfl rfl rfl ?_
                simp only [tmSub, hpSub, objSub, eqTm, eqHp, rn, lk, SV.ren, SV.renC, SV.renB, SV.renA, ren_ints, ren_strs, ren_pl, ren_svs, SV.v.injEq, Value.int.injEq, Body.ints.injEq, SV.ptr.injEq, SV.sl.injEq, Value.string.injEq, Value.bool.injEq, List.map_cons, List.map_nil, forall_const, Nat.reduceLT, Nat.lt_add_one, imp_self, true_and, and_true, and_self, ob_some, get_mk, lk_cons, ↓reduceIte, Nat.reduceEqDiff, ne_eq, not_true_eq_false, not_false_eq_true, Nat.one_ne_zero, Nat.zero_ne_one, Nat.succ_ne_self, Nat.reduceAdd, Bool.false_eq_true, false_implies, implies_true, reduceCtorEq, patN]
                repeat' (first | rfl | apply And.intro)
            · refine at_call tDWrite (wEN (i := 2) (g := 3) ⟨by rfl, ⟨_, by rfl⟩, by decide⟩ hps.good hcz hz hz2 (by decide)) ?_
              generalize (wrP p (patch.extract a (a + k))).2 = p2 at hst hz2 hz0 hgo hw ⊢
              rw [hse, hq]
              simp -implicitDefEqProofs only [go_sem, wk]
              refine ⟨by omega, ?_⟩
              refine at_call trGo (goS (by rw [ex_size]; omega)) ?_
              rw [hq]
              unfold gV
              simp -implicitDefEqProofs only [go_sem, spl5]
              have s0 : decide (q.e = q.e) = true := decide_eq_true rfl
              have s1 : decide ((p2.made.size : Int) > 8192) = false := decide_eq_false (by omega)
              by_cases e0 : q.e = 0
              · have p2q := hz0 e0
                have b4 : decide (q.e = 0) = true := decide_eq_true e0
                have b5 : decide ((p2.made.size : Int) = q.made.size) = true := decide_eq_true (by rw [p2q])
                simp -implicitDefEqProofs only [go_sem, s0]
                refine at_call tDMade (madeNS (r := 4) (by rfl)) ?_
                simp -implicitDefEqProofs only [go_sem, s1, spl5, b4]
                refine at_call tDMade (madeNS (r := 4) (by rfl)) ?_
                simp -implicitDefEqProofs only [go_sem, s1, spl5, b4, b5, w9]
                refine kLoop_mk (i + 1, a + k, p2) ⟨hst, by show a + k ≤ _; omega, by show i + 1 ≤ 61; omega, fun h => by have h : i + 1 = 61 := h; show a + k = _; omega⟩ (by show (patch.size - (a + k)) + (61 - (i + 1)) < (patch.size - a) + (61 - i); omega) ?_
                rw [pcF_N (by exact hz2)]
                unfold pcT
                refine sub_mk [] rfl rfl rfl ?_
                simp only [tmSub, hpSub, objSub, eqTm, eqHp, rn, lk, SV.ren, SV.renC, SV.renB, SV.renA, ren_ints, ren_strs, ren_pl, ren_svs, SV.v.injEq, Value.int.injEq, Body.ints.injEq, SV.ptr.injEq, SV.sl.injEq, Value.string.injEq, Value.bool.injEq, List.map_cons, List.map_nil, forall_const, Nat.reduceLT, Nat.lt_add_one, imp_self, true_and, and_true, and_self, ob_some, get_mk, lk_cons, ↓reduceIte, Nat.reduceEqDiff, ne_eq, not_true_eq_false, not_false_eq_true, Nat.one_ne_zero, Nat.zero_ne_one, Nat.succ_ne_self, Nat.reduceAdd, Bool.false_eq_true, false_implies, implies_true, reduceCtorEq, patN]
                repeat' (first | rfl | apply And.intro)
              · have b4 : decide (q.e = 0) = false := decide_eq_false e0
                simp -implicitDefEqProofs only [go_sem, s0]
                refine at_call tDMade (madeNS (r := 4) (by rfl)) ?_
                simp -implicitDefEqProofs only [go_sem, s1, spl5, b4, w9]
                refine kLoop_mk (i + 1, a + k, p2) ⟨hst, by show a + k ≤ _; omega, by show i + 1 ≤ 61; omega, fun h => by have h : i + 1 = 61 := h; show a + k = _; omega⟩ (by show (patch.size - (a + k)) + (61 - (i + 1)) < (patch.size - a) + (61 - i); omega) ?_
                rw [pcF_N (by exact hz2)]
                unfold pcT
                refine sub_mk [] rfl rfl rfl ?_
                simp only [tmSub, hpSub, objSub, eqTm, eqHp, rn, lk, SV.ren, SV.renC, SV.renB, SV.renA, ren_ints, ren_strs, ren_pl, ren_svs, SV.v.injEq, Value.int.injEq, Body.ints.injEq, SV.ptr.injEq, SV.sl.injEq, Value.string.injEq, Value.bool.injEq, List.map_cons, List.map_nil, forall_const, Nat.reduceLT, Nat.lt_add_one, imp_self, true_and, and_true, and_self, ob_some, get_mk, lk_cons, ↓reduceIte, Nat.reduceEqDiff, ne_eq, not_true_eq_false, not_false_eq_true, Nat.one_ne_zero, Nat.zero_ne_one, Nat.succ_ne_self, Nat.reduceAdd, Bool.false_eq_true, false_implies, implies_true, reduceCtorEq, patN]
                repeat' (first | rfl | apply And.intro)
          · have b2 : decide ((i : Int) < 60) = false := decide_eq_false (by omega)
            obtain ⟨k, hkk⟩ : ∃ k : Nat, patch.size - a = k := ⟨_, rfl⟩
            have hk : k ≤ patch.size - a := by omega
            have hk2 : k = patch.size - a ∨ i < 60 := .inl hkk.symm
            have wk : IntKind.i64.wrap ((a : Int) + (k : Int)) = ((a + k : Nat) : Int) := by rw [wrap_i64 (by omega) (by omega)]; omega
            rw [hkk]
            simp -implicitDefEqProofs only [go_sem, b1, b2, wk]
            refine ⟨⟨by omega, by omega, by omega⟩, ?_⟩
            have hT : patch.extract 0 a ++ patch.extract a (a + k) = patch.extract 0 (a + k) := ex_cat (by omega) (by omega)
            have hcz : (patch.extract a (a + k)).size ≤ 1073000000 := by rw [ex_size]; omega
            obtain ⟨hst, hse⟩ := ps_step (c := patch.extract a (a + k)) hps (by rw [ex_size, ex_size]; omega)
            rw [hT] at hst hse
            have hgo := hst.good.ok.om
            have hw := wr_good (s := patch.extract a (a + k)) hps.good hcz
            have w9 : IntKind.i64.wrap ((i : Int) + 1) = ((i + 1 : Nat) : Int) := by rw [wrap_i64 (by omega) (by omega)]; omega
            obtain ⟨q, hq⟩ : ∃ q, goQ old (patch.extract 0 (a + k)) = q := ⟨_, rfl⟩
            have hz0 := hst.z
            rw [hq] at hz0

            by_cases hz2 : (wrP p (patch.extract a (a + k))).2.made.size = 0
            · refine at_call tDWrite (wEE (i := 2) (g := 3) ⟨by rfl, ⟨_, by rfl⟩, by decide⟩ hps.good hcz hz hz2) ?_
              generalize (wrP p (patch.extract a (a + k))).2 = p2 at hst hz2 hz0 hgo hw ⊢
              rw [hse, hq]
              simp -implicitDefEqProofs only [go_sem, wk]
              refine ⟨by omega, ?_⟩
              refine at_call trGo (goS (by rw [ex_size]; omega)) ?_
              rw [hq]
              unfold gV
              simp -implicitDefEqProofs only [go_sem, spl5]
              have s0 : decide (q.e = q.e) = true := decide_eq_true rfl
              have s1 : decide ((p2.made.size : Int) > 8192) = false := decide_eq_false (by omega)
              by_cases e0 : q.e = 0
              · have p2q := hz0 e0
                have b4 : decide (q.e = 0) = true := decide_eq_true e0
                have b5 : decide ((p2.made.size : Int) = q.made.size) = true := decide_eq_true (by rw [p2q])
                simp -implicitDefEqProofs only [go_sem, s0]
                refine at_call tDMade (madeES hz2 (by rfl)) ?_
                simp -implicitDefEqProofs only [go_sem, s1, spl5, b4]
                refine at_call tDMade (madeES hz2 (by rfl)) ?_
                simp -implicitDefEqProofs only [go_sem, s1, spl5, b4, b5, w9]
                refine kLoop_mk (i + 1, a + k, p2) ⟨hst, by show a + k ≤ _; omega, by show i + 1 ≤ 61; omega, fun h => by have h : i + 1 = 61 := h; show a + k = _; omega⟩ (by show (patch.size - (a + k)) + (61 - (i + 1)) < (patch.size - a) + (61 - i); omega) ?_
                rw [pcF_E (by exact hz2)]
                unfold pcT
                refine sub_mk [] rfl rfl rfl ?_
                simp only [tmSub, hpSub, objSub, eqTm, eqHp, rn, lk, SV.ren, SV.renC, SV.renB, SV.renA, ren_ints, ren_strs, ren_pl, ren_svs, SV.v.injEq, Value.int.injEq, Body.ints.injEq, SV.ptr.injEq, SV.sl.injEq, Value.string.injEq, Value.bool.injEq, List.map_cons, List.map_nil, forall_const, Nat.reduceLT, Nat.lt_add_one, imp_self, true_and, and_true, and_self, ob_some, get_mk, lk_cons, ↓reduceIte, Nat.reduceEqDiff, ne_eq, not_true_eq_false, not_false_eq_true, Nat.one_ne_zero, Nat.zero_ne_one, Nat.succ_ne_self, Nat.reduceAdd, Bool.false_eq_true, false_implies, implies_true, reduceCtorEq, patN]
                repeat' (first | rfl | apply And.intro)
              · have b4 : decide (q.e = 0) = false := decide_eq_false e0
                simp -implicitDefEqProofs only [go_sem, s0]
                refine at_call tDMade (madeES hz2 (by rfl)) ?_
                simp -implicitDefEqProofs only [go_sem, s1, spl5, b4, w9]
                refine kLoop_mk (i + 1, a + k, p2) ⟨hst, by show a + k ≤ _; omega, by show i + 1 ≤ 61; omega, fun h => by have h : i + 1 = 61 := h; show a + k = _; omega⟩ (by show (patch.size - (a + k)) + (61 - (i + 1)) < (patch.size - a) + (61 - i); omega) ?_
                rw [pcF_E (by exact hz2)]
                unfold pcT
                refine sub_mk [] rfl rfl rfl ?_
                simp only [tmSub, hpSub, objSub, eqTm, eqHp, rn, lk, SV.ren, SV.renC, SV.renB, SV.renA, ren_ints, ren_strs, ren_pl, ren_svs, SV.v.injEq, Value.int.injEq, Body.ints.injEq, SV.ptr.injEq, SV.sl.injEq, Value.string.injEq, Value.bool.injEq, List.map_cons, List.map_nil, forall_const, Nat.reduceLT, Nat.lt_add_one, imp_self, true_and, and_true, and_self, ob_some, get_mk, lk_cons, ↓reduceIte, Nat.reduceEqDiff, ne_eq, not_true_eq_false, not_false_eq_true, Nat.one_ne_zero, Nat.zero_ne_one, Nat.succ_ne_self, Nat.reduceAdd, Bool.false_eq_true, false_implies, implies_true, reduceCtorEq, patN]
                repeat' (first | rfl | apply And.intro)
            · refine at_call tDWrite (wEN (i := 2) (g := 3) ⟨by rfl, ⟨_, by rfl⟩, by decide⟩ hps.good hcz hz hz2 (by decide)) ?_
              generalize (wrP p (patch.extract a (a + k))).2 = p2 at hst hz2 hz0 hgo hw ⊢
              rw [hse, hq]
              simp -implicitDefEqProofs only [go_sem, wk]
              refine ⟨by omega, ?_⟩
              refine at_call trGo (goS (by rw [ex_size]; omega)) ?_
              rw [hq]
              unfold gV
              simp -implicitDefEqProofs only [go_sem, spl5]
              have s0 : decide (q.e = q.e) = true := decide_eq_true rfl
              have s1 : decide ((p2.made.size : Int) > 8192) = false := decide_eq_false (by omega)
              by_cases e0 : q.e = 0
              · have p2q := hz0 e0
                have b4 : decide (q.e = 0) = true := decide_eq_true e0
                have b5 : decide ((p2.made.size : Int) = q.made.size) = true := decide_eq_true (by rw [p2q])
                simp -implicitDefEqProofs only [go_sem, s0]
                refine at_call tDMade (madeNS (r := 4) (by rfl)) ?_
                simp -implicitDefEqProofs only [go_sem, s1, spl5, b4]
                refine at_call tDMade (madeNS (r := 4) (by rfl)) ?_
                simp -implicitDefEqProofs only [go_sem, s1, spl5, b4, b5, w9]
                refine kLoop_mk (i + 1, a + k, p2) ⟨hst, by show a + k ≤ _; omega, by show i + 1 ≤ 61; omega, fun h => by have h : i + 1 = 61 := h; show a + k = _; omega⟩ (by show (patch.size - (a + k)) + (61 - (i + 1)) < (patch.size - a) + (61 - i); omega) ?_
                rw [pcF_N (by exact hz2)]
                unfold pcT
                refine sub_mk [] rfl rfl rfl ?_
                simp only [tmSub, hpSub, objSub, eqTm, eqHp, rn, lk, SV.ren, SV.renC, SV.renB, SV.renA, ren_ints, ren_strs, ren_pl, ren_svs, SV.v.injEq, Value.int.injEq, Body.ints.injEq, SV.ptr.injEq, SV.sl.injEq, Value.string.injEq, Value.bool.injEq, List.map_cons, List.map_nil, forall_const, Nat.reduceLT, Nat.lt_add_one, imp_self, true_and, and_true, and_self, ob_some, get_mk, lk_cons, ↓reduceIte, Nat.reduceEqDiff, ne_eq, not_true_eq_false, not_false_eq_true, Nat.one_ne_zero, Nat.zero_ne_one, Nat.succ_ne_self, Nat.reduceAdd, Bool.false_eq_true, false_implies, implies_true, reduceCtorEq, patN]
                repeat' (first | rfl | apply And.intro)
              · have b4 : decide (q.e = 0) = false := decide_eq_false e0
                simp -implicitDefEqProofs only [go_sem, s0]
                refine at_call tDMade (madeNS (r := 4) (by rfl)) ?_
                simp -implicitDefEqProofs only [go_sem, s1, spl5, b4, w9]
                refine kLoop_mk (i + 1, a + k, p2) ⟨hst, by show a + k ≤ _; omega, by show i + 1 ≤ 61; omega, fun h => by have h : i + 1 = 61 := h; show a + k = _; omega⟩ (by show (patch.size - (a + k)) + (61 - (i + 1)) < (patch.size - a) + (61 - i); omega) ?_
                rw [pcF_N (by exact hz2)]
                unfold pcT
                refine sub_mk [] rfl rfl rfl ?_
                simp only [tmSub, hpSub, objSub, eqTm, eqHp, rn, lk, SV.ren, SV.renC, SV.renB, SV.renA, ren_ints, ren_strs, ren_pl, ren_svs, SV.v.injEq, Value.int.injEq, Body.ints.injEq, SV.ptr.injEq, SV.sl.injEq, Value.string.injEq, Value.bool.injEq, List.map_cons, List.map_nil, forall_const, Nat.reduceLT, Nat.lt_add_one, imp_self, true_and, and_true, and_self, ob_some, get_mk, lk_cons, ↓reduceIte, Nat.reduceEqDiff, ne_eq, not_true_eq_false, not_false_eq_true, Nat.one_ne_zero, Nat.zero_ne_one, Nat.succ_ne_self, Nat.reduceAdd, Bool.false_eq_true, false_implies, implies_true, reduceCtorEq, patN]
                repeat' (first | rfl | apply And.intro)
        · have b1 : decide ((i : Int) < m) = false := decide_eq_false (by omega)
          obtain ⟨k, hkk⟩ : ∃ k : Nat, patch.size - a = k := ⟨_, rfl⟩
          have hk : k ≤ patch.size - a := by omega
          have hk2 : k = patch.size - a ∨ i < 60 := .inl hkk.symm
          have wk : IntKind.i64.wrap ((a : Int) + (k : Int)) = ((a + k : Nat) : Int) := by rw [wrap_i64 (by omega) (by omega)]; omega
          rw [hkk]
          simp -implicitDefEqProofs only [go_sem, b1, wk]
          refine ⟨⟨by omega, by omega, by omega⟩, ?_⟩
          have hT : patch.extract 0 a ++ patch.extract a (a + k) = patch.extract 0 (a + k) := ex_cat (by omega) (by omega)
          have hcz : (patch.extract a (a + k)).size ≤ 1073000000 := by rw [ex_size]; omega
          obtain ⟨hst, hse⟩ := ps_step (c := patch.extract a (a + k)) hps (by rw [ex_size, ex_size]; omega)
          rw [hT] at hst hse
          have hgo := hst.good.ok.om
          have hw := wr_good (s := patch.extract a (a + k)) hps.good hcz
          have w9 : IntKind.i64.wrap ((i : Int) + 1) = ((i + 1 : Nat) : Int) := by rw [wrap_i64 (by omega) (by omega)]; omega
          obtain ⟨q, hq⟩ : ∃ q, goQ old (patch.extract 0 (a + k)) = q := ⟨_, rfl⟩
          have hz0 := hst.z
          rw [hq] at hz0

          by_cases hz2 : (wrP p (patch.extract a (a + k))).2.made.size = 0
          · refine at_call tDWrite (wEE (i := 2) (g := 3) ⟨by rfl, ⟨_, by rfl⟩, by decide⟩ hps.good hcz hz hz2) ?_
            generalize (wrP p (patch.extract a (a + k))).2 = p2 at hst hz2 hz0 hgo hw ⊢
            rw [hse, hq]
            simp -implicitDefEqProofs only [go_sem, wk]
            refine ⟨by omega, ?_⟩
            refine at_call trGo (goS (by rw [ex_size]; omega)) ?_
            rw [hq]
            unfold gV
            simp -implicitDefEqProofs only [go_sem, spl5]
            have s0 : decide (q.e = q.e) = true := decide_eq_true rfl
            have s1 : decide ((p2.made.size : Int) > 8192) = false := decide_eq_false (by omega)
            by_cases e0 : q.e = 0
            · have p2q := hz0 e0
              have b4 : decide (q.e = 0) = true := decide_eq_true e0
              have b5 : decide ((p2.made.size : Int) = q.made.size) = true := decide_eq_true (by rw [p2q])
              simp -implicitDefEqProofs only [go_sem, s0]
              refine at_call tDMade (madeES hz2 (by rfl)) ?_
              simp -implicitDefEqProofs only [go_sem, s1, spl5, b4]
              refine at_call tDMade (madeES hz2 (by rfl)) ?_
              simp -implicitDefEqProofs only [go_sem, s1, spl5, b4, b5, w9]
              refine kLoop_mk (i + 1, a + k, p2) ⟨hst, by show a + k ≤ _; omega, by show i + 1 ≤ 61; omega, fun h => by have h : i + 1 = 61 := h; show a + k = _; omega⟩ (by show (patch.size - (a + k)) + (61 - (i + 1)) < (patch.size - a) + (61 - i); omega) ?_
              rw [pcF_E (by exact hz2)]
              unfold pcT
              refine sub_mk [] rfl rfl rfl ?_
              simp only [tmSub, hpSub, objSub, eqTm, eqHp, rn, lk, SV.ren, SV.renC, SV.renB, SV.renA, ren_ints, ren_strs, ren_pl, ren_svs, SV.v.injEq, Value.int.injEq, Body.ints.injEq, SV.ptr.injEq, SV.sl.injEq, Value.string.injEq, Value.bool.injEq, List.map_cons, List.map_nil, forall_const, Nat.reduceLT, Nat.lt_add_one, imp_self, true_and, and_true, and_self, ob_some, get_mk, lk_cons, ↓reduceIte, Nat.reduceEqDiff, ne_eq, not_true_eq_false, not_false_eq_true, Nat.one_ne_zero, Nat.zero_ne_one, Nat.succ_ne_self, Nat.reduceAdd, Bool.false_eq_true, false_implies, implies_true, reduceCtorEq, patN]
              repeat' (first | rfl | apply And.intro)
            · have b4 : decide (q.e = 0) = false := decide_eq_false e0
              simp -implicitDefEqProofs only [go_sem, s0]
              refine at_call tDMade (madeES hz2 (by rfl)) ?_
              simp -implicitDefEqProofs only [go_sem, s1, spl5, b4, w9]
              refine kLoop_mk (i + 1, a + k, p2) ⟨hst, by show a + k ≤ _; omega, by show i + 1 ≤ 61; omega, fun h => by have h : i + 1 = 61 := h; show a + k = _; omega⟩ (by show (patch.size - (a + k)) + (61 - (i + 1)) < (patch.size - a) + (61 - i); omega) ?_
              rw [pcF_E (by exact hz2)]
              unfold pcT
              refine sub_mk [] rfl rfl rfl ?_
              simp only [tmSub, hpSub, objSub, eqTm, eqHp, rn, lk, SV.ren, SV.renC, SV.renB, SV.renA, ren_ints, ren_strs, ren_pl, ren_svs, SV.v.injEq, Value.int.injEq, Body.ints.injEq, SV.ptr.injEq, SV.sl.injEq, Value.string.injEq, Value.bool.injEq, List.map_cons, List.map_nil, forall_const, Nat.reduceLT, Nat.lt_add_one, imp_self, true_and, and_true, and_self, ob_some, get_mk, lk_cons, ↓reduceIte, Nat.reduceEqDiff, ne_eq, not_true_eq_false, not_false_eq_true, Nat.one_ne_zero, Nat.zero_ne_one, Nat.succ_ne_self, Nat.reduceAdd, Bool.false_eq_true, false_implies, implies_true, reduceCtorEq, patN]
              repeat' (first | rfl | apply And.intro)
          · refine at_call tDWrite (wEN (i := 2) (g := 3) ⟨by rfl, ⟨_, by rfl⟩, by decide⟩ hps.good hcz hz hz2 (by decide)) ?_
            generalize (wrP p (patch.extract a (a + k))).2 = p2 at hst hz2 hz0 hgo hw ⊢
            rw [hse, hq]
            simp -implicitDefEqProofs only [go_sem, wk]
            refine ⟨by omega, ?_⟩
            refine at_call trGo (goS (by rw [ex_size]; omega)) ?_
            rw [hq]
            unfold gV
            simp -implicitDefEqProofs only [go_sem, spl5]
            have s0 : decide (q.e = q.e) = true := decide_eq_true rfl
            have s1 : decide ((p2.made.size : Int) > 8192) = false := decide_eq_false (by omega)
            by_cases e0 : q.e = 0
            · have p2q := hz0 e0
              have b4 : decide (q.e = 0) = true := decide_eq_true e0
              have b5 : decide ((p2.made.size : Int) = q.made.size) = true := decide_eq_true (by rw [p2q])
              simp -implicitDefEqProofs only [go_sem, s0]
              refine at_call tDMade (madeNS (r := 4) (by rfl)) ?_
              simp -implicitDefEqProofs only [go_sem, s1, spl5, b4]
              refine at_call tDMade (madeNS (r := 4) (by rfl)) ?_
              simp -implicitDefEqProofs only [go_sem, s1, spl5, b4, b5, w9]
              refine kLoop_mk (i + 1, a + k, p2) ⟨hst, by show a + k ≤ _; omega, by show i + 1 ≤ 61; omega, fun h => by have h : i + 1 = 61 := h; show a + k = _; omega⟩ (by show (patch.size - (a + k)) + (61 - (i + 1)) < (patch.size - a) + (61 - i); omega) ?_
              rw [pcF_N (by exact hz2)]
              unfold pcT
              refine sub_mk [] rfl rfl rfl ?_
              simp only [tmSub, hpSub, objSub, eqTm, eqHp, rn, lk, SV.ren, SV.renC, SV.renB, SV.renA, ren_ints, ren_strs, ren_pl, ren_svs, SV.v.injEq, Value.int.injEq, Body.ints.injEq, SV.ptr.injEq, SV.sl.injEq, Value.string.injEq, Value.bool.injEq, List.map_cons, List.map_nil, forall_const, Nat.reduceLT, Nat.lt_add_one, imp_self, true_and, and_true, and_self, ob_some, get_mk, lk_cons, ↓reduceIte, Nat.reduceEqDiff, ne_eq, not_true_eq_false, not_false_eq_true, Nat.one_ne_zero, Nat.zero_ne_one, Nat.succ_ne_self, Nat.reduceAdd, Bool.false_eq_true, false_implies, implies_true, reduceCtorEq, patN]
              repeat' (first | rfl | apply And.intro)
            · have b4 : decide (q.e = 0) = false := decide_eq_false e0
              simp -implicitDefEqProofs only [go_sem, s0]
              refine at_call tDMade (madeNS (r := 4) (by rfl)) ?_
              simp -implicitDefEqProofs only [go_sem, s1, spl5, b4, w9]
              refine kLoop_mk (i + 1, a + k, p2) ⟨hst, by show a + k ≤ _; omega, by show i + 1 ≤ 61; omega, fun h => by have h : i + 1 = 61 := h; show a + k = _; omega⟩ (by show (patch.size - (a + k)) + (61 - (i + 1)) < (patch.size - a) + (61 - i); omega) ?_
              rw [pcF_N (by exact hz2)]
              unfold pcT
              refine sub_mk [] rfl rfl rfl ?_
              simp only [tmSub, hpSub, objSub, eqTm, eqHp, rn, lk, SV.ren, SV.renC, SV.renB, SV.renA, ren_ints, ren_strs, ren_pl, ren_svs, SV.v.injEq, Value.int.injEq, Body.ints.injEq, SV.ptr.injEq, SV.sl.injEq, Value.string.injEq, Value.bool.injEq, List.map_cons, List.map_nil, forall_const, Nat.reduceLT, Nat.lt_add_one, imp_self, true_and, and_true, and_self, ob_some, get_mk, lk_cons, ↓reduceIte, Nat.reduceEqDiff, ne_eq, not_true_eq_false, not_false_eq_true, Nat.one_ne_zero, Nat.zero_ne_one, Nat.succ_ne_self, Nat.reduceAdd, Bool.false_eq_true, false_implies, implies_true, reduceCtorEq, patN]
              repeat' (first | rfl | apply And.intro)
      have b0 : decide ((a : Int) < patch.size) = false := decide_eq_false (by omega)
      have hap : a = patch.size := by omega
      subst hap
      rw [ext_all] at hps
      simp -implicitDefEqProofs only [go_sem, b0]
      have hco := cl_ok hps.good.ok
      have hcl := ps_close hps
      refine at_call tDClose (cEE (i := 2) (g := 3) ⟨by rfl, ⟨_, by rfl⟩, by decide⟩ hps.good.ok hz) ?_
      unfold clV
      simp -implicitDefEqProofs only [go_sem]
      refine at_call trDApply (rapplyS (by omega)) ?_
      rw [show apV old patch = clV (goQ old patch) from rfl]
      unfold clV
      rw [← hcl]
      have s1 : seq (clP p).1.1 (clP p).1.1 = true := seq_self _
      have s2 : decide ((clP p).1.2 = (clP p).1.2) = true := decide_eq_true rfl
      simp -implicitDefEqProofs only [go_sem, s1, s2]
      refine at_call tDClose (cEE (i := 2) (g := 3) ⟨by rfl, ⟨_, by rfl⟩, by decide⟩ hco.ok (by rw [hco.made]; exact hz)) ?_
      unfold clV
      rw [hco.again]
      simp -implicitDefEqProofs only [go_sem]
      refine at_call tDWrite (wClS (u := true) (b := .v (.pointer none)) (s := .sl 0 0 0 1) (p := (clP p).2) (by rfl) hco.cl) ?_
      rw [hco.e]
      by_cases e0 : (clP p).1.2 = 0
      · have b0 : decide ((clP p).1.2 = 0) = true := decide_eq_true e0
        rw [if_pos e0]
        simp -implicitDefEqProofs only [go_sem, s1, s2, b0]
        refine sub_mk [] rfl rfl rfl ?_
        simp only [tmSub, hpSub, objSub, eqTm, eqHp, rn, lk, SV.ren, SV.renC, SV.renB, SV.renA, ren_ints, ren_strs, ren_pl, ren_svs, SV.v.injEq, Value.int.injEq, Body.ints.injEq, SV.ptr.injEq, SV.sl.injEq, Value.string.injEq, Value.bool.injEq, List.map_cons, List.map_nil, forall_const, Nat.reduceLT, Nat.lt_add_one, imp_self, true_and, and_true, and_self, ob_some, get_mk, lk_cons, ↓reduceIte, Nat.reduceEqDiff, ne_eq, not_true_eq_false, not_false_eq_true, Nat.one_ne_zero, Nat.zero_ne_one, Nat.succ_ne_self, Nat.reduceAdd, Bool.false_eq_true, false_implies, implies_true, reduceCtorEq]
        try trivial
      · have b0 : decide ((clP p).1.2 = 0) = false := decide_eq_false e0
        rw [if_neg e0]
        simp -implicitDefEqProofs only [go_sem, s1, s2, b0]
        refine sub_mk [] rfl rfl rfl ?_
        simp only [tmSub, hpSub, objSub, eqTm, eqHp, rn, lk, SV.ren, SV.renC, SV.renB, SV.renA, ren_ints, ren_strs, ren_pl, ren_svs, SV.v.injEq, Value.int.injEq, Body.ints.injEq, SV.ptr.injEq, SV.sl.injEq, Value.string.injEq, Value.bool.injEq, List.map_cons, List.map_nil, forall_const, Nat.reduceLT, Nat.lt_add_one, imp_self, true_and, and_true, and_self, ob_some, get_mk, lk_cons, ↓reduceIte, Nat.reduceEqDiff, ne_eq, not_true_eq_false, not_false_eq_true, Nat.one_ne_zero, Nat.zero_ne_one, Nat.succ_ne_self, Nat.reduceAdd, Bool.false_eq_true, false_implies, implies_true, reduceCtorEq]
        try trivial
    rw [pcF_N (by exact hz)]
    unfold pcT
    simp -implicitDefEqProofs only [go_sem]
    by_cases c0 : a < patch.size
    · have b0 : decide ((a : Int) < patch.size) = true := decide_eq_true (by omega)
      have w1 : IntKind.i64.wrap ((patch.size : Int) - (a : Int)) = ((patch.size - a : Nat) : Int) := by rw [wrap_i64 (by omega) (by omega)]; omega
      simp -implicitDefEqProofs only [go_sem, b0, w1]
      have key : (∃ k : Nat, k ≤ patch.size - a ∧ (k = patch.size - a ∨ i < 60)) := ⟨_, Nat.le_refl _, .inl rfl⟩
      clear key
      by_cases d1 : i < m
      · have b1 : decide ((i : Int) < m) = true := decide_eq_true (by omega)
        by_cases d2 : i < 60
        · have b2 : decide ((i : Int) < 60) = true := decide_eq_true (by omega)
          obtain ⟨c, hc, hc2⟩ : ∃ c : Nat, cs.getD i 0 = (c : Int) ∧ c ≤ 65535 := by
            have hmem : cs.getD i 0 ∈ cs := by rw [List.getD_eq_getElem?_getD, List.getElem?_eq_getElem (by omega)]; exact List.getElem_mem _
            have := hcs _ hmem
            exact ⟨(cs.getD i 0).toNat, by omega, by omega⟩
          have t1 : ((c : Int)).tmod 100 = ((c % 100 : Nat) : Int) := by rw [Int.tmod_eq_emod_of_nonneg (by omega)]; omega
          have t2 : IntKind.i64.wrap ((c % 100 : Nat) : Int) = ((c % 100 : Nat) : Int) := wrap_i64 (by omega) (by omega)
          have t3 : min ((patch.size - a : Nat) : Int) ((c % 100 : Nat) : Int) = ((min (patch.size - a) (c % 100) : Nat) : Int) := by omega
          have hk : min (patch.size - a) (c % 100) ≤ patch.size - a := Nat.min_le_left _ _
          have hk2 : min (patch.size - a) (c % 100) = patch.size - a ∨ i < 60 := .inr d2
          generalize min (patch.size - a) (c % 100) = k at t3 hk hk2
          have wk : IntKind.i64.wrap ((a : Int) + (k : Int)) = ((a + k : Nat) : Int) := by rw [wrap_i64 (by omega) (by omega)]; omega
          simp -implicitDefEqProofs only [go_sem, b1, b2, hc, t1, t2, t3, wk]
          refine ⟨⟨by omega, by omega⟩, by omega, ⟨by omega, by omega, by omega⟩, ?_⟩
          have hT : patch.extract 0 a ++ patch.extract a (a + k) = patch.extract 0 (a + k) := ex_cat (by omega) (by omega)
          have hcz : (patch.extract a (a + k)).size ≤ 1073000000 := by rw [ex_size]; omega
          obtain ⟨hst, hse⟩ := ps_step (c := patch.extract a (a + k)) hps (by rw [ex_size, ex_size]; omega)
          rw [hT] at hst hse
          have hgo := hst.good.ok.om
          have hw := wr_good (s := patch.extract a (a + k)) hps.good hcz
          have w9 : IntKind.i64.wrap ((i : Int) + 1) = ((i + 1 : Nat) : Int) := by rw [wrap_i64 (by omega) (by omega)]; omega
          obtain ⟨q, hq⟩ : ∃ q, goQ old (patch.extract 0 (a + k)) = q := ⟨_, rfl⟩
          have hz0 := hst.z
          rw [hq] at hz0

          have hz2 : ¬(wrP p (patch.extract a (a + k))).2.made.size = 0 := by have := hw.2.1; omega
          refine at_call tDWrite (wNN (i := 2) (g := 3) (r := 4) (k := 5) ⟨by rfl, ⟨_, by rfl⟩, by rfl, ⟨_, by rfl⟩, by decide⟩ hps.good hcz hz (by decide)) ?_
          generalize (wrP p (patch.extract a (a + k))).2 = p2 at hst hz2 hz0 hgo hw ⊢

          rw [hse, hq]
          simp -implicitDefEqProofs only [go_sem, wk]
          refine ⟨by omega, ?_⟩
          refine at_call trGo (goS (by rw [ex_size]; omega)) ?_
          rw [hq]
          unfold gV
          simp -implicitDefEqProofs only [go_sem, spl5]
          have s0 : decide (q.e = q.e) = true := decide_eq_true rfl
          have s1 : decide ((p2.made.size : Int) > 8192) = false := decide_eq_false (by omega)
          by_cases e0 : q.e = 0
          · have p2q := hz0 e0
            have b4 : decide (q.e = 0) = true := decide_eq_true e0
            have b5 : decide ((p2.made.size : Int) = q.made.size) = true := decide_eq_true (by rw [p2q])
            simp -implicitDefEqProofs only [go_sem, s0]
            refine at_call tDMade (madeNS (r := 6) (by rfl)) ?_
            simp -implicitDefEqProofs only [go_sem, s1, spl5, b4]
            refine at_call tDMade (madeNS (r := 6) (by rfl)) ?_
            simp -implicitDefEqProofs only [go_sem, s1, spl5, b4, b5, w9]
            refine kLoop_mk (i + 1, a + k, p2) ⟨hst, by show a + k ≤ _; omega, by show i + 1 ≤ 61; omega, fun h => by have h : i + 1 = 61 := h; show a + k = _; omega⟩ (by show (patch.size - (a + k)) + (61 - (i + 1)) < (patch.size - a) + (61 - i); omega) ?_
            rw [pcF_N (by exact hz2)]
            unfold pcT
            refine sub_mk [(4, 6), (5, 7)] rfl rfl rfl ?_
            simp only [tmSub, hpSub, objSub, eqTm, eqHp, rn, lk, SV.ren, SV.renC, SV.renB, SV.renA, ren_ints, ren_strs, ren_pl, ren_svs, SV.v.injEq, Value.int.injEq, Body.ints.injEq, SV.ptr.injEq, SV.sl.injEq, Value.string.injEq, Value.bool.injEq, List.map_cons, List.map_nil, forall_const, Nat.reduceLT, Nat.lt_add_one, imp_self, true_and, and_true, and_self, ob_some, get_mk, lk_cons, ↓reduceIte, Nat.reduceEqDiff, ne_eq, not_true_eq_false, not_false_eq_true, Nat.one_ne_zero, Nat.zero_ne_one, Nat.succ_ne_self, Nat.reduceAdd, Bool.false_eq_true, false_implies, implies_true, reduceCtorEq, patN]
            repeat' (first | rfl | apply And.intro)
          · have b4 : decide (q.e = 0) = false := decide_eq_false e0
            simp -implicitDefEqProofs only [go_sem, s0]
            refine at_call tDMade (madeNS (r := 6) (by rfl)) ?_
            simp -implicitDefEqProofs only [go_sem, s1, spl5, b4, w9]
            refine kLoop_mk (i + 1, a + k, p2) ⟨hst, by show a + k ≤ _; omega, by show i + 1 ≤ 61; omega, fun h => by have h : i + 1 = 61 := h; show a + k = _; omega⟩ (by show (patch.size - (a + k)) + (61 - (i + 1)) < (patch.size - a) + (61 - i); omega) ?_
            rw [pcF_N (by exact hz2)]
            unfold pcT
            refine sub_mk [(4, 6), (5, 7)] rfl rfl rfl ?_
            simp only [tmSub, hpSub, objSub, eqTm, eqHp, rn, lk, SV.ren, SV.renC, SV.renB, SV.renA, ren_ints, ren_strs, ren_pl, ren_svs, SV.v.injEq, Value.int.injEq, Body.ints.injEq, SV.ptr.injEq, SV.sl.injEq, Value.string.injEq, Value.bool.injEq, List.map_cons, List.map_nil, forall_const, Nat.reduceLT, Nat.lt_add_one, imp_self, true_and, and_true, and_self, ob_some, get_mk, lk_cons, ↓reduceIte, Nat.reduceEqDiff, ne_eq, not_true_eq_false, not_false_eq_true, Nat.one_ne_zero, Nat.zero_ne_one, Nat.succ_ne_self, Nat.reduceAdd, Bool.false_eq_true, false_implies, implies_true, reduceCtorEq, patN]
            repeat' (first | rfl | apply And.intro)
        · have b2 : decide ((i : Int) < 60) = false := decide_eq_false (by omega)
          obtain ⟨k, hkk⟩ : ∃ k : Nat, patch.size - a = k := ⟨_, rfl⟩
          have hk : k ≤ patch.size - a := by omega
          have hk2 : k = patch.size - a ∨ i < 60 := .inl hkk.symm
          have wk : IntKind.i64.wrap ((a : Int) + (k : Int)) = ((a + k : Nat) : Int) := by rw [wrap_i64 (by omega) (by omega)]; omega
          rw [hkk]
          simp -implicitDefEqProofs only [go_sem, b1, b2, wk]
          refine ⟨⟨by omega, by omega, by omega⟩, ?_⟩
          have hT : patch.extract 0 a ++ patch.extract a (a + k) = patch.extract 0 (a + k) := ex_cat (by omega) (by omega)
          have hcz : (patch.extract a (a + k)).size ≤ 1073000000 := by rw [ex_size]; omega
          obtain ⟨hst, hse⟩ := ps_step (c := patch.extract a (a + k)) hps (by rw [ex_size, ex_size]; omega)
          rw [hT] at hst hse
          have hgo := hst.good.ok.om
          have hw := wr_good (s := patch.extract a (a + k)) hps.good hcz
          have w9 : IntKind.i64.wrap ((i : Int) + 1) = ((i + 1 : Nat) : Int) := by rw [wrap_i64 (by omega) (by omega)]; omega
          obtain ⟨q, hq⟩ : ∃ q, goQ old (patch.extract 0 (a + k)) = q := ⟨_, rfl⟩
          have hz0 := hst.z
          rw [hq] at hz0

          have hz2 : ¬(wrP p (patch.extract a (a + k))).2.made.size = 0 := by have := hw.2.1; omega
          refine at_call tDWrite (wNN (i := 2) (g := 3) (r := 4) (k := 5) ⟨by rfl, ⟨_, by rfl⟩, by rfl, ⟨_, by rfl⟩, by decide⟩ hps.good hcz hz (by decide)) ?_
          generalize (wrP p (patch.extract a (a + k))).2 = p2 at hst hz2 hz0 hgo hw ⊢

          rw [hse, hq]
          simp -implicitDefEqProofs only [go_sem, wk]
          refine ⟨by omega, ?_⟩
          refine at_call trGo (goS (by rw [ex_size]; omega)) ?_
          rw [hq]
          unfold gV
          simp -implicitDefEqProofs only [go_sem, spl5]
          have s0 : decide (q.e = q.e) = true := decide_eq_true rfl
          have s1 : decide ((p2.made.size : Int) > 8192) = false := decide_eq_false (by omega)
          by_cases e0 : q.e = 0
          · have p2q := hz0 e0
            have b4 : decide (q.e = 0) = true := decide_eq_true e0
            have b5 : decide ((p2.made.size : Int) = q.made.size) = true := decide_eq_true (by rw [p2q])
            simp -implicitDefEqProofs only [go_sem, s0]
            refine at_call tDMade (madeNS (r := 6) (by rfl)) ?_
            simp -implicitDefEqProofs only [go_sem, s1, spl5, b4]
            refine at_call tDMade (madeNS (r := 6) (by rfl)) ?_
            simp -implicitDefEqProofs only [go_sem, s1, spl5, b4, b5, w9]
            refine kLoop_mk (i + 1, a + k, p2) ⟨hst, by show a + k ≤ _; omega, by show i + 1 ≤ 61; omega, fun h => by have h : i + 1 = 61 := h; show a + k = _; omega⟩ (by show (patch.size - (a + k)) + (61 - (i + 1)) < (patch.size - a) + (61 - i); omega) ?_
            rw [pcF_N (by exact hz2)]
            unfold pcT
            refine sub_mk [(4, 6), (5, 7)] rfl rfl rfl ?_
            simp only [tmSub, hpSub, objSub, eqTm, eqHp, rn, lk, SV.ren, SV.renC, SV.renB, SV.renA, ren_ints, ren_strs, ren_pl, ren_svs, SV.v.injEq, Value.int.injEq, Body.ints.injEq, SV.ptr.injEq, SV.sl.injEq, Value.string.injEq, Value.bool.injEq, List.map_cons, List.map_nil, forall_const, Nat.reduceLT, Nat.lt_add_one, imp_self, true_and, and_true, and_self, ob_some, get_mk, lk_cons, ↓reduceIte, Nat.reduceEqDiff, ne_eq, not_true_eq_false, not_false_eq_true, Nat.one_ne_zero, Nat.zero_ne_one, Nat.succ_ne_self, Nat.reduceAdd, Bool.false_eq_true, false_implies, implies_true, reduceCtorEq, patN]
            repeat' (first | rfl | apply And.intro)
          · have b4 : decide (q.e = 0) = false := decide_eq_false e0
            simp -implicitDefEqProofs only [go_sem, s0]
            refine at_call tDMade (madeNS (r := 6) (by rfl)) ?_
            simp -implicitDefEqProofs only [go_sem, s1, spl5, b4, w9]
            refine kLoop_mk (i + 1, a + k, p2) ⟨hst, by show a + k ≤ _; omega, by show i + 1 ≤ 61; omega, fun h => by have h : i + 1 = 61 := h; show a + k = _; omega⟩ (by show (patch.size - (a + k)) + (61 - (i + 1)) < (patch.size - a) + (61 - i); omega) ?_
            rw [pcF_N (by exact hz2)]
            unfold pcT
            refine sub_mk [(4, 6), (5, 7)] rfl rfl rfl ?_
            simp only [tmSub, hpSub, objSub, eqTm, eqHp, rn, lk, SV.ren, SV.renC, SV.renB, SV.renA, ren_ints, ren_strs, ren_pl, ren_svs, SV.v.injEq, Value.int.injEq, Body.ints.injEq, SV.ptr.injEq, SV.sl.injEq, Value.string.injEq, Value.bool.injEq, List.map_cons, List.map_nil, forall_const, Nat.reduceLT, Nat.lt_add_one, imp_self, true_and, and_true, and_self, ob_some, get_mk, lk_cons, ↓reduceIte, Nat.reduceEqDiff, ne_eq, not_true_eq_false, not_false_eq_true, Nat.one_ne_zero, Nat.zero_ne_one, Nat.succ_ne_self, Nat.reduceAdd, Bool.false_eq_true, false_implies, implies_true, reduceCtorEq, patN]
            repeat' (first | rfl | apply And.intro)
      · have b1 : decide ((i : Int) < m) = false := decide_eq_false (by omega)
        obtain ⟨k, hkk⟩ : ∃ k : Nat, patch.size - a = k := ⟨_, rfl⟩
        have hk : k ≤ patch.size - a := by omega
        have hk2 : k = patch.size - a ∨ i < 60 := .inl hkk.symm
        have wk : IntKind.i64.wrap ((a : Int) + (k : Int)) = ((a + k : Nat) : Int) := by rw [wrap_i64 (by omega) (by omega)]; omega
        rw [hkk]
        simp -implicitDefEqProofs only [go_sem, b1, wk]
        refine ⟨⟨by omega, by omega, by omega⟩, ?_⟩
        have hT : patch.extract 0 a ++ patch.extract a (a + k) = patch.extract 0 (a + k) := ex_cat (by omega) (by omega)
        have hcz : (patch.extract a (a + k)).size ≤ 1073000000 := by rw [ex_size]; omega
        obtain ⟨hst, hse⟩ := ps_step (c := patch.extract a (a + k)) hps (by rw [ex_size, ex_size]; omega)
        rw [hT] at hst hse
        have hgo := hst.good.ok.om
        have hw := wr_good (s := patch.extract a (a + k)) hps.good hcz
        have w9 : IntKind.i64.wrap ((i : Int) + 1) = ((i + 1 : Nat) : Int) := by rw [wrap_i64 (by omega) (by omega)]; omega
        obtain ⟨q, hq⟩ : ∃ q, goQ old (patch.extract 0 (a + k)) = q := ⟨_, rfl⟩
        have hz0 := hst.z
        rw [hq] at hz0

        have hz2 : ¬(wrP p (patch.extract a (a + k))).2.made.size = 0 := by have := hw.2.1; omega
        refine at_call tDWrite (wNN (i := 2) (g := 3) (r := 4) (k := 5) ⟨by rfl, ⟨_, by rfl⟩, by rfl, ⟨_, by rfl⟩, by decide⟩ hps.good hcz hz (by decide)) ?_
        generalize (wrP p (patch.extract a (a + k))).2 = p2 at hst hz2 hz0 hgo hw ⊢

        rw [hse, hq]
        simp -implicitDefEqProofs only [go_sem, wk]
        refine ⟨by omega, ?_⟩
        refine at_call trGo (goS (by rw [ex_size]; omega)) ?_
        rw [hq]
        unfold gV
        simp -implicitDefEqProofs only [go_sem, spl5]
        have s0 : decide (q.e = q.e) = true := decide_eq_true rfl
        have s1 : decide ((p2.made.size : Int) > 8192) = false := decide_eq_false (by omega)
        by_cases e0 : q.e = 0
        · have p2q := hz0 e0
          have b4 : decide (q.e = 0) = true := decide_eq_true e0
          have b5 : decide ((p2.made.size : Int) = q.made.size) = true := decide_eq_true (by rw [p2q])
          simp -implicitDefEqProofs only [go_sem, s0]
          refine at_call tDMade (madeNS (r := 6) (by rfl)) ?_
          simp -implicitDefEqProofs only [go_sem, s1, spl5, b4]
          refine at_call tDMade (madeNS (r := 6) (by rfl)) ?_
          simp -implicitDefEqProofs only [go_sem, s1, spl5, b4, b5, w9]
          refine kLoop_mk (i + 1, a + k, p2) ⟨hst, by show a + k ≤ _; omega, by show i + 1 ≤ 61; omega, fun h => by have h : i + 1 = 61 := h; show a + k = _; omega⟩ (by show (patch.size - (a + k)) + (61 - (i + 1)) < (patch.size - a) + (61 - i); omega) ?_
          rw [pcF_N (by exact hz2)]
          unfold pcT
          refine sub_mk [(4, 6), (5, 7)] rfl rfl rfl ?_
          simp only [tmSub, hpSub, objSub, eqTm, eqHp, rn, lk, SV.ren, SV.renC, SV.renB, SV.renA, ren_ints, ren_strs, ren_pl, ren_svs, SV.v.injEq, Value.int.injEq, Body.ints.injEq, SV.ptr.injEq, SV.sl.injEq, Value.string.injEq, Value.bool.injEq, List.map_cons, List.map_nil, forall_const, Nat.reduceLT, Nat.lt_add_one, imp_self, true_and, and_true, and_self, ob_some, get_mk, lk_cons, ↓reduceIte, Nat.reduceEqDiff, ne_eq, not_true_eq_false, not_false_eq_true, Nat.one_ne_zero, Nat.zero_ne_one, Nat.succ_ne_self, Nat.reduceAdd, Bool.false_eq_true, false_implies, implies_true, reduceCtorEq, patN]
          repeat' (first | rfl | apply And.intro)
        · have b4 : decide (q.e = 0) = false := decide_eq_false e0
          simp -implicitDefEqProofs only [go_sem, s0]
          refine at_call tDMade (madeNS (r := 6) (by rfl)) ?_
          simp -implicitDefEqProofs only [go_sem, s1, spl5, b4, w9]
          refine kLoop_mk (i + 1, a + k, p2) ⟨hst, by show a + k ≤ _; omega, by show i + 1 ≤ 61; omega, fun h => by have h : i + 1 = 61 := h; show a + k = _; omega⟩ (by show (patch.size - (a + k)) + (61 - (i + 1)) < (patch.size - a) + (61 - i); omega) ?_
          rw [pcF_N (by exact hz2)]
          unfold pcT
          refine sub_mk [(4, 6), (5, 7)] rfl rfl rfl ?_
          simp only [tmSub, hpSub, objSub, eqTm, eqHp, rn, lk, SV.ren, SV.renC, SV.renB, SV.renA, ren_ints, ren_strs, ren_pl, ren_svs, SV.v.injEq, Value.int.injEq, Body.ints.injEq, SV.ptr.injEq, SV.sl.injEq, Value.string.injEq, Value.bool.injEq, List.map_cons, List.map_nil, forall_const, Nat.reduceLT, Nat.lt_add_one, imp_self, true_and, and_true, and_self, ob_some, get_mk, lk_cons, ↓reduceIte, Nat.reduceEqDiff, ne_eq, not_true_eq_false, not_false_eq_true, Nat.one_ne_zero, Nat.zero_ne_one, Nat.succ_ne_self, Nat.reduceAdd, Bool.false_eq_true, false_implies, implies_true, reduceCtorEq, patN]
          repeat' (first | rfl | apply And.intro)
    have b0 : decide ((a : Int) < patch.size) = false := decide_eq_false (by omega)
    have hap : a = patch.size := by omega
    subst hap
    rw [ext_all] at hps
    simp -implicitDefEqProofs only [go_sem, b0]
    have hco := cl_ok hps.good.ok
    have hcl := ps_close hps
    have hom := hps.good.ok.om
    have s1 : seq (clP p).1.1 (clP p).1.1 = true := seq_self _
    have s2 : decide ((clP p).1.2 = (clP p).1.2) = true := decide_eq_true rfl
    by_cases e0 : (clP p).2.e = 0
    · obtain ⟨hd, hcq⟩ := cl_done e0
      have hdone : Done (clP p).2 := by rw [hcq]; exact ⟨hd.e, hd.b, hd.a, hd.w, hd.s, hd.h⟩
      have hv : (SV.tup [.v (.string (clP p).2.made), .v (.int .i64 0)]) = .tup [.v (.string (clP p).1.1), .v (.int .i64 (clP p).1.2)] := by rw [hcq]
      refine at_call tDClose (cNF (i := 2) (g := 3) (r := 4) (k := 5) ⟨by rfl, ⟨_, by rfl⟩, by rfl, ⟨_, by rfl⟩, by decide⟩ hps.good.ok hz e0) ?_
      unfold clV
      simp -implicitDefEqProofs only [go_sem]
      refine at_call trDApply (rapplyS (by omega)) ?_
      rw [show apV old patch = clV (goQ old patch) from rfl]
      unfold clV
      rw [← hcl]
      simp -implicitDefEqProofs only [go_sem, s1, s2]
      refine at_call tDClose (cFS (p := (clP p).2) (i := 2) (g := 3) (r := 4) (by rfl) ⟨_, by rfl⟩ ⟨_, by rfl⟩ (by decide) hdone (by rw [hco.made]; omega) (by rw [hco.made]; exact hz) hco.cl) ?_
      rw [hv]
      simp -implicitDefEqProofs only [go_sem]
      refine at_call tDWrite (wClS (u := true) (b := .ptr 2 7) (s := .sl 4 0 (clP p).2.made.size 1) (p := (clP p).2) (by rfl) hco.cl) ?_
      rw [if_pos e0]
      have b0 : decide ((clP p).1.2 = 0) = true := decide_eq_true (by rw [← hco.e]; exact e0)
      simp -implicitDefEqProofs only [go_sem, s1, s2, b0]
      refine sub_mk [] rfl rfl rfl ?_
      simp only [tmSub, hpSub, objSub, eqTm, eqHp, rn, lk, SV.ren, SV.renC, SV.renB, SV.renA, ren_ints, ren_strs, ren_pl, ren_svs, SV.v.injEq, Value.int.injEq, Body.ints.injEq, SV.ptr.injEq, SV.sl.injEq, Value.string.injEq, Value.bool.injEq, List.map_cons, List.map_nil, forall_const, Nat.reduceLT, Nat.lt_add_one, imp_self, true_and, and_true, and_self, ob_some, get_mk, lk_cons, ↓reduceIte, Nat.reduceEqDiff, ne_eq, not_true_eq_false, not_false_eq_true, Nat.one_ne_zero, Nat.zero_ne_one, Nat.succ_ne_self, Nat.reduceAdd, Bool.false_eq_true, false_implies, implies_true, reduceCtorEq]
      try trivial
    have ha : clP (clP p).2 = ((⟨#[]⟩, (clP p).2.e), { (clP p).2 with closed := true }) := if_pos e0
    have hv : (clP p).1 = (⟨#[]⟩, (clP p).2.e) := by have := hco.again; rw [ha] at this; exact (congrArg Prod.fst this).symm
    have s3 : seq ⟨#[]⟩ (clP p).1.1 = true := by rw [hv]; exact seq_self _
    have s4 : decide ((clP p).2.e = (clP p).1.2) = true := decide_eq_true (by rw [hv])
    have b9 : decide ((clP p).2.e = 0) = false := decide_eq_false e0
    have b8 : decide ((clP p).1.2 = 0) = false := decide_eq_false (by rw [hv]; exact e0)
    refine at_call tDClose (cND (i := 2) (g := 3) (r := 4) (k := 5) ⟨by rfl, ⟨_, by rfl⟩, by rfl, ⟨_, by rfl⟩, by decide⟩ hps.good.ok hz e0) ?_
    unfold clV
    simp -implicitDefEqProofs only [go_sem]
    refine at_call trDApply (rapplyS (by omega)) ?_
    rw [show apV old patch = clV (goQ old patch) from rfl]
    unfold clV
    rw [← hcl]
    simp -implicitDefEqProofs only [go_sem, s1, s2]
    refine in_call mixT tDClose ?_
    unfold mDClose patN patC
    simp -implicitDefEqProofs only [↓fnVC, initTm]
    simp -implicitDefEqProofs only [go_sem, b9]
    refine at_call tDWrite (wClS (u := true) (b := .ptr 2 7) (s := .sl 4 0 (clP p).2.made.size 1) (p := { (clP p).2 with closed := true }) (by rfl) rfl) ?_
    rw [if_neg (by exact e0)]
    simp -implicitDefEqProofs only [go_sem, s3, s4, b9, b8]
    refine sub_mk [] rfl rfl rfl ?_
    simp only [tmSub, hpSub, objSub, eqTm, eqHp, rn, lk, SV.ren, SV.renC, SV.renB, SV.renA, ren_ints, ren_strs, ren_pl, ren_svs, SV.v.injEq, Value.int.injEq, Body.ints.injEq, SV.ptr.injEq, SV.sl.injEq, Value.string.injEq, Value.bool.injEq, List.map_cons, List.map_nil, forall_const, Nat.reduceLT, Nat.lt_add_one, imp_self, true_and, and_true, and_self, ob_some, get_mk, lk_cons, ↓reduceIte, Nat.reduceEqDiff, ne_eq, not_true_eq_false, not_false_eq_true, Nat.one_ne_zero, Nat.zero_ne_one, Nat.succ_ne_self, Nat.reduceAdd, Bool.false_eq_true, false_implies, implies_true, reduceCtorEq]
    try trivial
end
end Go.Sx