/- Take, on both sides. -/
import Derived.Test.YtbdgjfcchmainaaGreatQbA

set_option linter.unusedVariables false
set_option linter.unusedSimpArgs false
set_option maxRecDepth 100000
namespace Go.Sx
attribute [local go_sem ↓] bind_mk intsB_mk strsB_mk svB_mk fnVC ob_some vc_skip vc_exit vc_ret vc_seq vc_block kSeq_normal kSeq_exit kSeq_ret kBlock_normal kBlock_exit kBlock_ret vc_reg vc_regD vc_cond condK_true condK_false vc_loop kLoop_exit kLoop_ret kRoll_normal kRoll_exit kRoll_ret vcOps_nil vcOps_cons gd_bool gd_undef put_some put_none vcT_fin vcT_pure vcT_act vcT_acts vcT_stop stab_none stab_some stabM_nil stabM_cons stabO_ld stabO_ldn stabO_slP stabO_b2s fldOf_ai fldOf_agg fldOf_ait fldOf_aggt intsOf_nil intsOf_cons strsOf_nil strsOf_cons c_omap ob_if lk_nil lk_cons ev_t ev_k z_mov z_pick z_bin z_binA z_binB z_binP z_un z_r2s z_conv z_s2b z_b2s z_mkM z_luM z_upM z_lenM lenMk_mp lenMk_nil plsOf_v z_delM asM_so plV_v plV_agg mpOf_mp mpOf_nil mpUp_mp asM_mp luV_ok luV_v z_allocT aggOf_mk z_boxT z_alloc z_bld z_bldI z_rowI z_rowS z_ld z_ldn z_st z_stn asN_ptr asN_fn z_nilck z_fld z_fadr z_idxA z_idxP z_idxS z_idxV z_slS z_slL z_slP z_mk z_lenS z_lenL z_app appC_ints appC_pl appC_sv appC_strs isS_strs loose_ints loose_pl loose_sv z_slM z_callv callvK_fn callvK_f callvK_yl vc_rangeF rfEnd_eq rfGo_none rfGo_ret rfGo_exit yGo_mk yEnd_n yEnd_r yEnd_e yRdy_mk yMid_n putPs_nil putPs_cons leaf_v leaf_ptr leaf_sl leaf_yl leaf_mp z_appS z_appST z_appZ z_cpyS z_mkfn reps_int reps_str z_rowV z_slnil nilK_zero z_cpy z_call asT_tup z_extT z_box boxOf_ai boxOf_agg boxOf_int boxOf_str boxOf_bool boxOf_ptr boxOf_sl sbin_int sbin_str sbinA_mk ae_nil ae_int ae_str sbinB_mk sbinP_nn sbinP_pn sbinP_np i_add i_sub i_mul i_quo i_rem i_and i_or i_xor i_andNot i_shl i_shr i_eql i_neq i_lss i_leq i_gtr i_geq st_add st_eql st_neq st_lss st_leq st_gtr st_geq bo_eql bo_neq pt_eql pt_neq un_neg un_xor un_not asI_mk asB_mk asS_mk asP_mk asSl_mk asBy_mk bnd_none bnd_some get_mk hput_mk hdel_mk kill_eq wrOf_eq rowOf_eq rsvs_0 rsvs_1 rsvs_2 rsvs_3 rsv_t rsv_c1 rsv_cn nt_v nt_ptr nt_sl nt_agg nt_ai get_ints get_strs get_pl get_sv getN_ints getN_sv set_ints set_strs set_sv setN_ints setN_sv part_ints part_strs part_sv cat_ints cat_strs cat_sv over_ints over_strs over_sv ones_ints ones_strs evs_nil evs_cons condK_eqt condK_eqf det_callP V_ns V_nn V_gs V_gn obC_mk fresh_ev freshT_ev freshR_ev setN_plagg setN_intsv setN_svai setN_svagg over_intsv set_pl setN_pl setN_plai getN_pl getN_strs part_pl cat_pl over_pl over_plints z_mm
attribute [local go_sem] initTm ne_eq not_true_eq_false not_false_eq_true true_and and_true List.length_cons List.length_nil Int.toNat_natCast Nat.add_zero Nat.zero_add Nat.mul_one List.getElem?_cons_zero List.drop_zero List.take_length List.take_succ_cons List.take_zero List.take_nil List.drop_succ_cons Option.map_some Nat.le_refl implies_true List.getElem?_cons_succ decide_true decide_false Bool.not_true Bool.not_false beq_self_eq_true Nat.succ_ne_self Nat.one_ne_zero Nat.zero_ne_one vk_mk hk_mk nk_mk tok_eq plsOf_map intsOf_map bodyOf_pl bodyOf_ints bodyOf_strs bodyOf_sv part_aggv part_agg part_ai part_int part_str part_bool part_sl part_ptr part_nil numsOf_map u_int u_str u_bool u_pnil u_sl u_ptr u_oci u_ocs evq_nil evq_cons fillS_nil fillS_cons u_ocb ones_pl cells_sv cells_ints cells_strs cells_pl smms_nil smms_cons smm_min smm_max plsOf_nil List.nil_append List.all_cons List.all_nil Bool.and_self Bool.true_and Bool.and_true zws_len zw_len zi_len List.set_cons_zero List.set_cons_succ List.flatMap_cons List.flatMap_nil List.append_nil
attribute [local go_sem_proc] Nat.reduceEqDiff Nat.reduceAdd Nat.reduceMul Nat.reduceLT Nat.reduceLeDiff Nat.reduceSub Int.reduceToNat Int.reduceLE Int.reduceLT reduceCtorEq Int.reduceEq Int.reduceGT Int.reduceGE Int.reduceNeg
attribute [local go_sem_proc ↓] reduceIte
section
open Go.Proofs
variable {H : Hp} {n : Nat} {x : Nat → Option SO}
def rdN (s : ByteArray) (e : Int) : Nat → ByteArray × Int
  | 0 => (s, e)
  | j + 1 => (rawS (rdN s e j).1 (rdN s e j).2 32, rawE (rdN s e j).1 (rdN s e j).2 32)
def tkIds (s : ByteArray) (e : Int) : Nat → List ByteArray
  | 0 => []
  | j + 1 => tkIds s e j ++ [rawT (rdN s e j).1 (rdN s e j).2 32]
theorem tkIds_len {s : ByteArray} {e : Int} : ∀ {j}, (tkIds s e j).length = j
  | 0 => rfl
  | j + 1 => by rw [tkIds, List.length_append, tkIds_len]; rfl
def tkS (s : ByteArray) (e : Int) : ByteArray × Int := rdN (rawS s e 1) (rawE s e 1) (num (rawT s e 1))
def tkL (s : ByteArray) (e : Int) : List ByteArray := tkIds (rawS s e 1) (rawE s e 1) (num (rawT s e 1))
def tkN (s : ByteArray) (e : Int) : Nat := num (rawT (tkS s e).1 (tkS s e).2 1)
def tkE (s : ByteArray) (e : Int) : Int := if okSet (tkL s e) (tkN s e : Nat) = true then rawE (tkS s e).1 (tkS s e).2 1 else failE (rawE (tkS s e).1 (tkS s e).2 1) 3
def tkR (s : ByteArray) (e : Int) : ByteArray := rawS (tkS s e).1 (tkS s e).2 1
def tkO (s : ByteArray) (e : Int) : List ByteArray := if tkE s e = 0 then tkL s e else []
def tkM (s : ByteArray) (e : Int) : Int := if tkE s e = 0 then (tkN s e : Nat) else 0
theorem takeW {s : ByteArray} {e : Int} : fnVC CT mQTake [.ptr 1 0] ⟨[(1, some (rdO s e))], x⟩ 2 fun v H' n' => Sub 2 ⟨[(0, .agg [.sl 2 0 (tkO s e).length 1, .v (.int .i64 (tkM s e))])], ⟨[(1, some (rdO (tkR s e) (tkE s e))), (2, some ⟨true, .strs (tkO s e)⟩)], x⟩, 3⟩ ⟨[(0, v)], H', n'⟩ := by
  unfold mQTake
  simp -implicitDefEqProofs only [↓fnVC, initTm]
  simp -implicitDefEqProofs only [go_sem]
  refine at_call tRByte (byteS (i := 1) (s := s) (e := e) (by rfl) (by decide)) ?_
  unfold tkO tkM tkE tkR tkN tkL tkS
  have hk := num1_lt (s := s) (e := e)
  generalize num (rawT s e 1) = k at hk ⊢
  generalize rawS s e 1 = s1
  generalize rawE s e 1 = e1
  simp -implicitDefEqProofs only [go_sem]
  refine loop_fam (fun (j : Nat) => j ≤ k) (fun j => ⟨[(0, .ptr 1 0), (2, .ptr 2 0), (3, .ptr 3 0), (5, .v (.int .i64 (k : Nat))), (6, .v (.int .i64 j))], ⟨[(1, some (rdO (rdN s1 e1 j).1 (rdN s1 e1 j).2)), (2, some ⟨true, .sv [.sl 0 0 0 1, .v (.int .i64 0)]⟩), (3, some ⟨true, .sv [.sl 4 0 j 1, .v (.int .i64 0)]⟩), (4, some ⟨true, .strs (tkIds s1 e1 j)⟩)], x⟩, 5⟩) (fun j => k - j) 0 (Nat.zero_le _) ?_ ?_
  · refine sub_mk [(4, 0)] rfl rfl rfl ?_
    simp only [tmSub, hpSub, objSub, eqTm, eqHp, rn, lk, SV.ren, SV.renC, SV.renB, SV.renA, ren_ints, ren_strs, ren_pl, ren_svs, SV.v.injEq, Value.int.injEq, Body.ints.injEq, SV.ptr.injEq, SV.sl.injEq, Value.string.injEq, Value.bool.injEq, List.map_cons, List.map_nil, forall_const, Nat.reduceLT, Nat.lt_add_one, imp_self, true_and, and_true, and_self, ob_some, get_mk, lk_cons, ↓reduceIte, Nat.reduceEqDiff, ne_eq, not_true_eq_false, not_false_eq_true, Nat.one_ne_zero, Nat.zero_ne_one, Nat.succ_ne_self, Nat.reduceAdd, Bool.false_eq_true, false_implies, implies_true, reduceCtorEq, rdN, tkIds]
    exact ⟨rfl, rfl, rfl⟩
  · intro j hj
    have hjl := tkIds_len (s := s1) (e := e1) (j := j)
    simp -implicitDefEqProofs only [go_sem]
    refine condK_bb (fun c => ?_) (fun c => ?_)
    · have c1 : j < k := by have := of_decide_eq_true c; omega
      have w4 : IntKind.i64.wrap ((j : Int) + 1) = ((j + 1 : Nat) : Int) := by rw [wrap_i64 (by omega) (by omega)]; omega
      simp -implicitDefEqProofs only [go_sem, c]
      refine at_call tRHash (hashSp (i := 1) (s := (rdN s1 e1 j).1) (e := (rdN s1 e1 j).2) (by rfl) (by decide)) ?_
      have hT : (tkIds s1 e1 j).take j = tkIds s1 e1 j := List.take_of_length_le (by omega)
      simp -implicitDefEqProofs only [go_sem, spA, spB, spC, tk2]
      refine ⟨by omega, by omega, by omega, app_kill ?_⟩
      simp -implicitDefEqProofs only [go_sem, hT, spA, spB, spC, tk2, w4]
      refine kLoop_mk (j + 1) (by omega) (by omega) ?_
      refine sub_mk [(4, 6)] rfl rfl rfl ?_
      simp only [tmSub, hpSub, objSub, eqTm, eqHp, rn, lk, SV.ren, SV.renC, SV.renB, SV.renA, ren_ints, ren_strs, ren_pl, ren_svs, SV.v.injEq, Value.int.injEq, Body.ints.injEq, SV.ptr.injEq, SV.sl.injEq, Value.string.injEq, Value.bool.injEq, List.map_cons, List.map_nil, forall_const, Nat.reduceLT, Nat.lt_add_one, imp_self, true_and, and_true, and_self, ob_some, get_mk, lk_cons, ↓reduceIte, Nat.reduceEqDiff, ne_eq, not_true_eq_false, not_false_eq_true, Nat.one_ne_zero, Nat.zero_ne_one, Nat.succ_ne_self, Nat.reduceAdd, Bool.false_eq_true, false_implies, implies_true, reduceCtorEq, w4, hT, rdN, tkIds, rdO]
    · have c1 : j = k := by have := of_decide_eq_false c; omega
      subst c1
      simp -implicitDefEqProofs only [go_sem, c]
      obtain ⟨s2, hs2⟩ : ∃ q, q = (rdN s1 e1 j).1 := ⟨_, rfl⟩
      obtain ⟨e2, he2⟩ : ∃ q, q = (rdN s1 e1 j).2 := ⟨_, rfl⟩
      rw [← hs2, ← he2]
      refine at_call tRByte (byteS (i := 1) (s := s2) (e := e2) (by rfl) (by decide)) ?_
      obtain ⟨nd, hnd⟩ : ∃ q : Nat, q = num (rawT s2 e2 1) := ⟨_, rfl⟩
      obtain ⟨s3, hs3⟩ : ∃ q, q = rawS s2 e2 1 := ⟨_, rfl⟩
      obtain ⟨e3, he3⟩ : ∃ q, q = rawE s2 e2 1 := ⟨_, rfl⟩
      rw [← hnd, ← hs3, ← he3]
      simp -implicitDefEqProofs only [go_sem, spA, spB, spC, tk2]
      refine at_call tQCheck (checkS (i := 4) (l := tkIds s1 e1 j) (ss := tkIds s1 e1 j) (o := 0) (m := j) (need := (nd : Nat)) (by rfl) (by decide) (by rw [List.drop_zero, List.take_of_length_le (by rw [tkIds_len]; exact Nat.le_refl _)]) (by rw [tkIds_len]; omega) (by omega)) ?_
      by_cases hok : okSet (tkIds s1 e1 j) (nd : Nat) = true
      · have hE : (if okSet (tkIds s1 e1 j) (nd : Nat) = true then e3 else failE e3 3) = e3 := if_pos hok
        have hF : (if okSet (tkIds s1 e1 j) (nd : Nat) = true then (0 : Int) else 1) = 0 := if_pos hok
        rw [hE, hF]
        have f0 : decide ((0 : Int) = 0) = true := rfl
        simp -implicitDefEqProofs only [go_sem, f0]
        refine at_call tRErr (errS (i := 1) (s := s3) (e := e3) (by rfl)) ?_
        by_cases hz : e3 = 0
        · have d1 : decide (e3 = 0) = true := decide_eq_true hz
          rw [if_pos hz, if_pos hz, hjl]
          simp -implicitDefEqProofs only [go_sem, d1, spA, spB, spC, tk2]
          refine sub_mk [(2, 4)] rfl rfl rfl ?_
          simp only [tmSub, hpSub, objSub, eqTm, eqHp, rn, lk, SV.ren, SV.renC, SV.renB, SV.renA, ren_ints, ren_strs, ren_pl, ren_svs, SV.v.injEq, Value.int.injEq, Body.ints.injEq, SV.ptr.injEq, SV.sl.injEq, Value.string.injEq, Value.bool.injEq, List.map_cons, List.map_nil, forall_const, Nat.reduceLT, Nat.lt_add_one, imp_self, true_and, and_true, and_self, ob_some, get_mk, lk_cons, ↓reduceIte, Nat.reduceEqDiff, ne_eq, not_true_eq_false, not_false_eq_true, Nat.one_ne_zero, Nat.zero_ne_one, Nat.succ_ne_self, Nat.reduceAdd, Bool.false_eq_true, false_implies, implies_true, reduceCtorEq, rdO]
        · have d1 : decide (e3 = 0) = false := decide_eq_false hz
          rw [if_neg hz, if_neg hz]
          simp -implicitDefEqProofs only [go_sem, d1, spA, spB, spC, tk2]
          refine sub_mk [(2, 0)] rfl rfl rfl ?_
          simp only [tmSub, hpSub, objSub, eqTm, eqHp, rn, lk, SV.ren, SV.renC, SV.renB, SV.renA, ren_ints, ren_strs, ren_pl, ren_svs, SV.v.injEq, Value.int.injEq, Body.ints.injEq, SV.ptr.injEq, SV.sl.injEq, Value.string.injEq, Value.bool.injEq, List.map_cons, List.map_nil, forall_const, Nat.reduceLT, Nat.lt_add_one, imp_self, true_and, and_true, and_self, ob_some, get_mk, lk_cons, ↓reduceIte, Nat.reduceEqDiff, ne_eq, not_true_eq_false, not_false_eq_true, Nat.one_ne_zero, Nat.zero_ne_one, Nat.succ_ne_self, Nat.reduceAdd, Bool.false_eq_true, false_implies, implies_true, reduceCtorEq, rdO]
          rfl
      · have hE : (if okSet (tkIds s1 e1 j) (nd : Nat) = true then e3 else failE e3 3) = failE e3 3 := if_neg hok
        have hF : (if okSet (tkIds s1 e1 j) (nd : Nat) = true then (0 : Int) else 1) = 1 := if_neg hok
        rw [hE, hF]
        have f0 : decide ((1 : Int) = 0) = false := rfl
        simp -implicitDefEqProofs only [go_sem, f0]
        refine at_call tRFail (failS (i := 1) (s := s3) (e := e3) (f := 3) (by rfl) (by decide)) ?_
        generalize failE e3 3 = e4
        simp -implicitDefEqProofs only [go_sem]
        refine at_call tRErr (errS (i := 1) (s := s3) (e := e4) (by rfl)) ?_
        by_cases hz : e4 = 0
        · have d1 : decide (e4 = 0) = true := decide_eq_true hz
          rw [if_pos hz, if_pos hz, hjl]
          simp -implicitDefEqProofs only [go_sem, d1, spA, spB, spC, tk2]
          refine sub_mk [(2, 4)] rfl rfl rfl ?_
          simp only [tmSub, hpSub, objSub, eqTm, eqHp, rn, lk, SV.ren, SV.renC, SV.renB, SV.renA, ren_ints, ren_strs, ren_pl, ren_svs, SV.v.injEq, Value.int.injEq, Body.ints.injEq, SV.ptr.injEq, SV.sl.injEq, Value.string.injEq, Value.bool.injEq, List.map_cons, List.map_nil, forall_const, Nat.reduceLT, Nat.lt_add_one, imp_self, true_and, and_true, and_self, ob_some, get_mk, lk_cons, ↓reduceIte, Nat.reduceEqDiff, ne_eq, not_true_eq_false, not_false_eq_true, Nat.one_ne_zero, Nat.zero_ne_one, Nat.succ_ne_self, Nat.reduceAdd, Bool.false_eq_true, false_implies, implies_true, reduceCtorEq, rdO]
        · have d1 : decide (e4 = 0) = false := decide_eq_false hz
          rw [if_neg hz, if_neg hz]
          simp -implicitDefEqProofs only [go_sem, d1, spA, spB, spC, tk2]
          refine sub_mk [(2, 0)] rfl rfl rfl ?_
          simp only [tmSub, hpSub, objSub, eqTm, eqHp, rn, lk, SV.ren, SV.renC, SV.renB, SV.renA, ren_ints, ren_strs, ren_pl, ren_svs, SV.v.injEq, Value.int.injEq, Body.ints.injEq, SV.ptr.injEq, SV.sl.injEq, Value.string.injEq, Value.bool.injEq, List.map_cons, List.map_nil, forall_const, Nat.reduceLT, Nat.lt_add_one, imp_self, true_and, and_true, and_self, ob_some, get_mk, lk_cons, ↓reduceIte, Nat.reduceEqDiff, ne_eq, not_true_eq_false, not_false_eq_true, Nat.one_ne_zero, Nat.zero_ne_one, Nat.succ_ne_self, Nat.reduceAdd, Bool.false_eq_true, false_implies, implies_true, reduceCtorEq, rdO]
          rfl
theorem takeS {s : ByteArray} {e : Int} {i : Nat} (hg : H.get i = some (rdO s e)) (hi : 0 < i ∧ i < 1000) (hn : n + 1 ≤ 1000) :
    SpecAt Tryz.prog nQTake [.ptr i 0] H n (.agg [.sl n 0 (tkO s e).length 1, .v (.int .i64 (tkM s e))]) ⟨(i, some (rdO (tkR s e) (tkE s e))) :: (n, some ⟨true, .strs (tkO s e)⟩) :: H.l, H.x⟩ (n + 1) := by
  have := lift (n := n) (okT.spec tQTake (takeW (x := H.x) (s := s) (e := e))) [(1, i)] rfl rfl rfl (by omega) rfl rfl
    ⟨sub_wr rfl hi.1 hi.2 hg rfl, trivial⟩ (by simp [apartB, apart1, rn, lk]) (by simp [wrNZ, rn, lk]; omega) (by omega)
  exact this
theorem rtakeW {s : ByteArray} {e : Int} : fnVC CT mrQTake [.ptr 1 0] ⟨[(1, some (rdO s e))], x⟩ 2 fun v H' n' => Sub 2 ⟨[(0, .agg [.sl 2 0 (tkO s e).length 1, .v (.int .i64 (tkM s e))])], ⟨[(1, some (rdO (tkR s e) (tkE s e))), (2, some ⟨true, .strs (tkO s e)⟩)], x⟩, 3⟩ ⟨[(0, v)], H', n'⟩ := by
  unfold mrQTake
  simp -implicitDefEqProofs only [↓fnVC, initTm]
  simp -implicitDefEqProofs only [go_sem]
  refine at_call trRNumber (rnumSp (i := 1) (s := s) (e := e) (k := 1) (by rfl) (by decide) (by decide)) ?_
  unfold tkO tkM tkE tkR tkN tkL tkS
  have hk := num1_lt (s := s) (e := e)
  generalize num (rawT s e 1) = k at hk ⊢
  generalize rawS s e 1 = s1
  generalize rawE s e 1 = e1
  simp -implicitDefEqProofs only [go_sem]
  refine loop_fam (fun (j : Nat) => j ≤ k) (fun j => ⟨[(0, .ptr 1 0), (2, .ptr 2 0), (3, .ptr 3 0), (4, .v (.int .i64 (k : Nat))), (5, .v (.int .i64 j))], ⟨[(1, some (rdO (rdN s1 e1 j).1 (rdN s1 e1 j).2)), (2, some ⟨true, .sv [.sl 0 0 0 1, .v (.int .i64 0)]⟩), (3, some ⟨true, .sv [.sl 4 0 j 1, .v (.int .i64 0)]⟩), (4, some ⟨true, .strs (tkIds s1 e1 j)⟩)], x⟩, 5⟩) (fun j => k - j) 0 (Nat.zero_le _) ?_ ?_
  · refine sub_mk [(4, 0)] rfl rfl rfl ?_
    simp only [tmSub, hpSub, objSub, eqTm, eqHp, rn, lk, SV.ren, SV.renC, SV.renB, SV.renA, ren_ints, ren_strs, ren_pl, ren_svs, SV.v.injEq, Value.int.injEq, Body.ints.injEq, SV.ptr.injEq, SV.sl.injEq, Value.string.injEq, Value.bool.injEq, List.map_cons, List.map_nil, forall_const, Nat.reduceLT, Nat.lt_add_one, imp_self, true_and, and_true, and_self, ob_some, get_mk, lk_cons, ↓reduceIte, Nat.reduceEqDiff, ne_eq, not_true_eq_false, not_false_eq_true, Nat.one_ne_zero, Nat.zero_ne_one, Nat.succ_ne_self, Nat.reduceAdd, Bool.false_eq_true, false_implies, implies_true, reduceCtorEq, rdN, tkIds]
    exact ⟨rfl, rfl, rfl⟩
  · intro j hj
    have hjl := tkIds_len (s := s1) (e := e1) (j := j)
    simp -implicitDefEqProofs only [go_sem]
    refine condK_bb (fun c => ?_) (fun c => ?_)
    · have c1 : j < k := by have := of_decide_eq_true c; omega
      have w4 : IntKind.i64.wrap ((j : Int) + 1) = ((j + 1 : Nat) : Int) := by rw [wrap_i64 (by omega) (by omega)]; omega
      simp -implicitDefEqProofs only [go_sem, c]
      refine at_call trRRaw (rrawSp (i := 1) (s := (rdN s1 e1 j).1) (e := (rdN s1 e1 j).2) (k := 32) (by rfl) (by decide) (by decide)) ?_
      have hT : (tkIds s1 e1 j).take j = tkIds s1 e1 j := List.take_of_length_le (by omega)
      simp -implicitDefEqProofs only [go_sem, spA, spB, spC, tk2]
      refine ⟨by omega, by omega, by omega, app_kill ?_⟩
      simp -implicitDefEqProofs only [go_sem, hT, spA, spB, spC, tk2, w4]
      refine kLoop_mk (j + 1) (by omega) (by omega) ?_
      refine sub_mk [(4, 6)] rfl rfl rfl ?_
      simp only [tmSub, hpSub, objSub, eqTm, eqHp, rn, lk, SV.ren, SV.renC, SV.renB, SV.renA, ren_ints, ren_strs, ren_pl, ren_svs, SV.v.injEq, Value.int.injEq, Body.ints.injEq, SV.ptr.injEq, SV.sl.injEq, Value.string.injEq, Value.bool.injEq, List.map_cons, List.map_nil, forall_const, Nat.reduceLT, Nat.lt_add_one, imp_self, true_and, and_true, and_self, ob_some, get_mk, lk_cons, ↓reduceIte, Nat.reduceEqDiff, ne_eq, not_true_eq_false, not_false_eq_true, Nat.one_ne_zero, Nat.zero_ne_one, Nat.succ_ne_self, Nat.reduceAdd, Bool.false_eq_true, false_implies, implies_true, reduceCtorEq, w4, hT, rdN, tkIds, rdO]
    · have c1 : j = k := by have := of_decide_eq_false c; omega
      subst c1
      simp -implicitDefEqProofs only [go_sem, c]
      obtain ⟨s2, hs2⟩ : ∃ q, q = (rdN s1 e1 j).1 := ⟨_, rfl⟩
      obtain ⟨e2, he2⟩ : ∃ q, q = (rdN s1 e1 j).2 := ⟨_, rfl⟩
      rw [← hs2, ← he2]
      refine at_call trRNumber (rnumSp (i := 1) (s := s2) (e := e2) (k := 1) (by rfl) (by decide) (by decide)) ?_
      obtain ⟨nd, hnd⟩ : ∃ q : Nat, q = num (rawT s2 e2 1) := ⟨_, rfl⟩
      obtain ⟨s3, hs3⟩ : ∃ q, q = rawS s2 e2 1 := ⟨_, rfl⟩
      obtain ⟨e3, he3⟩ : ∃ q, q = rawE s2 e2 1 := ⟨_, rfl⟩
      rw [← hnd, ← hs3, ← he3]
      simp -implicitDefEqProofs only [go_sem, spA, spB, spC, tk2]
      refine at_call trQCheck (rcheckS (i := 4) (l := tkIds s1 e1 j) (ss := tkIds s1 e1 j) (o := 0) (m := j) (need := (nd : Nat)) (by rfl) (by decide) (by rw [List.drop_zero, List.take_of_length_le (by rw [tkIds_len]; exact Nat.le_refl _)]) (by rw [tkIds_len]; omega)) ?_
      by_cases hok : okSet (tkIds s1 e1 j) (nd : Nat) = true
      · have hE : (if okSet (tkIds s1 e1 j) (nd : Nat) = true then e3 else failE e3 3) = e3 := if_pos hok
        have hF : (if okSet (tkIds s1 e1 j) (nd : Nat) = true then (0 : Int) else 1) = 0 := if_pos hok
        rw [hE, hF]
        have f0 : decide ((0 : Int) = 0) = true := rfl
        simp -implicitDefEqProofs only [go_sem, f0]
        unfold rdO
        simp -implicitDefEqProofs only [go_sem]
        by_cases hz : e3 = 0
        · have d1 : decide (e3 = 0) = true := decide_eq_true hz
          rw [if_pos hz, if_pos hz, hjl]
          simp -implicitDefEqProofs only [go_sem, d1, spA, spB, spC, tk2]
          refine sub_mk [(2, 4)] rfl rfl rfl ?_
          simp only [tmSub, hpSub, objSub, eqTm, eqHp, rn, lk, SV.ren, SV.renC, SV.renB, SV.renA, ren_ints, ren_strs, ren_pl, ren_svs, SV.v.injEq, Value.int.injEq, Body.ints.injEq, SV.ptr.injEq, SV.sl.injEq, Value.string.injEq, Value.bool.injEq, List.map_cons, List.map_nil, forall_const, Nat.reduceLT, Nat.lt_add_one, imp_self, true_and, and_true, and_self, ob_some, get_mk, lk_cons, ↓reduceIte, Nat.reduceEqDiff, ne_eq, not_true_eq_false, not_false_eq_true, Nat.one_ne_zero, Nat.zero_ne_one, Nat.succ_ne_self, Nat.reduceAdd, Bool.false_eq_true, false_implies, implies_true, reduceCtorEq, rdO]
        · have d1 : decide (e3 = 0) = false := decide_eq_false hz
          rw [if_neg hz, if_neg hz]
          simp -implicitDefEqProofs only [go_sem, d1, spA, spB, spC, tk2]
          refine sub_mk [(2, 0)] rfl rfl rfl ?_
          simp only [tmSub, hpSub, objSub, eqTm, eqHp, rn, lk, SV.ren, SV.renC, SV.renB, SV.renA, ren_ints, ren_strs, ren_pl, ren_svs, SV.v.injEq, Value.int.injEq, Body.ints.injEq, SV.ptr.injEq, SV.sl.injEq, Value.string.injEq, Value.bool.injEq, List.map_cons, List.map_nil, forall_const, Nat.reduceLT, Nat.lt_add_one, imp_self, true_and, and_true, and_self, ob_some, get_mk, lk_cons, ↓reduceIte, Nat.reduceEqDiff, ne_eq, not_true_eq_false, not_false_eq_true, Nat.one_ne_zero, Nat.zero_ne_one, Nat.succ_ne_self, Nat.reduceAdd, Bool.false_eq_true, false_implies, implies_true, reduceCtorEq, rdO]
          rfl
      · have hE : (if okSet (tkIds s1 e1 j) (nd : Nat) = true then e3 else failE e3 3) = failE e3 3 := if_neg hok
        have hF : (if okSet (tkIds s1 e1 j) (nd : Nat) = true then (0 : Int) else 1) = 1 := if_neg hok
        rw [hE, hF]
        have f0 : decide ((1 : Int) = 0) = false := rfl
        simp -implicitDefEqProofs only [go_sem, f0]
        refine at_call trRFail (rfailSp (i := 1) (s := s3) (e := e3) (f := 3) (by rfl) (by decide)) ?_
        generalize failE e3 3 = e4
        simp -implicitDefEqProofs only [go_sem]
        unfold rdO
        simp -implicitDefEqProofs only [go_sem]
        by_cases hz : e4 = 0
        · have d1 : decide (e4 = 0) = true := decide_eq_true hz
          rw [if_pos hz, if_pos hz, hjl]
          simp -implicitDefEqProofs only [go_sem, d1, spA, spB, spC, tk2]
          refine sub_mk [(2, 4)] rfl rfl rfl ?_
          simp only [tmSub, hpSub, objSub, eqTm, eqHp, rn, lk, SV.ren, SV.renC, SV.renB, SV.renA, ren_ints, ren_strs, ren_pl, ren_svs, SV.v.injEq, Value.int.injEq, Body.ints.injEq, SV.ptr.injEq, SV.sl.injEq, Value.string.injEq, Value.bool.injEq, List.map_cons, List.map_nil, forall_const, Nat.reduceLT, Nat.lt_add_one, imp_self, true_and, and_true, and_self, ob_some, get_mk, lk_cons, ↓reduceIte, Nat.reduceEqDiff, ne_eq, not_true_eq_false, not_false_eq_true, Nat.one_ne_zero, Nat.zero_ne_one, Nat.succ_ne_self, Nat.reduceAdd, Bool.false_eq_true, false_implies, implies_true, reduceCtorEq, rdO]
        · have d1 : decide (e4 = 0) = false := decide_eq_false hz
          rw [if_neg hz, if_neg hz]
          simp -implicitDefEqProofs only [go_sem, d1, spA, spB, spC, tk2]
          refine sub_mk [(2, 0)] rfl rfl rfl ?_
          simp only [tmSub, hpSub, objSub, eqTm, eqHp, rn, lk, SV.ren, SV.renC, SV.renB, SV.renA, ren_ints, ren_strs, ren_pl, ren_svs, SV.v.injEq, Value.int.injEq, Body.ints.injEq, SV.ptr.injEq, SV.sl.injEq, Value.string.injEq, Value.bool.injEq, List.map_cons, List.map_nil, forall_const, Nat.reduceLT, Nat.lt_add_one, imp_self, true_and, and_true, and_self, ob_some, get_mk, lk_cons, ↓reduceIte, Nat.reduceEqDiff, ne_eq, not_true_eq_false, not_false_eq_true, Nat.one_ne_zero, Nat.zero_ne_one, Nat.succ_ne_self, Nat.reduceAdd, Bool.false_eq_true, false_implies, implies_true, reduceCtorEq, rdO]
          rfl
theorem rtakeS {s : ByteArray} {e : Int} {i : Nat} (hg : H.get i = some (rdO s e)) (hi : 0 < i ∧ i < 1000) (hn : n + 1 ≤ 1000) :
    SpecAt Tryz.prog nrQTake [.ptr i 0] H n (.agg [.sl n 0 (tkO s e).length 1, .v (.int .i64 (tkM s e))]) ⟨(i, some (rdO (tkR s e) (tkE s e))) :: (n, some ⟨true, .strs (tkO s e)⟩) :: H.l, H.x⟩ (n + 1) := by
  have := lift (n := n) (okT.spec trQTake (rtakeW (x := H.x) (s := s) (e := e))) [(1, i)] rfl rfl rfl (by omega) rfl rfl
    ⟨sub_wr rfl hi.1 hi.2 hg rfl, trivial⟩ (by simp [apartB, apart1, rn, lk]) (by simp [wrNZ, rn, lk]; omega) (by omega)
  exact this
end
section
/- TakeSigs, on both sides. -/
set_option linter.unusedVariables false
set_option linter.unusedSimpArgs false
set_option maxRecDepth 100000
open Go.Proofs
variable {H : Hp} {n : Nat} {x : Nat → Option SO}
def tgSt (s : ByteArray) (e : Int) : Nat → ByteArray × Int
  | 0 => (s, e)
  | j + 1 => (txR (rawS (tgSt s e j).1 (tgSt s e j).2 32) (rawE (tgSt s e j).1 (tgSt s e j).2 32)).2
def tgL (s : ByteArray) (e : Int) : Nat → Sg
  | 0 => []
  | j + 1 => tgL s e j ++ [(rawT (tgSt s e j).1 (tgSt s e j).2 32, (txR (rawS (tgSt s e j).1 (tgSt s e j).2 32) (rawE (tgSt s e j).1 (tgSt s e j).2 32)).1)]
theorem tgL_len {s : ByteArray} {e : Int} : ∀ {j}, (tgL s e j).length = j
  | 0 => rfl
  | j + 1 => by rw [tgL, List.length_append, tgL_len]; rfl
def tsS (s : ByteArray) (e : Int) : ByteArray × Int := tgSt (rawS s e 1) (rawE s e 1) (num (rawT s e 1))
def tsO (s : ByteArray) (e : Int) : Sg := if (tsS s e).2 = 0 then tgL (rawS s e 1) (rawE s e 1) (num (rawT s e 1)) else []
theorem tsigsW {s : ByteArray} {e : Int} : fnVC CT mQTakeSigs [.ptr 1 0] ⟨[(1, some (rdO s e))], x⟩ 2 fun v H' n' => Sub 2 ⟨[(0, .sl 2 0 (tsO s e).length 2)], ⟨[(1, some (rdO (tsS s e).1 (tsS s e).2)), (2, some ⟨true, .pl (sgP (tsO s e))⟩)], x⟩, 3⟩ ⟨[(0, v)], H', n'⟩ := by
  unfold mQTakeSigs
  simp -implicitDefEqProofs only [↓fnVC, initTm]
  simp -implicitDefEqProofs only [go_sem]
  refine at_call tRByte (byteS (i := 1) (s := s) (e := e) (by rfl) (by decide)) ?_
  unfold tsO tsS
  have hk := num1_lt (s := s) (e := e)
  generalize num (rawT s e 1) = k at hk ⊢
  generalize rawS s e 1 = s1
  generalize rawE s e 1 = e1
  simp -implicitDefEqProofs only [go_sem]
  refine loop_fam (fun (j : Nat) => j ≤ k) (fun j => ⟨[(0, .ptr 1 0), (3, .sl 2 0 j 2), (6, .v (.int .i64 (k : Nat))), (7, .v (.int .i64 j))], ⟨[(1, some (rdO (tgSt s1 e1 j).1 (tgSt s1 e1 j).2)), (2, some ⟨true, .pl (sgP (tgL s1 e1 j))⟩)], x⟩, 3⟩) (fun j => k - j) 0 (Nat.zero_le _) ?_ ?_
  · refine sub_mk [(2, 0)] rfl rfl rfl ?_
    simp only [tmSub, hpSub, objSub, eqTm, eqHp, rn, lk, SV.ren, SV.renC, SV.renB, SV.renA, ren_ints, ren_strs, ren_pl, ren_svs, SV.v.injEq, Value.int.injEq, Body.ints.injEq, SV.ptr.injEq, SV.sl.injEq, Value.string.injEq, Value.bool.injEq, List.map_cons, List.map_nil, forall_const, Nat.reduceLT, Nat.lt_add_one, imp_self, true_and, and_true, and_self, ob_some, get_mk, lk_cons, ↓reduceIte, Nat.reduceEqDiff, ne_eq, not_true_eq_false, not_false_eq_true, Nat.one_ne_zero, Nat.zero_ne_one, Nat.succ_ne_self, Nat.reduceAdd, Bool.false_eq_true, false_implies, implies_true, reduceCtorEq, tgSt, tgL, rdO]
    exact ⟨rfl, rfl⟩
  · intro j hj
    have hjl := tgL_len (s := s1) (e := e1) (j := j)
    have hpl := sgP_len (tgL s1 e1 j)
    simp -implicitDefEqProofs only [go_sem]
    refine condK_bb (fun c => ?_) (fun c => ?_)
    · have c1 : j < k := by have := of_decide_eq_true c; omega
      have w4 : IntKind.i64.wrap ((j : Int) + 1) = ((j + 1 : Nat) : Int) := by rw [wrap_i64 (by omega) (by omega)]; omega
      have hN : tgSt s1 e1 (j + 1) = (txR (rawS (tgSt s1 e1 j).1 (tgSt s1 e1 j).2 32) (rawE (tgSt s1 e1 j).1 (tgSt s1 e1 j).2 32)).2 := rfl
      have hL : sgP (tgL s1 e1 (j + 1)) = sgP (tgL s1 e1 j) ++ [.string (rawT (tgSt s1 e1 j).1 (tgSt s1 e1 j).2 32), .string (txR (rawS (tgSt s1 e1 j).1 (tgSt s1 e1 j).2 32) (rawE (tgSt s1 e1 j).1 (tgSt s1 e1 j).2 32)).1] := by rw [tgL, sgP_app]; rfl
      obtain ⟨s2, hs2⟩ : ∃ q, q = (tgSt s1 e1 j).1 := ⟨_, rfl⟩
      obtain ⟨e2, he2⟩ : ∃ q, q = (tgSt s1 e1 j).2 := ⟨_, rfl⟩
      rw [← hs2, ← he2] at hN hL ⊢
      have hT : (sgP (tgL s1 e1 j)).take (j * 2) = sgP (tgL s1 e1 j) := List.take_of_length_le (by omega)
      simp -implicitDefEqProofs only [go_sem, c]
      refine at_call tRHash (hashSp (i := 1) (s := s2) (e := e2) (by rfl) (by decide)) ?_
      simp -implicitDefEqProofs only [go_sem]
      refine at_call tRText (textS (i := 1) (s := rawS s2 e2 32) (e := rawE s2 e2 32) (by rfl) (by decide)) ?_
      simp -implicitDefEqProofs only [go_sem, spA, spB, spC, tk2, hT]
      refine ⟨by omega, by omega, by omega, ?_⟩
      refine kLoop_mk (j + 1) (by omega) (by omega) ?_
      refine sub_mk [(2, 4)] rfl rfl rfl ?_
      simp only [tmSub, hpSub, objSub, eqTm, eqHp, rn, lk, SV.ren, SV.renC, SV.renB, SV.renA, ren_ints, ren_strs, ren_pl, ren_svs, SV.v.injEq, Value.int.injEq, Body.ints.injEq, SV.ptr.injEq, SV.sl.injEq, Value.string.injEq, Value.bool.injEq, List.map_cons, List.map_nil, forall_const, Nat.reduceLT, Nat.lt_add_one, imp_self, true_and, and_true, and_self, ob_some, get_mk, lk_cons, ↓reduceIte, Nat.reduceEqDiff, ne_eq, not_true_eq_false, not_false_eq_true, Nat.one_ne_zero, Nat.zero_ne_one, Nat.succ_ne_self, Nat.reduceAdd, Bool.false_eq_true, false_implies, implies_true, reduceCtorEq, w4, hN, hL, rdO]
    · have c1 : j = k := by have := of_decide_eq_false c; omega
      subst c1
      obtain ⟨s3, hs3⟩ : ∃ q, q = (tgSt s1 e1 j).1 := ⟨_, rfl⟩
      obtain ⟨e3, he3⟩ : ∃ q, q = (tgSt s1 e1 j).2 := ⟨_, rfl⟩
      rw [← hs3, ← he3]
      simp -implicitDefEqProofs only [go_sem, c]
      refine at_call tRErr (errS (i := 1) (s := s3) (e := e3) (by rfl)) ?_
      by_cases hz : e3 = 0
      · have d1 : decide (e3 = 0) = true := decide_eq_true hz
        rw [if_pos hz, hjl]
        simp -implicitDefEqProofs only [go_sem, d1]
        refine sub_mk [] rfl rfl rfl ?_
        simp only [tmSub, hpSub, objSub, eqTm, eqHp, rn, lk, SV.ren, SV.renC, SV.renB, SV.renA, ren_ints, ren_strs, ren_pl, ren_svs, SV.v.injEq, Value.int.injEq, Body.ints.injEq, SV.ptr.injEq, SV.sl.injEq, Value.string.injEq, Value.bool.injEq, List.map_cons, List.map_nil, forall_const, Nat.reduceLT, Nat.lt_add_one, imp_self, true_and, and_true, and_self, ob_some, get_mk, lk_cons, ↓reduceIte, Nat.reduceEqDiff, ne_eq, not_true_eq_false, not_false_eq_true, Nat.one_ne_zero, Nat.zero_ne_one, Nat.succ_ne_self, Nat.reduceAdd, Bool.false_eq_true, false_implies, implies_true, reduceCtorEq, rdO]
      · have d1 : decide (e3 = 0) = false := decide_eq_false hz
        rw [if_neg hz]
        simp -implicitDefEqProofs only [go_sem, d1]
        refine sub_mk [(2, 0)] rfl rfl rfl ?_
        simp only [tmSub, hpSub, objSub, eqTm, eqHp, rn, lk, SV.ren, SV.renC, SV.renB, SV.renA, ren_ints, ren_strs, ren_pl, ren_svs, SV.v.injEq, Value.int.injEq, Body.ints.injEq, SV.ptr.injEq, SV.sl.injEq, Value.string.injEq, Value.bool.injEq, List.map_cons, List.map_nil, forall_const, Nat.reduceLT, Nat.lt_add_one, imp_self, true_and, and_true, and_self, ob_some, get_mk, lk_cons, ↓reduceIte, Nat.reduceEqDiff, ne_eq, not_true_eq_false, not_false_eq_true, Nat.one_ne_zero, Nat.zero_ne_one, Nat.succ_ne_self, Nat.reduceAdd, Bool.false_eq_true, false_implies, implies_true, reduceCtorEq, rdO]
        rfl
theorem tsigsS {s : ByteArray} {e : Int} {i : Nat} (hg : H.get i = some (rdO s e)) (hi : 0 < i ∧ i < 1000) (hn : n + 1 ≤ 1000) :
    SpecAt Tryz.prog nQTakeSigs [.ptr i 0] H n (.sl n 0 (tsO s e).length 2) ⟨(i, some (rdO (tsS s e).1 (tsS s e).2)) :: (n, some ⟨true, .pl (sgP (tsO s e))⟩) :: H.l, H.x⟩ (n + 1) := by
  have := lift (n := n) (okT.spec tQTakeSigs (tsigsW (x := H.x) (s := s) (e := e))) [(1, i)] rfl rfl rfl (by omega) rfl rfl
    ⟨sub_wr rfl hi.1 hi.2 hg rfl, trivial⟩ (by simp [apartB, apart1, rn, lk]) (by simp [wrNZ, rn, lk]; omega) (by omega)
  exact this
theorem rtsigsW {s : ByteArray} {e : Int} : fnVC CT mrQTakeSigs [.ptr 1 0] ⟨[(1, some (rdO s e))], x⟩ 2 fun v H' n' => Sub 2 ⟨[(0, .sl 2 0 (tsO s e).length 2)], ⟨[(1, some (rdO (tsS s e).1 (tsS s e).2)), (2, some ⟨true, .pl (sgP (tsO s e))⟩)], x⟩, 3⟩ ⟨[(0, v)], H', n'⟩ := by
  unfold mrQTakeSigs
  simp -implicitDefEqProofs only [↓fnVC, initTm]
  simp -implicitDefEqProofs only [go_sem]
  refine at_call trRNumber (rnumSp (i := 1) (s := s) (e := e) (k := 1) (by rfl) (by decide) (by decide)) ?_
  unfold tsO tsS
  have hk := num1_lt (s := s) (e := e)
  generalize num (rawT s e 1) = k at hk ⊢
  generalize rawS s e 1 = s1
  generalize rawE s e 1 = e1
  simp -implicitDefEqProofs only [go_sem]
  refine loop_fam (fun (j : Nat) => j ≤ k) (fun j => ⟨[(0, .ptr 1 0), (3, .sl 2 0 j 2), (4, .v (.int .i64 (k : Nat))), (5, .v (.int .i64 j))], ⟨[(1, some (rdO (tgSt s1 e1 j).1 (tgSt s1 e1 j).2)), (2, some ⟨true, .pl (sgP (tgL s1 e1 j))⟩)], x⟩, 3⟩) (fun j => k - j) 0 (Nat.zero_le _) ?_ ?_
  · refine sub_mk [(2, 0)] rfl rfl rfl ?_
    simp only [tmSub, hpSub, objSub, eqTm, eqHp, rn, lk, SV.ren, SV.renC, SV.renB, SV.renA, ren_ints, ren_strs, ren_pl, ren_svs, SV.v.injEq, Value.int.injEq, Body.ints.injEq, SV.ptr.injEq, SV.sl.injEq, Value.string.injEq, Value.bool.injEq, List.map_cons, List.map_nil, forall_const, Nat.reduceLT, Nat.lt_add_one, imp_self, true_and, and_true, and_self, ob_some, get_mk, lk_cons, ↓reduceIte, Nat.reduceEqDiff, ne_eq, not_true_eq_false, not_false_eq_true, Nat.one_ne_zero, Nat.zero_ne_one, Nat.succ_ne_self, Nat.reduceAdd, Bool.false_eq_true, false_implies, implies_true, reduceCtorEq, tgSt, tgL, rdO]
    exact ⟨rfl, rfl⟩
  · intro j hj
    have hjl := tgL_len (s := s1) (e := e1) (j := j)
    have hpl := sgP_len (tgL s1 e1 j)
    simp -implicitDefEqProofs only [go_sem]
    refine condK_bb (fun c => ?_) (fun c => ?_)
    · have c1 : j < k := by have := of_decide_eq_true c; omega
      have w4 : IntKind.i64.wrap ((j : Int) + 1) = ((j + 1 : Nat) : Int) := by rw [wrap_i64 (by omega) (by omega)]; omega
      have hN : tgSt s1 e1 (j + 1) = (txR (rawS (tgSt s1 e1 j).1 (tgSt s1 e1 j).2 32) (rawE (tgSt s1 e1 j).1 (tgSt s1 e1 j).2 32)).2 := rfl
      have hL : sgP (tgL s1 e1 (j + 1)) = sgP (tgL s1 e1 j) ++ [.string (rawT (tgSt s1 e1 j).1 (tgSt s1 e1 j).2 32), .string (txR (rawS (tgSt s1 e1 j).1 (tgSt s1 e1 j).2 32) (rawE (tgSt s1 e1 j).1 (tgSt s1 e1 j).2 32)).1] := by rw [tgL, sgP_app]; rfl
      obtain ⟨s2, hs2⟩ : ∃ q, q = (tgSt s1 e1 j).1 := ⟨_, rfl⟩
      obtain ⟨e2, he2⟩ : ∃ q, q = (tgSt s1 e1 j).2 := ⟨_, rfl⟩
      rw [← hs2, ← he2] at hN hL ⊢
      have hT : (sgP (tgL s1 e1 j)).take (j * 2) = sgP (tgL s1 e1 j) := List.take_of_length_le (by omega)
      simp -implicitDefEqProofs only [go_sem, c]
      refine at_call trRRaw (rrawSp (i := 1) (s := s2) (e := e2) (k := 32) (by rfl) (by decide) (by decide)) ?_
      simp -implicitDefEqProofs only [go_sem]
      refine at_call trRText (rtextS (i := 1) (s := rawS s2 e2 32) (e := rawE s2 e2 32) (by rfl) (by decide)) ?_
      simp -implicitDefEqProofs only [go_sem, spA, spB, spC, tk2, hT]
      refine ⟨by omega, by omega, by omega, ?_⟩
      refine kLoop_mk (j + 1) (by omega) (by omega) ?_
      refine sub_mk [(2, 4)] rfl rfl rfl ?_
      simp only [tmSub, hpSub, objSub, eqTm, eqHp, rn, lk, SV.ren, SV.renC, SV.renB, SV.renA, ren_ints, ren_strs, ren_pl, ren_svs, SV.v.injEq, Value.int.injEq, Body.ints.injEq, SV.ptr.injEq, SV.sl.injEq, Value.string.injEq, Value.bool.injEq, List.map_cons, List.map_nil, forall_const, Nat.reduceLT, Nat.lt_add_one, imp_self, true_and, and_true, and_self, ob_some, get_mk, lk_cons, ↓reduceIte, Nat.reduceEqDiff, ne_eq, not_true_eq_false, not_false_eq_true, Nat.one_ne_zero, Nat.zero_ne_one, Nat.succ_ne_self, Nat.reduceAdd, Bool.false_eq_true, false_implies, implies_true, reduceCtorEq, w4, hN, hL, rdO]
    · have c1 : j = k := by have := of_decide_eq_false c; omega
      subst c1
      obtain ⟨s3, hs3⟩ : ∃ q, q = (tgSt s1 e1 j).1 := ⟨_, rfl⟩
      obtain ⟨e3, he3⟩ : ∃ q, q = (tgSt s1 e1 j).2 := ⟨_, rfl⟩
      rw [← hs3, ← he3]
      simp -implicitDefEqProofs only [go_sem, c]
      unfold rdO
      simp -implicitDefEqProofs only [go_sem]
      by_cases hz : e3 = 0
      · have d1 : decide (e3 = 0) = true := decide_eq_true hz
        rw [if_pos hz, hjl]
        simp -implicitDefEqProofs only [go_sem, d1]
        refine sub_mk [] rfl rfl rfl ?_
        simp only [tmSub, hpSub, objSub, eqTm, eqHp, rn, lk, SV.ren, SV.renC, SV.renB, SV.renA, ren_ints, ren_strs, ren_pl, ren_svs, SV.v.injEq, Value.int.injEq, Body.ints.injEq, SV.ptr.injEq, SV.sl.injEq, Value.string.injEq, Value.bool.injEq, List.map_cons, List.map_nil, forall_const, Nat.reduceLT, Nat.lt_add_one, imp_self, true_and, and_true, and_self, ob_some, get_mk, lk_cons, ↓reduceIte, Nat.reduceEqDiff, ne_eq, not_true_eq_false, not_false_eq_true, Nat.one_ne_zero, Nat.zero_ne_one, Nat.succ_ne_self, Nat.reduceAdd, Bool.false_eq_true, false_implies, implies_true, reduceCtorEq, rdO]
      · have d1 : decide (e3 = 0) = false := decide_eq_false hz
        rw [if_neg hz]
        simp -implicitDefEqProofs only [go_sem, d1]
        refine sub_mk [(2, 0)] rfl rfl rfl ?_
        simp only [tmSub, hpSub, objSub, eqTm, eqHp, rn, lk, SV.ren, SV.renC, SV.renB, SV.renA, ren_ints, ren_strs, ren_pl, ren_svs, SV.v.injEq, Value.int.injEq, Body.ints.injEq, SV.ptr.injEq, SV.sl.injEq, Value.string.injEq, Value.bool.injEq, List.map_cons, List.map_nil, forall_const, Nat.reduceLT, Nat.lt_add_one, imp_self, true_and, and_true, and_self, ob_some, get_mk, lk_cons, ↓reduceIte, Nat.reduceEqDiff, ne_eq, not_true_eq_false, not_false_eq_true, Nat.one_ne_zero, Nat.zero_ne_one, Nat.succ_ne_self, Nat.reduceAdd, Bool.false_eq_true, false_implies, implies_true, reduceCtorEq, rdO]
        rfl
theorem rtsigsS {s : ByteArray} {e : Int} {i : Nat} (hg : H.get i = some (rdO s e)) (hi : 0 < i ∧ i < 1000) (hn : n + 1 ≤ 1000) :
    SpecAt Tryz.prog nrQTakeSigs [.ptr i 0] H n (.sl n 0 (tsO s e).length 2) ⟨(i, some (rdO (tsS s e).1 (tsS s e).2)) :: (n, some ⟨true, .pl (sgP (tsO s e))⟩) :: H.l, H.x⟩ (n + 1) := by
  have := lift (n := n) (okT.spec trQTakeSigs (rtsigsW (x := H.x) (s := s) (e := e))) [(1, i)] rfl rfl rfl (by omega) rfl rfl
    ⟨sub_wr rfl hi.1 hi.2 hg rfl, trivial⟩ (by simp [apartB, apart1, rn, lk]) (by simp [wrNZ, rn, lk]; omega) (by omega)
  exact this
end
section
/- Signatures that are the same. -/
set_option linter.unusedVariables false
set_option linter.unusedSimpArgs false
set_option maxRecDepth 100000
open Go.Proofs
variable {H : Hp} {n : Nat} {x : Nat → Option SO}
theorem HRel.conv {F : Nat → Prop} {w0 w : World} {ρ : Nat → Loc} {H H2 : Hp} (hx : H2.x = H.x) (h : ∀ i s, H2.get i = some s → ∃ s', H.get i = some s' ∧ s'.wr = s.wr ∧ (∀ ρ w l, ObjOK ρ w l s' → ObjOK ρ w l s) ∧ ∀ n, s'.b.lt n = true → s.b.lt n = true)
    (hl : ∀ i, 1000 ≤ i → lk H.l i = none → lk H2.l i = none) (hH : HRel F w0 ρ n H w) : HRel F w0 ρ n H2 w where
  os := hH.os
  tape := hH.tape
  output := hH.output
  size := hH.size
  keep := hH.keep
  old := hH.old
  nil := hH.nil
  pos := hH.pos
  obj := fun i s hs => by obtain ⟨s', h1, h2, h3, h4⟩ := h i s hs; exact h3 _ _ _ (hH.obj i s' h1)
  lt := fun i s hs => by obtain ⟨s', h1, h2, h3, h4⟩ := h i s hs; exact ⟨(hH.lt i s' h1).1, h4 _ (hH.lt i s' h1).2⟩
  own := fun i s b hs hw => by obtain ⟨s', h1, h2, h3, h4⟩ := h i s hs; exact hH.own i s' b h1 (h2.trans hw)
  inj := fun i j s t b hij hs ht hw => by
    obtain ⟨s', h1, h2, h3, h4⟩ := h i s hs
    obtain ⟨t', g1, g2, g3, g4⟩ := h j t ht
    exact hH.inj i j s' t' b hij h1 g1 (h2.trans hw)
  live := fun i s b hs => by obtain ⟨s', h1, h2, h3, h4⟩ := h i s hs; exact hH.live i s' b h1
  xok := fun i s hs => by
    rw [hx] at hs
    obtain ⟨q1, q2, q3, q4⟩ := hH.xok i s hs
    exact ⟨q1, q2, q3, hl i q1 q4⟩
  shp := hH.shp
  shk := hH.shk
  gl := hH.gl
def svP (l : Sg) : List SV := (sgP l).map .v
theorem svP_len (l : Sg) : (svP l).length = 2 * l.length := by unfold svP; rw [List.length_map, sgP_len]
theorem svP_at {l : Sg} {j : Nat} (h : j < l.length) : ((svP l).drop (2 * j)).take 2 = [.v (.string (l.getD j gE).1), .v (.string (l.getD j gE).2)] := by
  unfold svP; rw [← List.map_drop, ← List.map_take, sgP_at h]; rfl
theorem svP_ren (l : Sg) (π : List (Nat × Nat)) : (svP l).map (SV.renB π) = svP l := by
  unfold svP; rw [List.map_map]; rfl
theorem svP_lt (l : Sg) (n : Nat) : (svP l).all (ltB n) = true := by
  unfold svP; rw [List.all_eq_true]; intro q hq; obtain ⟨y, _, rfl⟩ := List.mem_map.1 hq; rfl
theorem ssigsW {l : Sg} (hm : l.length ≤ 10000000) : fnVC CT mSameSigs [.sl 1 0 l.length 2, .sl 2 0 l.length 2] ⟨[(1, some ⟨false, .sv (svP l)⟩), (2, some ⟨false, .sv (svP l)⟩)], x⟩ 3 fun v H' n' => Sub 3 ⟨[(0, .v (.bool true))], ⟨[], x⟩, 3⟩ ⟨[(0, v)], H', n'⟩ := by
  unfold mSameSigs
  obtain ⟨m, hmm⟩ : ∃ m, m = l.length := ⟨_, rfl⟩
  have hpl := svP_len l
  rw [← hmm] at hm hpl ⊢
  have g0 : decide ((m : Int) = (m : Int)) = true := decide_eq_true rfl
  simp -implicitDefEqProofs only [↓fnVC, initTm]
  simp -implicitDefEqProofs only [go_sem, g0]
  refine loop_fam (fun (j : Nat) => j ≤ m) (fun j => ⟨[(0, .sl 1 0 m 2), (1, .sl 2 0 m 2), (5, .v (.int .i64 j))], ⟨[(1, some ⟨false, .sv (svP l)⟩), (2, some ⟨false, .sv (svP l)⟩)], x⟩, 3⟩) (fun j => m - j) 0 (Nat.zero_le _) ?_ ?_
  · refine sub_mk [] rfl rfl ?_ ?_
    · simp [apartB, apart1, rn, lk, wfHp, wfTm, Body.lt, svP_lt, ltT, ltC, ltB, ltA, idOK]
    simp only [tmSub, hpSub, objSub, eqTm, eqHp, rn, lk, SV.ren, SV.renC, SV.renB, SV.renA, ren_ints, ren_strs, ren_pl, ren_svs, SV.v.injEq, Value.int.injEq, Body.ints.injEq, SV.ptr.injEq, SV.sl.injEq, Value.string.injEq, Value.bool.injEq, List.map_cons, List.map_nil, forall_const, Nat.reduceLT, Nat.lt_add_one, imp_self, true_and, and_true, and_self, ob_some, get_mk, lk_cons, ↓reduceIte, Nat.reduceEqDiff, ne_eq, not_true_eq_false, not_false_eq_true, Nat.one_ne_zero, Nat.zero_ne_one, Nat.succ_ne_self, Nat.reduceAdd, Bool.false_eq_true, false_implies, implies_true, reduceCtorEq, svP_ren]
    rfl
  · intro j hj
    simp -implicitDefEqProofs only [go_sem]
    refine condK_bb (fun c => ?_) (fun c => ?_)
    · have c1 : j < m := by have := of_decide_eq_true c; omega
      have w4 : IntKind.i64.wrap ((j : Int) + 1) = ((j + 1 : Nat) : Int) := by rw [wrap_i64 (by omega) (by omega)]; omega
      have g1 := svP_at (l := l) (j := j) (by omega)
      have q1 := seq_self (l.getD j gE).1
      have q2 := seq_self (l.getD j gE).2
      rw [Nat.mul_comm] at g1
      simp -implicitDefEqProofs only [go_sem, c, g1, w4, q1, q2]
      refine ⟨⟨by omega, by omega⟩, by omega, ⟨by omega, by omega⟩, by omega, ?_⟩
      refine kLoop_mk (j + 1) (by omega) (by omega) ?_
      refine sub_mk [] rfl rfl (by simp [apartB, apart1, rn, lk, wfHp, wfTm, Body.lt, svP_lt, ltT, ltC, ltB, ltA, idOK]) ?_
      simp only [tmSub, hpSub, objSub, eqTm, eqHp, rn, lk, SV.ren, SV.renC, SV.renB, SV.renA, ren_ints, ren_strs, ren_pl, ren_svs, SV.v.injEq, Value.int.injEq, Body.ints.injEq, SV.ptr.injEq, SV.sl.injEq, Value.string.injEq, Value.bool.injEq, List.map_cons, List.map_nil, forall_const, Nat.reduceLT, Nat.lt_add_one, imp_self, true_and, and_true, and_self, ob_some, get_mk, lk_cons, ↓reduceIte, Nat.reduceEqDiff, ne_eq, not_true_eq_false, not_false_eq_true, Nat.one_ne_zero, Nat.zero_ne_one, Nat.succ_ne_self, Nat.reduceAdd, Bool.false_eq_true, false_implies, implies_true, reduceCtorEq, w4, svP_ren]
    · have c1 : j = m := by have := of_decide_eq_false c; omega
      subst c1
      simp -implicitDefEqProofs only [go_sem, c]
      exact sub_val rfl (by decide) (by decide) rfl
theorem ssigsS {l : Sg} {a b : Nat} {u1 u2 : Bool} (h3 : H.get a = some ⟨u1, .pl (sgP l)⟩) (h4 : H.get b = some ⟨u2, .pl (sgP l)⟩) (ne : (0 < a ∧ a < 1000) ∧ (0 < b ∧ b < 1000)) (hm : l.length ≤ 10000000) :
    SpecAt Tryz.prog nSameSigs [.sl a 0 l.length 2, .sl b 0 l.length 2] H n (.v (.bool true)) H n := by
  obtain ⟨H2, hH2⟩ : ∃ H2 : Hp, H2 = ⟨(a, some ⟨u1, .sv (svP l)⟩) :: (b, some ⟨u2, .sv (svP l)⟩) :: H.l, H.x⟩ := ⟨_, rfl⟩
  have ga : H2.get a = some ⟨u1, .sv (svP l)⟩ := by rw [hH2]; simp [Hp.get, lk]
  have gb : ∃ u, H2.get b = some ⟨u, .sv (svP l)⟩ := by
    by_cases e : a = b
    · exact ⟨u1, e ▸ ga⟩
    · exact ⟨u2, by rw [hH2]; simp [Hp.get, lk, e]⟩
  have go : ∀ i, i ≠ a → i ≠ b → H2.get i = H.get i := fun i h1 h2 => by rw [hH2]; simp [Hp.get, lk, Ne.symm h1, Ne.symm h2]
  obtain ⟨ub, gb⟩ := gb
  have := lift_ro (n := n) (H := H2) (lc := [(1, some ⟨false, .sv (svP l)⟩), (2, some ⟨false, .sv (svP l)⟩)]) (okT.spec tSameSigs (ssigsW (x := H2.x) hm)) [(1, a), (2, b)] rfl rfl rfl (by omega) (by simp [wfHp, Body.lt, svP_lt]) rfl
    ⟨sub_ro rfl ne.1.1 ga (by simp only [Body.ren, svP_ren]), sub_ro rfl ne.2.1 gb (by simp only [Body.ren, svP_ren]), trivial⟩ (by simp [apartB, apart1, rn, lk]) (by simp [wrNZ, rn, lk]) rfl
  have ob1 : ∀ u (ρ : Nat → Loc) w q, ObjOK ρ w q ⟨u, .pl (sgP l)⟩ ↔ ObjOK ρ w q ⟨u, .sv (svP l)⟩ := fun _ _ _ _ => Iff.rfl
  have gb' : ub = u2 ∨ b = a := by
    by_cases e : b = a
    · exact .inr e
    · refine .inl ?_
      rw [hH2] at gb
      simp [Hp.get, lk, Ne.symm e] at gb
      exact gb.symm
  intro F w0 w ρ xs hH h1 h2
  have hh := this F w0 w ρ xs (hH.conv (by rw [hH2]) (fun i s hs => by
    by_cases e1 : i = a
    · subst e1
      rw [ga] at hs; cases hs
      exact ⟨_, h3, rfl, fun ρ w q => (ob1 _ ρ w q).1, fun n _ => svP_lt l n⟩
    by_cases e2 : i = b
    · subst e2
      have : ub = u2 := gb'.resolve_right e1
      subst this
      rw [gb] at hs; cases hs
      exact ⟨_, h4, rfl, fun ρ w q => (ob1 _ ρ w q).1, fun n _ => svP_lt l n⟩
    rw [go i e1 e2] at hs
    exact ⟨s, hs, rfl, fun _ _ _ h => h, fun _ h => h⟩) (fun i hi hl => by rw [hH2]; simp only [lk]; rw [if_neg (by omega), if_neg (by omega)]; exact hl)) h1 h2
  refine hh.mono ?_
  rintro e w' ⟨v, ρ', q1, q2, q3, q4, q5, q6⟩
  refine ⟨v, ρ', q1, q2, q3, q4.conv (by rw [hH2]) (fun i s hs => ?_) (fun i hi hl => ?_), q5, q6⟩
  · by_cases e1 : i = a
    · subst e1
      rw [h3] at hs; cases hs
      exact ⟨_, ga, rfl, fun ρ w q => (ob1 _ ρ w q).2, fun n _ => rfl⟩
    by_cases e2 : i = b
    · subst e2
      have : ub = u2 := gb'.resolve_right e1
      subst this
      rw [h4] at hs; cases hs
      exact ⟨_, gb, rfl, fun ρ w q => (ob1 _ ρ w q).2, fun n _ => rfl⟩
    rw [← go i e1 e2] at hs
    exact ⟨s, hs, rfl, fun _ _ _ h => h, fun _ h => h⟩
  · rw [hH2] at hl
    simp only [lk] at hl
    split at hl
    · cases hl
    · split at hl
      · cases hl
      · exact hl
end
section
/- Writers: bytes and texts, on both sides. -/
set_option linter.unusedVariables false
set_option linter.unusedSimpArgs false
set_option maxRecDepth 100000
open Go.Proofs
variable {H : Hp} {n : Nat} {x : Nat → Option SO}
def nuB (y k : Nat) : List Int := if y < 256 ^ k then be y k else []
def nuX (y k : Nat) : Bool := decide (¬ y < 256 ^ k)
theorem nuB_len {y k : Nat} : (nuB y k).length ≤ k := by unfold nuB; split <;> simp [be_len]
theorem pnumW {y k : Nat} {bs : List Int} {bad : Bool} (hk0 : 0 < k) (hk : k ≤ 8) (h8 : k < 8) (hy : y < 9223372036854775808) (hb : bs.length ≤ 1099511627776) :
    fnVC CT mWNumber [.ptr 1 0, .v (.int .i64 y), .v (.int .i64 k)] ⟨[(1, some (wrO 2 bs.length bad)), (2, some ⟨true, .ints .u8 bs⟩)], x⟩ 3 fun v H' n' => Sub 3 ⟨[(0, .tup [])], ⟨[(1, some (wrO 3 (bs ++ nuB y k).length (bad || nuX y k))), (2, none), (3, some ⟨true, .ints .u8 (bs ++ nuB y k)⟩)], x⟩, 4⟩ ⟨[(0, v)], H', n'⟩ := by
  by_cases h : y < 256 ^ k
  · have e1 : nuB y k = be y k := if_pos h
    have e2 : nuX y k = false := decide_eq_false (fun q => q h)
    rw [e1, e2, Bool.or_false]
    exact wNumW hk hy (fun _ => h) hb
  · have e1 : nuB y k = [] := if_neg h
    have e2 : nuX y k = true := decide_eq_true h
    rw [e1, e2, Bool.or_true, List.append_nil]
    have g1 : decide ((y : Int) < 0) = false := decide_eq_false (by omega)
    have g3 : decide ((k : Int) < 8) = true := decide_eq_true (by omega)
    have w1 : IntKind.i64.wrap (8 * (k : Int)) = ((8 * k : Nat) : Int) := by rw [wrap_i64 (by omega) (by omega)]; omega
    have s1 : ishr .i64 (y : Int) ((8 * k : Nat) : Int) = ((y / 256 ^ k : Nat) : Int) := by rw [ishr_i (by omega), pow256]
    have g2 : decide (((y / 256 ^ k : Nat) : Int) = 0) = false := decide_eq_false (by
      have := Nat.div_pos (a := y) (b := 256 ^ k) (by omega) (Nat.pow_pos (by decide)); omega)
    unfold mWNumber wrO
    simp -implicitDefEqProofs only [↓fnVC, initTm]
    simp -implicitDefEqProofs only [go_sem, g1, g3, w1, s1, g2]
    refine ⟨by omega, ?_⟩
    refine sub_mk [(3, 2)] rfl rfl rfl ?_
    simp only [tmSub, hpSub, objSub, eqTm, eqHp, rn, lk, SV.ren, SV.renC, SV.renB, SV.renA, ren_ints, ren_strs, ren_pl, ren_svs, SV.v.injEq, Value.int.injEq, Body.ints.injEq, SV.ptr.injEq, SV.sl.injEq, Value.string.injEq, Value.bool.injEq, List.map_cons, List.map_nil, forall_const, Nat.reduceLT, Nat.lt_add_one, imp_self, true_and, and_true, and_self, ob_some, get_mk, lk_cons, ↓reduceIte, Nat.reduceEqDiff, ne_eq, not_true_eq_false, not_false_eq_true, Nat.one_ne_zero, Nat.zero_ne_one, Nat.succ_ne_self, Nat.reduceAdd, Bool.false_eq_true, false_implies, implies_true, reduceCtorEq]
theorem pnumS {i r y k : Nat} {bs : List Int} {bad : Bool} (hg : H.get i = some (wrO r bs.length bad)) (hr : H.get r = some ⟨true, .ints .u8 bs⟩) (hi : 0 < i ∧ i < 1000) (hr1 : 0 < r ∧ r < 1000) (hne : i ≠ r) (hn : n + 1 ≤ 1000)
    (hk0 : 0 < k) (hk : k ≤ 8) (h8 : k < 8) (hy : y < 9223372036854775808) (hb : bs.length ≤ 1099511627776) :
    SpecAt Tryz.prog nWNumber [.ptr i 0, .v (.int .i64 y), .v (.int .i64 k)] H n (.tup []) ⟨(i, some (wrO n (bs ++ nuB y k).length (bad || nuX y k))) :: (r, none) :: (n, some ⟨true, .ints .u8 (bs ++ nuB y k)⟩) :: H.l, H.x⟩ (n + 1) := by
  have := lift (n := n) (okT.spec tWNumber (pnumW (x := H.x) hk0 hk h8 hy hb)) [(1, i), (2, r)] rfl rfl rfl (by omega) rfl rfl
    ⟨sub_wr rfl hi.1 hi.2 hg rfl, sub_wr rfl hr1.1 hr1.2 hr rfl, trivial⟩ (by simp [apartB, apart1, rn, lk, hne, Ne.symm hne]) (by simp [wrNZ, rn, lk]; omega) (by omega)
  exact this
theorem dnumW {y k : Nat} {bs : List Int} {bad : Bool} (hk0 : 0 < k) (hk : k ≤ 8) (h8 : k < 8) (hy : y < 9223372036854775808) (hb : bs.length ≤ 1099511627776) :
    fnVC CT mrWNumber [.ptr 1 0, .v (.int .i64 y), .v (.int .i64 k)] ⟨[(1, some (wrO 2 bs.length bad)), (2, some ⟨true, .ints .u8 bs⟩)], x⟩ 3 fun v H' n' => Sub 3 ⟨[(0, .tup [])], ⟨[(1, some (wrO 3 (bs ++ nuB y k).length (bad || nuX y k))), (2, none), (3, some ⟨true, .ints .u8 (bs ++ nuB y k)⟩)], x⟩, 4⟩ ⟨[(0, v)], H', n'⟩ := by
  by_cases h : y < 256 ^ k
  · have e1 : nuB y k = be y k := if_pos h
    have e2 : nuX y k = false := decide_eq_false (fun q => q h)
    rw [e1, e2, Bool.or_false]
    exact rwNumW hk0 hk hy (fun _ => h) hb
  · have e1 : nuB y k = [] := if_neg h
    have e2 : nuX y k = true := decide_eq_true h
    rw [e1, e2, Bool.or_true, List.append_nil]
    have g1 : decide ((y : Int) < 0) = false := decide_eq_false (by omega)
    have g3 : decide ((k : Int) < 8) = true := decide_eq_true (by omega)
    have w1 : IntKind.i64.wrap (8 * (k : Int)) = ((8 * k : Nat) : Int) := by rw [wrap_i64 (by omega) (by omega)]; omega
    have s1 := ishl_one h8
    have g2 : decide ((y : Int) ≥ ((256 ^ k : Nat) : Int)) = true := decide_eq_true (by omega)
    unfold mrWNumber wrO
    simp -implicitDefEqProofs only [↓fnVC, initTm]
    simp -implicitDefEqProofs only [go_sem, g1, g3, w1, s1, g2]
    refine ⟨by omega, ?_⟩
    refine sub_mk [(3, 2)] rfl rfl rfl ?_
    simp only [tmSub, hpSub, objSub, eqTm, eqHp, rn, lk, SV.ren, SV.renC, SV.renB, SV.renA, ren_ints, ren_strs, ren_pl, ren_svs, SV.v.injEq, Value.int.injEq, Body.ints.injEq, SV.ptr.injEq, SV.sl.injEq, Value.string.injEq, Value.bool.injEq, List.map_cons, List.map_nil, forall_const, Nat.reduceLT, Nat.lt_add_one, imp_self, true_and, and_true, and_self, ob_some, get_mk, lk_cons, ↓reduceIte, Nat.reduceEqDiff, ne_eq, not_true_eq_false, not_false_eq_true, Nat.one_ne_zero, Nat.zero_ne_one, Nat.succ_ne_self, Nat.reduceAdd, Bool.false_eq_true, false_implies, implies_true, reduceCtorEq]
theorem dnumS {i r y k : Nat} {bs : List Int} {bad : Bool} (hg : H.get i = some (wrO r bs.length bad)) (hr : H.get r = some ⟨true, .ints .u8 bs⟩) (hi : 0 < i ∧ i < 1000) (hr1 : 0 < r ∧ r < 1000) (hne : i ≠ r) (hn : n + 1 ≤ 1000)
    (hk0 : 0 < k) (hk : k ≤ 8) (h8 : k < 8) (hy : y < 9223372036854775808) (hb : bs.length ≤ 1099511627776) :
    SpecAt Tryz.prog nrWNumber [.ptr i 0, .v (.int .i64 y), .v (.int .i64 k)] H n (.tup []) ⟨(i, some (wrO n (bs ++ nuB y k).length (bad || nuX y k))) :: (r, none) :: (n, some ⟨true, .ints .u8 (bs ++ nuB y k)⟩) :: H.l, H.x⟩ (n + 1) := by
  have := lift (n := n) (okT.spec trWNumber (dnumW (x := H.x) hk0 hk h8 hy hb)) [(1, i), (2, r)] rfl rfl rfl (by omega) rfl rfl
    ⟨sub_wr rfl hi.1 hi.2 hg rfl, sub_wr rfl hr1.1 hr1.2 hr rfl, trivial⟩ (by simp [apartB, apart1, rn, lk, hne, Ne.symm hne]) (by simp [wrNZ, rn, lk]; omega) (by omega)
  exact this
theorem pbyteW {bs : List Int} {bad : Bool} {y : Nat} (hy : y < 9223372036854775808) (hb : bs.length ≤ 1099511627776) :
    fnVC CT mWByte [.ptr 1 0, .v (.int .i64 y)] ⟨[(1, some (wrO 2 bs.length bad)), (2, some ⟨true, .ints .u8 bs⟩)], x⟩ 3 fun v H' n' => Sub 3 ⟨[(0, .tup [])], ⟨[(1, some (wrO 3 (bs ++ nuB y 1).length (bad || nuX y 1))), (2, none), (3, some ⟨true, .ints .u8 (bs ++ nuB y 1)⟩)], x⟩, 4⟩ ⟨[(0, v)], H', n'⟩ := by
  unfold mWByte
  simp -implicitDefEqProofs only [↓fnVC, initTm]
  simp -implicitDefEqProofs only [go_sem]
  refine at_call tWNumber (pnumS (i := 1) (r := 2) (y := y) (k := 1) (bs := bs) (bad := bad) (by rfl) (by rfl) (by decide) (by decide) (by decide) (by decide) (by decide) (by decide) (by decide) hy hb) ?_
  simp -implicitDefEqProofs only [go_sem]
  refine sub_mk [] rfl rfl rfl ?_
  simp only [tmSub, hpSub, objSub, eqTm, eqHp, rn, lk, SV.ren, SV.renC, SV.renB, SV.renA, ren_ints, ren_strs, ren_pl, ren_svs, SV.v.injEq, Value.int.injEq, Body.ints.injEq, SV.ptr.injEq, SV.sl.injEq, Value.string.injEq, Value.bool.injEq, List.map_cons, List.map_nil, forall_const, Nat.reduceLT, Nat.lt_add_one, imp_self, true_and, and_true, and_self, ob_some, get_mk, lk_cons, ↓reduceIte, Nat.reduceEqDiff, ne_eq, not_true_eq_false, not_false_eq_true, Nat.one_ne_zero, Nat.zero_ne_one, Nat.succ_ne_self, Nat.reduceAdd, Bool.false_eq_true, false_implies, implies_true, reduceCtorEq, wrO]
theorem pbyteS {i r : Nat} {bs : List Int} {bad : Bool} {y : Nat} (hg : H.get i = some (wrO r bs.length bad)) (hr : H.get r = some ⟨true, .ints .u8 bs⟩) (hi : 0 < i ∧ i < 1000) (hr1 : 0 < r ∧ r < 1000) (hne : i ≠ r) (hn : n + 1 ≤ 1000) (hy : y < 9223372036854775808) (hb : bs.length ≤ 1099511627776) :
    SpecAt Tryz.prog nWByte [.ptr i 0, .v (.int .i64 y)] H n (.tup []) ⟨(i, some (wrO n (bs ++ nuB y 1).length (bad || nuX y 1))) :: (r, none) :: (n, some ⟨true, .ints .u8 (bs ++ nuB y 1)⟩) :: H.l, H.x⟩ (n + 1) := by
  have := lift (n := n) (okT.spec tWByte (pbyteW (x := H.x) hy hb)) [(1, i), (2, r)] rfl rfl rfl (by omega) rfl rfl
    ⟨sub_wr rfl hi.1 hi.2 hg rfl, sub_wr rfl hr1.1 hr1.2 hr rfl, trivial⟩ (by simp [apartB, apart1, rn, lk, hne, Ne.symm hne]) (by simp [wrNZ, rn, lk]; omega) (by omega)
  exact this
theorem ptextW {bs : List Int} {bad : Bool} {t : ByteArray} (ht : t.size ≤ 536870000) (hb : bs.length ≤ 1099511627770) :
    fnVC CT mWText [.ptr 1 0, .v (.string t)] ⟨[(1, some (wrO 2 bs.length bad)), (2, some ⟨true, .ints .u8 bs⟩)], x⟩ 3 fun v H' n' => Sub 3 ⟨[(0, .tup [])], ⟨[(1, some (wrO 3 (bs ++ (nuB t.size 2 ++ bts t)).length (bad || nuX t.size 2))), (2, none), (3, some ⟨true, .ints .u8 (bs ++ (nuB t.size 2 ++ bts t))⟩)], x⟩, 4⟩ ⟨[(0, v)], H', n'⟩ := by
  unfold mWText
  have hl := nuB_len (y := t.size) (k := 2)
  simp -implicitDefEqProofs only [↓fnVC, initTm]
  simp -implicitDefEqProofs only [go_sem]
  refine at_call tWNumber (pnumS (i := 1) (r := 2) (y := t.size) (k := 2) (bs := bs) (bad := bad) (by rfl) (by rfl) (by decide) (by decide) (by decide) (by decide) (by decide) (by decide) (by decide) (by omega) (by omega)) ?_
  unfold wrO
  rw [← List.append_assoc]
  have hc : (bs ++ nuB t.size 2).length ≤ 1099511627776 := by rw [List.length_append]; omega
  generalize bs ++ nuB t.size 2 = cur at hc ⊢
  simp -implicitDefEqProofs only [go_sem]
  refine ⟨by omega, ?_⟩
  refine sub_mk [(3, 4)] rfl rfl rfl ?_
  simp only [tmSub, hpSub, objSub, eqTm, eqHp, rn, lk, SV.ren, SV.renC, SV.renB, SV.renA, ren_ints, ren_strs, ren_pl, ren_svs, SV.v.injEq, Value.int.injEq, Body.ints.injEq, SV.ptr.injEq, SV.sl.injEq, Value.string.injEq, Value.bool.injEq, List.map_cons, List.map_nil, forall_const, Nat.reduceLT, Nat.lt_add_one, imp_self, true_and, and_true, and_self, ob_some, get_mk, lk_cons, ↓reduceIte, Nat.reduceEqDiff, ne_eq, not_true_eq_false, not_false_eq_true, Nat.one_ne_zero, Nat.zero_ne_one, Nat.succ_ne_self, Nat.reduceAdd, Bool.false_eq_true, false_implies, implies_true, reduceCtorEq, wrO, List.length_append, bts_len]
theorem ptextS {i r : Nat} {bs : List Int} {bad : Bool} {t : ByteArray} (hg : H.get i = some (wrO r bs.length bad)) (hr : H.get r = some ⟨true, .ints .u8 bs⟩) (hi : 0 < i ∧ i < 1000) (hr1 : 0 < r ∧ r < 1000) (hne : i ≠ r) (hn : n + 1 ≤ 1000) (ht : t.size ≤ 536870000) (hb : bs.length ≤ 1099511627770) :
    SpecAt Tryz.prog nWText [.ptr i 0, .v (.string t)] H n (.tup []) ⟨(i, some (wrO n (bs ++ (nuB t.size 2 ++ bts t)).length (bad || nuX t.size 2))) :: (r, none) :: (n, some ⟨true, .ints .u8 (bs ++ (nuB t.size 2 ++ bts t))⟩) :: H.l, H.x⟩ (n + 1) := by
  have := lift (n := n) (okT.spec tWText (ptextW (x := H.x) ht hb)) [(1, i), (2, r)] rfl rfl rfl (by omega) rfl rfl
    ⟨sub_wr rfl hi.1 hi.2 hg rfl, sub_wr rfl hr1.1 hr1.2 hr rfl, trivial⟩ (by simp [apartB, apart1, rn, lk, hne, Ne.symm hne]) (by simp [wrNZ, rn, lk]; omega) (by omega)
  exact this
theorem dtextW {bs : List Int} {bad : Bool} {t : ByteArray} (ht : t.size ≤ 536870000) (hb : bs.length ≤ 1099511627770) :
    fnVC CT mrWText [.ptr 1 0, .v (.string t)] ⟨[(1, some (wrO 2 bs.length bad)), (2, some ⟨true, .ints .u8 bs⟩)], x⟩ 3 fun v H' n' => Sub 3 ⟨[(0, .tup [])], ⟨[(1, some (wrO 3 (bs ++ (if t.size < 65536 then be t.size 2 ++ bts t else [])).length (bad || nuX t.size 2))), (2, none), (3, some ⟨true, .ints .u8 (bs ++ (if t.size < 65536 then be t.size 2 ++ bts t else []))⟩)], x⟩, 4⟩ ⟨[(0, v)], H', n'⟩ := by
  unfold mrWText
  by_cases h : t.size < 65536
  · have e2 : nuX t.size 2 = false := decide_eq_false (fun q => q h)
    have g1 : decide ((t.size : Int) > 65535) = false := decide_eq_false (by omega)
    rw [if_pos h, e2, Bool.or_false]
    simp -implicitDefEqProofs only [↓fnVC, initTm]
    simp -implicitDefEqProofs only [go_sem, g1]
    refine at_call trWNumber (rwNumS (i := 1) (r := 2) (y := t.size) (k := 2) (bs := bs) (bad := bad) (by rfl) (by rfl) (by decide) (by decide) (by decide) (by decide) (by decide) (by decide) (by omega) (fun _ => h) (by omega)) ?_
    unfold wrO
    rw [← List.append_assoc]
    have hc : (bs ++ be t.size 2).length ≤ 1099511627776 := by rw [List.length_append, be_len]; omega
    generalize bs ++ be t.size 2 = cur at hc ⊢
    simp -implicitDefEqProofs only [go_sem]
    refine ⟨by omega, ?_⟩
    refine sub_mk [(3, 4)] rfl rfl rfl ?_
    simp only [tmSub, hpSub, objSub, eqTm, eqHp, rn, lk, SV.ren, SV.renC, SV.renB, SV.renA, ren_ints, ren_strs, ren_pl, ren_svs, SV.v.injEq, Value.int.injEq, Body.ints.injEq, SV.ptr.injEq, SV.sl.injEq, Value.string.injEq, Value.bool.injEq, List.map_cons, List.map_nil, forall_const, Nat.reduceLT, Nat.lt_add_one, imp_self, true_and, and_true, and_self, ob_some, get_mk, lk_cons, ↓reduceIte, Nat.reduceEqDiff, ne_eq, not_true_eq_false, not_false_eq_true, Nat.one_ne_zero, Nat.zero_ne_one, Nat.succ_ne_self, Nat.reduceAdd, Bool.false_eq_true, false_implies, implies_true, reduceCtorEq, wrO, List.length_append, bts_len]
  · have e2 : nuX t.size 2 = true := decide_eq_true h
    have g1 : decide ((t.size : Int) > 65535) = true := decide_eq_true (by omega)
    rw [if_neg h, e2, Bool.or_true, List.append_nil]
    unfold wrO
    simp -implicitDefEqProofs only [↓fnVC, initTm]
    simp -implicitDefEqProofs only [go_sem, g1]
    refine sub_mk [(3, 2)] rfl rfl rfl ?_
    simp only [tmSub, hpSub, objSub, eqTm, eqHp, rn, lk, SV.ren, SV.renC, SV.renB, SV.renA, ren_ints, ren_strs, ren_pl, ren_svs, SV.v.injEq, Value.int.injEq, Body.ints.injEq, SV.ptr.injEq, SV.sl.injEq, Value.string.injEq, Value.bool.injEq, List.map_cons, List.map_nil, forall_const, Nat.reduceLT, Nat.lt_add_one, imp_self, true_and, and_true, and_self, ob_some, get_mk, lk_cons, ↓reduceIte, Nat.reduceEqDiff, ne_eq, not_true_eq_false, not_false_eq_true, Nat.one_ne_zero, Nat.zero_ne_one, Nat.succ_ne_self, Nat.reduceAdd, Bool.false_eq_true, false_implies, implies_true, reduceCtorEq]
theorem dtextS {i r : Nat} {bs : List Int} {bad : Bool} {t : ByteArray} (hg : H.get i = some (wrO r bs.length bad)) (hr : H.get r = some ⟨true, .ints .u8 bs⟩) (hi : 0 < i ∧ i < 1000) (hr1 : 0 < r ∧ r < 1000) (hne : i ≠ r) (hn : n + 1 ≤ 1000) (ht : t.size ≤ 536870000) (hb : bs.length ≤ 1099511627770) :
    SpecAt Tryz.prog nrWText [.ptr i 0, .v (.string t)] H n (.tup []) ⟨(i, some (wrO n (bs ++ (if t.size < 65536 then be t.size 2 ++ bts t else [])).length (bad || nuX t.size 2))) :: (r, none) :: (n, some ⟨true, .ints .u8 (bs ++ (if t.size < 65536 then be t.size 2 ++ bts t else []))⟩) :: H.l, H.x⟩ (n + 1) := by
  have := lift (n := n) (okT.spec trWText (dtextW (x := H.x) ht hb)) [(1, i), (2, r)] rfl rfl rfl (by omega) rfl rfl
    ⟨sub_wr rfl hi.1 hi.2 hg rfl, sub_wr rfl hr1.1 hr1.2 hr rfl, trivial⟩ (by simp [apartB, apart1, rn, lk, hne, Ne.symm hne]) (by simp [wrNZ, rn, lk]; omega) (by omega)
  exact this
theorem dhashW {bs : List Int} {bad : Bool} {h : ByteArray} (hb : bs.length ≤ 1099511627776) :
    fnVC CT mrWHash [.ptr 1 0, .v (.string h)] ⟨[(1, some (wrO 2 bs.length bad)), (2, some ⟨true, .ints .u8 bs⟩)], x⟩ 3 fun v H' n' => Sub 3 ⟨[(0, .tup [])], ⟨[(1, some (wrO 3 (bs ++ (if h.size = 32 then bts h else [])).length (bad || decide (h.size ≠ 32)))), (2, none), (3, some ⟨true, .ints .u8 (bs ++ (if h.size = 32 then bts h else []))⟩)], x⟩, 4⟩ ⟨[(0, v)], H', n'⟩ := by
  by_cases e : h.size = 32
  · rw [if_pos e, show decide (h.size ≠ 32) = false from decide_eq_false (fun q => q e), Bool.or_false]
    exact rwHashW hb e
  · rw [if_neg e, show decide (h.size ≠ 32) = true from decide_eq_true e, Bool.or_true, List.append_nil]
    unfold mrWHash wrO
    have g1 : decide ((h.size : Int) = 32) = false := decide_eq_false (by omega)
    simp -implicitDefEqProofs only [↓fnVC, initTm]
    simp -implicitDefEqProofs only [go_sem, g1]
    refine sub_mk [(3, 2)] rfl rfl rfl ?_
    simp only [tmSub, hpSub, objSub, eqTm, eqHp, rn, lk, SV.ren, SV.renC, SV.renB, SV.renA, ren_ints, ren_strs, ren_pl, ren_svs, SV.v.injEq, Value.int.injEq, Body.ints.injEq, SV.ptr.injEq, SV.sl.injEq, Value.string.injEq, Value.bool.injEq, List.map_cons, List.map_nil, forall_const, Nat.reduceLT, Nat.lt_add_one, imp_self, true_and, and_true, and_self, ob_some, get_mk, lk_cons, ↓reduceIte, Nat.reduceEqDiff, ne_eq, not_true_eq_false, not_false_eq_true, Nat.one_ne_zero, Nat.zero_ne_one, Nat.succ_ne_self, Nat.reduceAdd, Bool.false_eq_true, false_implies, implies_true, reduceCtorEq]
theorem dhashS {i r : Nat} {bs : List Int} {bad : Bool} {h : ByteArray} (hg : H.get i = some (wrO r bs.length bad)) (hr : H.get r = some ⟨true, .ints .u8 bs⟩) (hi : 0 < i ∧ i < 1000) (hr1 : 0 < r ∧ r < 1000) (hne : i ≠ r) (hn : n + 1 ≤ 1000) (hb : bs.length ≤ 1099511627776) :
    SpecAt Tryz.prog nrWHash [.ptr i 0, .v (.string h)] H n (.tup []) ⟨(i, some (wrO n (bs ++ (if h.size = 32 then bts h else [])).length (bad || decide (h.size ≠ 32)))) :: (r, none) :: (n, some ⟨true, .ints .u8 (bs ++ (if h.size = 32 then bts h else []))⟩) :: H.l, H.x⟩ (n + 1) := by
  have := lift (n := n) (okT.spec trWHash (dhashW (x := H.x) (h := h) hb)) [(1, i), (2, r)] rfl rfl rfl (by omega) rfl rfl
    ⟨sub_wr rfl hi.1 hi.2 hg rfl, sub_wr rfl hr1.1 hr1.2 hr rfl, trivial⟩ (by simp [apartB, apart1, rn, lk, hne, Ne.symm hne]) (by simp [wrNZ, rn, lk]; omega) (by omega)
  exact this
end
section
/- Lay, on both sides. -/
set_option linter.unusedVariables false
set_option linter.unusedSimpArgs false
set_option maxRecDepth 100000
open Go.Proofs
variable {H : Hp} {n : Nat} {x : Nat → Option SO}
def lyB (l : List ByteArray) (need : Int) : List Int := if okSet l need = true then be l.length 1 ++ catb l ++ be need.toNat 1 else []
theorem okTo_at {l : List ByteArray} : ∀ {m}, okTo l m = true → ∀ i, i < m → okAt l i = true
  | 0, _, i, hi => absurd hi (Nat.not_lt_zero _)
  | m + 1, h, i, hi => by
    simp only [okTo, Bool.and_eq_true] at h
    by_cases e : i = m
    · subst e; exact h.2
    · exact okTo_at h.1 i (by omega)
theorem okSet_in {l : List ByteArray} {need : Int} (h : okSet l need = true) : (1 ≤ l.length ∧ l.length ≤ 16) ∧ (1 ≤ need ∧ need ≤ l.length) ∧ ∀ i, i < l.length → (l.getD i .empty).size = 32 := by
  unfold okSet at h
  rw [Bool.and_eq_true, decide_eq_true_eq] at h
  obtain ⟨⟨a, b, c, d⟩, e⟩ := h
  refine ⟨⟨a, b⟩, ⟨c, d⟩, fun i hi => ?_⟩
  have := okTo_at e i hi
  unfold okAt at this
  rw [Bool.and_eq_true, decide_eq_true_eq] at this
  exact this.1
theorem catb_take {l : List ByteArray} (h : ∀ i, i < l.length → (l.getD i .empty).size = 32) : ∀ j, j ≤ l.length → (catb (l.take j)).length = 32 * j
  | 0, _ => rfl
  | j + 1, hj => by
    rw [take_snoc (by omega), catb_snoc, List.length_append, catb_take h j (by omega), bts_len, h j (by omega)]; omega
theorem playW {l ss : List ByteArray} {m : Nat} {need : Int} (hl : l = ss.take m) (hm : m ≤ ss.length) : fnVC CT mQLay [.ptr 1 0, .agg [.sl 2 0 m 1, .v (.int .i64 need)]] ⟨[(1, some ⟨true, .sv [.sl 0 0 0 1, .v (.bool false)]⟩), (2, some ⟨false, .strs ss⟩)], x⟩ 3 fun v H' n' => Sub 3 ⟨[(0, .tup [])], ⟨[(1, some (wrO 3 (lyB l need).length (!okSet l need))), (3, some ⟨true, .ints .u8 (lyB l need)⟩)], x⟩, 4⟩ ⟨[(0, v)], H', n'⟩ := by
  have hll : l.length = m := by rw [hl, List.length_take]; omega
  have hget : ∀ j, j < m → ss.getD j .empty = l.getD j .empty := fun j hj => by rw [hl, take_getD hj]
  unfold mQLay
  simp -implicitDefEqProofs only [↓fnVC, initTm]
  simp -implicitDefEqProofs only [go_sem, spA, spB, spC, tk2]
  refine at_call tQCheck (checkS0 (i := 2) (l := l) (ss := ss) (o := 0) (m := m) (need := need) (by rfl) (by decide) (by rw [List.drop_zero]; exact hl) (by omega)) ?_
  by_cases hok : okSet l need = true
  · obtain ⟨⟨h1, h2⟩, ⟨h3, h4⟩, h5⟩ := okSet_in hok
    obtain ⟨nd, rfl⟩ : ∃ q : Nat, need = q := ⟨need.toNat, by omega⟩
    have hly : lyB l nd = be m 1 ++ catb l ++ be nd 1 := by unfold lyB; rw [if_pos hok, hll]; rfl
    have hcl := catb_take h5
    rw [if_pos hok, hok, hly]
    have f0 : decide ((0 : Int) = 0) = true := rfl
    simp -implicitDefEqProofs only [go_sem, f0]
    refine in_call mixT tWByte ?_
    unfold mWByte
    simp -implicitDefEqProofs only [↓fnVC, initTm]
    simp -implicitDefEqProofs only [go_sem]
    refine at_call tWNumber (wNum0S (i := 1) (y := m) (k := 1) (bad := false) (by rfl) (by decide) (by decide) (by decide) (by omega) (fun _ => by omega)) ?_
    unfold wrO
    simp -implicitDefEqProofs only [go_sem]
    refine loop_fam (fun (j : Nat) => j ≤ m) (fun j => ⟨[(0, .ptr 1 0), (3, .ptr 3 0), (17, .sl 2 0 m 1), (18, .v (.int .i64 m)), (19, .v (.int .i64 j))], ⟨[(1, some (wrO 4 (be m 1 ++ catb (l.take j)).length false)), (2, some ⟨false, .strs ss⟩), (3, some ⟨true, .sv [.sl 2 0 m 1, .v (.int .i64 nd)]⟩), (4, some ⟨true, .ints .u8 (be m 1 ++ catb (l.take j))⟩)], x⟩, 5⟩) (fun j => m - j) 0 (Nat.zero_le _) ?_ ?_
    · have e0 : be m 1 ++ catb (l.take 0) = be m 1 := List.append_nil _
      refine sub_mk [] rfl rfl rfl ?_
      simp only [tmSub, hpSub, objSub, eqTm, eqHp, rn, lk, SV.ren, SV.renC, SV.renB, SV.renA, ren_ints, ren_strs, ren_pl, ren_svs, SV.v.injEq, Value.int.injEq, Body.ints.injEq, SV.ptr.injEq, SV.sl.injEq, Value.string.injEq, Value.bool.injEq, List.map_cons, List.map_nil, forall_const, Nat.reduceLT, Nat.lt_add_one, imp_self, true_and, and_true, and_self, ob_some, get_mk, lk_cons, ↓reduceIte, Nat.reduceEqDiff, ne_eq, not_true_eq_false, not_false_eq_true, Nat.one_ne_zero, Nat.zero_ne_one, Nat.succ_ne_self, Nat.reduceAdd, Bool.false_eq_true, false_implies, implies_true, reduceCtorEq, wrO, e0]
      rfl
    · intro j hj
      have hcj : (be m 1 ++ catb (l.take j)).length = 1 + 32 * j := by rw [List.length_append, be_len, hcl j (by omega)]
      simp -implicitDefEqProofs only [go_sem]
      refine condK_bb (fun c => ?_) (fun c => ?_)
      · have c1 : j < m := by have := of_decide_eq_true c; omega
        have hz := h5 j (by omega)
        have g1 := hget j c1
        have w4 : IntKind.i64.wrap ((j : Int) + 1) = ((j + 1 : Nat) : Int) := by rw [wrap_i64 (by omega) (by omega)]; omega
        have e1 : be m 1 ++ catb (l.take (j + 1)) = be m 1 ++ catb (l.take j) ++ bts (l.getD j .empty) := by rw [take_snoc (by omega), catb_snoc, List.append_assoc]
        simp -implicitDefEqProofs only [go_sem, c, g1]
        refine ⟨⟨by omega, by omega⟩, by omega, ?_⟩
        refine at_call tWHash (wHashS (i := 1) (r := 4) (bs := be m 1 ++ catb (l.take j)) (bad := false) (h := l.getD j .empty) (by rfl) (by rfl) (by decide) (by decide) (by decide) (by decide) (by omega) (by omega)) ?_
        rw [show (false || decide ((l.getD j .empty).size ≠ 32)) = false from by rw [hz]; rfl]
        unfold wrO
        simp -implicitDefEqProofs only [go_sem, w4]
        refine kLoop_mk (j + 1) (by omega) (by omega) ?_
        refine sub_mk [(4, 5)] rfl rfl rfl ?_
        simp only [tmSub, hpSub, objSub, eqTm, eqHp, rn, lk, SV.ren, SV.renC, SV.renB, SV.renA, ren_ints, ren_strs, ren_pl, ren_svs, SV.v.injEq, Value.int.injEq, Body.ints.injEq, SV.ptr.injEq, SV.sl.injEq, Value.string.injEq, Value.bool.injEq, List.map_cons, List.map_nil, forall_const, Nat.reduceLT, Nat.lt_add_one, imp_self, true_and, and_true, and_self, ob_some, get_mk, lk_cons, ↓reduceIte, Nat.reduceEqDiff, ne_eq, not_true_eq_false, not_false_eq_true, Nat.one_ne_zero, Nat.zero_ne_one, Nat.succ_ne_self, Nat.reduceAdd, Bool.false_eq_true, false_implies, implies_true, reduceCtorEq, w4, wrO, e1]
      · have c1 : j = m := by have := of_decide_eq_false c; omega
        subst c1
        have e2 : l.take j = l := List.take_of_length_le (by omega)
        rw [e2] at hcj ⊢
        simp -implicitDefEqProofs only [go_sem, c]
        refine in_call mixT tWByte ?_
        unfold mWByte
        simp -implicitDefEqProofs only [↓fnVC, initTm]
        simp -implicitDefEqProofs only [go_sem]
        refine at_call tWNumber (wNumS (i := 1) (r := 4) (y := nd) (k := 1) (bs := be j 1 ++ catb l) (bad := false) (by rfl) (by rfl) (by decide) (by decide) (by decide) (by decide) (by decide) (by omega) (fun _ => by omega) (by omega)) ?_
        simp -implicitDefEqProofs only [go_sem]
        refine sub_mk [(3, 5)] rfl rfl rfl ?_
        simp only [tmSub, hpSub, objSub, eqTm, eqHp, rn, lk, SV.ren, SV.renC, SV.renB, SV.renA, ren_ints, ren_strs, ren_pl, ren_svs, SV.v.injEq, Value.int.injEq, Body.ints.injEq, SV.ptr.injEq, SV.sl.injEq, Value.string.injEq, Value.bool.injEq, List.map_cons, List.map_nil, forall_const, Nat.reduceLT, Nat.lt_add_one, imp_self, true_and, and_true, and_self, ob_some, get_mk, lk_cons, ↓reduceIte, Nat.reduceEqDiff, ne_eq, not_true_eq_false, not_false_eq_true, Nat.one_ne_zero, Nat.zero_ne_one, Nat.succ_ne_self, Nat.reduceAdd, Bool.false_eq_true, false_implies, implies_true, reduceCtorEq, wrO]
        try rfl
  · have hly : lyB l need = [] := if_neg hok
    have hok' : okSet l need = false := by simpa using hok
    rw [if_neg hok, hok', hly]
    have f0 : decide ((1 : Int) = 0) = false := rfl
    simp -implicitDefEqProofs only [go_sem, f0]
    refine in_call mixT tWByte ?_
    unfold mWByte
    simp -implicitDefEqProofs only [↓fnVC, initTm]
    simp -implicitDefEqProofs only [go_sem]
    refine in_call mixT tWNumber ?_
    unfold mWNumber
    have g1 : decide ((-1 : Int) < 0) = true := rfl
    simp -implicitDefEqProofs only [↓fnVC, initTm]
    simp -implicitDefEqProofs only [go_sem, g1]
    refine sub_mk [(3, 0)] rfl rfl rfl ?_
    simp only [tmSub, hpSub, objSub, eqTm, eqHp, rn, lk, SV.ren, SV.renC, SV.renB, SV.renA, ren_ints, ren_strs, ren_pl, ren_svs, SV.v.injEq, Value.int.injEq, Body.ints.injEq, SV.ptr.injEq, SV.sl.injEq, Value.string.injEq, Value.bool.injEq, List.map_cons, List.map_nil, forall_const, Nat.reduceLT, Nat.lt_add_one, imp_self, true_and, and_true, and_self, ob_some, get_mk, lk_cons, ↓reduceIte, Nat.reduceEqDiff, ne_eq, not_true_eq_false, not_false_eq_true, Nat.one_ne_zero, Nat.zero_ne_one, Nat.succ_ne_self, Nat.reduceAdd, Bool.false_eq_true, false_implies, implies_true, reduceCtorEq, wrO]
    try rfl
theorem playS {l ss : List ByteArray} {i a m : Nat} {u : Bool} {need : Int} (hg : H.get i = some ⟨true, .sv [.sl 0 0 0 1, .v (.bool false)]⟩) (ha : H.get a = some ⟨u, .strs ss⟩) (hi : 0 < i ∧ i < 1000) (ha0 : 0 < a) (hne : i ≠ a) (hn : n + 1 ≤ 1000) (hl : l = ss.take m) (hm : m ≤ ss.length) :
    SpecAt Tryz.prog nQLay [.ptr i 0, .agg [.sl a 0 m 1, .v (.int .i64 need)]] H n (.tup []) ⟨(i, some (wrO n (lyB l need).length (!okSet l need))) :: (n, some ⟨true, .ints .u8 (lyB l need)⟩) :: H.l, H.x⟩ (n + 1) := by
  have := lift (n := n) (okT.spec tQLay (playW (x := H.x) (need := need) hl hm)) [(1, i), (2, a)] rfl rfl rfl (by omega) rfl rfl
    ⟨sub_wr rfl hi.1 hi.2 hg rfl, sub_ro rfl ha0 ha rfl, trivial⟩ (by simp [apartB, apart1, rn, lk, hne, Ne.symm hne]) (by simp [wrNZ, rn, lk]; omega) (by omega)
  exact this
theorem dlayW {l ss : List ByteArray} {m : Nat} {need : Int} (hl : l = ss.take m) (hm : m ≤ ss.length) : fnVC CT mrQLay [.ptr 1 0, .agg [.sl 2 0 m 1, .v (.int .i64 need)]] ⟨[(1, some ⟨true, .sv [.sl 0 0 0 1, .v (.bool false)]⟩), (2, some ⟨false, .strs ss⟩)], x⟩ 3 fun v H' n' => Sub 3 ⟨[(0, .tup [])], ⟨[(1, some (wrO 3 (lyB l need).length (!okSet l need))), (3, some ⟨true, .ints .u8 (lyB l need)⟩)], x⟩, 4⟩ ⟨[(0, v)], H', n'⟩ := by
  have hll : l.length = m := by rw [hl, List.length_take]; omega
  have hget : ∀ j, j < m → ss.getD j .empty = l.getD j .empty := fun j hj => by rw [hl, take_getD hj]
  unfold mrQLay
  simp -implicitDefEqProofs only [↓fnVC, initTm]
  simp -implicitDefEqProofs only [go_sem, spA, spB, spC, tk2]
  refine at_call trQCheck (rcheckS (i := 2) (l := l) (ss := ss) (o := 0) (m := m) (need := need) (by rfl) (by decide) (by rw [List.drop_zero]; exact hl) (by omega)) ?_
  by_cases hok : okSet l need = true
  · obtain ⟨⟨h1, h2⟩, ⟨h3, h4⟩, h5⟩ := okSet_in hok
    obtain ⟨nd, rfl⟩ : ∃ q : Nat, need = q := ⟨need.toNat, by omega⟩
    have hly : lyB l nd = be m 1 ++ catb l ++ be nd 1 := by unfold lyB; rw [if_pos hok, hll]; rfl
    have hcl := catb_take h5
    rw [if_pos hok, hok, hly]
    have f0 : decide ((0 : Int) = 0) = true := rfl
    simp -implicitDefEqProofs only [go_sem, f0]
    refine at_call trWNumber (rwNum0S (i := 1) (y := m) (k := 1) (bad := false) (by rfl) (by decide) (by decide) (by decide) (by decide) (by omega) (fun _ => by omega)) ?_
    unfold wrO
    simp -implicitDefEqProofs only [go_sem]
    refine loop_fam (fun (j : Nat) => j ≤ m) (fun j => ⟨[(0, .ptr 1 0), (3, .ptr 3 0), (4, .v (.int .i64 j))], ⟨[(1, some (wrO 4 (be m 1 ++ catb (l.take j)).length false)), (2, some ⟨false, .strs ss⟩), (3, some ⟨true, .sv [.sl 2 0 m 1, .v (.int .i64 nd)]⟩), (4, some ⟨true, .ints .u8 (be m 1 ++ catb (l.take j))⟩)], x⟩, 5⟩) (fun j => m - j) 0 (Nat.zero_le _) ?_ ?_
    · have e0 : be m 1 ++ catb (l.take 0) = be m 1 := List.append_nil _
      refine sub_mk [] rfl rfl rfl ?_
      simp only [tmSub, hpSub, objSub, eqTm, eqHp, rn, lk, SV.ren, SV.renC, SV.renB, SV.renA, ren_ints, ren_strs, ren_pl, ren_svs, SV.v.injEq, Value.int.injEq, Body.ints.injEq, SV.ptr.injEq, SV.sl.injEq, Value.string.injEq, Value.bool.injEq, List.map_cons, List.map_nil, forall_const, Nat.reduceLT, Nat.lt_add_one, imp_self, true_and, and_true, and_self, ob_some, get_mk, lk_cons, ↓reduceIte, Nat.reduceEqDiff, ne_eq, not_true_eq_false, not_false_eq_true, Nat.one_ne_zero, Nat.zero_ne_one, Nat.succ_ne_self, Nat.reduceAdd, Bool.false_eq_true, false_implies, implies_true, reduceCtorEq, wrO, e0]
      rfl
    · intro j hj
      have hcj : (be m 1 ++ catb (l.take j)).length = 1 + 32 * j := by rw [List.length_append, be_len, hcl j (by omega)]
      simp -implicitDefEqProofs only [go_sem]
      refine condK_bb (fun c => ?_) (fun c => ?_)
      · have c1 : j < m := by have := of_decide_eq_true c; omega
        have hz := h5 j (by omega)
        have g1 := hget j c1
        have w4 : IntKind.i64.wrap ((j : Int) + 1) = ((j + 1 : Nat) : Int) := by rw [wrap_i64 (by omega) (by omega)]; omega
        have e1 : be m 1 ++ catb (l.take (j + 1)) = be m 1 ++ catb (l.take j) ++ bts (l.getD j .empty) := by rw [take_snoc (by omega), catb_snoc, List.append_assoc]
        simp -implicitDefEqProofs only [go_sem, c, g1]
        refine ⟨⟨by omega, by omega⟩, by omega, ?_⟩
        refine at_call trWHash (rwHashS (i := 1) (r := 4) (bs := be m 1 ++ catb (l.take j)) (bad := false) (h := l.getD j .empty) (by rfl) (by rfl) (by decide) (by decide) (by decide) (by decide) (by omega) hz) ?_
        skip
        unfold wrO
        simp -implicitDefEqProofs only [go_sem, w4]
        refine kLoop_mk (j + 1) (by omega) (by omega) ?_
        refine sub_mk [(4, 5)] rfl rfl rfl ?_
        simp only [tmSub, hpSub, objSub, eqTm, eqHp, rn, lk, SV.ren, SV.renC, SV.renB, SV.renA, ren_ints, ren_strs, ren_pl, ren_svs, SV.v.injEq, Value.int.injEq, Body.ints.injEq, SV.ptr.injEq, SV.sl.injEq, Value.string.injEq, Value.bool.injEq, List.map_cons, List.map_nil, forall_const, Nat.reduceLT, Nat.lt_add_one, imp_self, true_and, and_true, and_self, ob_some, get_mk, lk_cons, ↓reduceIte, Nat.reduceEqDiff, ne_eq, not_true_eq_false, not_false_eq_true, Nat.one_ne_zero, Nat.zero_ne_one, Nat.succ_ne_self, Nat.reduceAdd, Bool.false_eq_true, false_implies, implies_true, reduceCtorEq, w4, wrO, e1]
      · have c1 : j = m := by have := of_decide_eq_false c; omega
        subst c1
        have e2 : l.take j = l := List.take_of_length_le (by omega)
        rw [e2] at hcj ⊢
        simp -implicitDefEqProofs only [go_sem, c]
        refine at_call trWNumber (rwNumS (i := 1) (r := 4) (y := nd) (k := 1) (bs := be j 1 ++ catb l) (bad := false) (by rfl) (by rfl) (by decide) (by decide) (by decide) (by decide) (by decide) (by decide) (by omega) (fun _ => by omega) (by omega)) ?_
        simp -implicitDefEqProofs only [go_sem]
        refine sub_mk [(3, 5)] rfl rfl rfl ?_
        simp only [tmSub, hpSub, objSub, eqTm, eqHp, rn, lk, SV.ren, SV.renC, SV.renB, SV.renA, ren_ints, ren_strs, ren_pl, ren_svs, SV.v.injEq, Value.int.injEq, Body.ints.injEq, SV.ptr.injEq, SV.sl.injEq, Value.string.injEq, Value.bool.injEq, List.map_cons, List.map_nil, forall_const, Nat.reduceLT, Nat.lt_add_one, imp_self, true_and, and_true, and_self, ob_some, get_mk, lk_cons, ↓reduceIte, Nat.reduceEqDiff, ne_eq, not_true_eq_false, not_false_eq_true, Nat.one_ne_zero, Nat.zero_ne_one, Nat.succ_ne_self, Nat.reduceAdd, Bool.false_eq_true, false_implies, implies_true, reduceCtorEq, wrO]
        try rfl
  · have hly : lyB l need = [] := if_neg hok
    have hok' : okSet l need = false := by simpa using hok
    rw [if_neg hok, hok', hly]
    have f0 : decide ((1 : Int) = 0) = false := rfl
    simp -implicitDefEqProofs only [go_sem, f0]
    refine sub_mk [(3, 0)] rfl rfl rfl ?_
    simp only [tmSub, hpSub, objSub, eqTm, eqHp, rn, lk, SV.ren, SV.renC, SV.renB, SV.renA, ren_ints, ren_strs, ren_pl, ren_svs, SV.v.injEq, Value.int.injEq, Body.ints.injEq, SV.ptr.injEq, SV.sl.injEq, Value.string.injEq, Value.bool.injEq, List.map_cons, List.map_nil, forall_const, Nat.reduceLT, Nat.lt_add_one, imp_self, true_and, and_true, and_self, ob_some, get_mk, lk_cons, ↓reduceIte, Nat.reduceEqDiff, ne_eq, not_true_eq_false, not_false_eq_true, Nat.one_ne_zero, Nat.zero_ne_one, Nat.succ_ne_self, Nat.reduceAdd, Bool.false_eq_true, false_implies, implies_true, reduceCtorEq, wrO]
    try rfl
theorem dlayS {l ss : List ByteArray} {i a m : Nat} {u : Bool} {need : Int} (hg : H.get i = some ⟨true, .sv [.sl 0 0 0 1, .v (.bool false)]⟩) (ha : H.get a = some ⟨u, .strs ss⟩) (hi : 0 < i ∧ i < 1000) (ha0 : 0 < a) (hne : i ≠ a) (hn : n + 1 ≤ 1000) (hl : l = ss.take m) (hm : m ≤ ss.length) :
    SpecAt Tryz.prog nrQLay [.ptr i 0, .agg [.sl a 0 m 1, .v (.int .i64 need)]] H n (.tup []) ⟨(i, some (wrO n (lyB l need).length (!okSet l need))) :: (n, some ⟨true, .ints .u8 (lyB l need)⟩) :: H.l, H.x⟩ (n + 1) := by
  have := lift (n := n) (okT.spec trQLay (dlayW (x := H.x) (need := need) hl hm)) [(1, i), (2, a)] rfl rfl rfl (by omega) rfl rfl
    ⟨sub_wr rfl hi.1 hi.2 hg rfl, sub_ro rfl ha0 ha rfl, trivial⟩ (by simp [apartB, apart1, rn, lk, hne, Ne.symm hne]) (by simp [wrNZ, rn, lk]; omega) (by omega)
  exact this
end
section
/- LaySigs, on both sides. -/
set_option linter.unusedVariables false
set_option linter.unusedSimpArgs false
set_option maxRecDepth 100000
open Go.Proofs
variable {H : Hp} {n : Nat} {x : Nat → Option SO}
theorem sgP_1 {l : Sg} {j : Nat} (h : j < l.length) : (sgP l)[j * 2]? = some (.string (l.getD j gE).1) ∧ (sgP l)[j * 2 + 1]? = some (.string (l.getD j gE).2) := by
  have e := sgP_at h
  have e0 := congrArg (fun m : List Value => m[0]?) e
  have e1 := congrArg (fun m : List Value => m[1]?) e
  rw [Nat.mul_comm] at e0 e1
  simpa [List.getElem?_take, List.getElem?_drop] using And.intro e0 e1
def sgOK (gs : Sg) : Prop := ∀ g ∈ gs, g.1.size ≤ 1048576 ∧ g.2.size ≤ 1048576
theorem sgOK.at {gs : Sg} (h : sgOK gs) (j : Nat) : (gs.getD j gE).1.size ≤ 1048576 ∧ (gs.getD j gE).2.size ≤ 1048576 := by
  rw [List.getD_eq_getElem?_getD]
  by_cases c : j < gs.length
  · rw [List.getElem?_eq_getElem c]; exact h _ (List.getElem_mem _)
  · rw [List.getElem?_eq_none (by omega)]; exact ⟨by decide, by decide⟩
def pgN (gs : Sg) (bs : List Int) (bad : Bool) : Nat → List Int × Bool
  | 0 => (bs, bad)
  | j + 1 => ((pgN gs bs bad j).1 ++ bts (gs.getD j gE).1 ++ (nuB (gs.getD j gE).2.size 2 ++ bts (gs.getD j gE).2),
      (((pgN gs bs bad j).2 || decide ((gs.getD j gE).1.size ≠ 32)) || nuX (gs.getD j gE).2.size 2))
def dgN (gs : Sg) (bs : List Int) (bad : Bool) : Nat → List Int × Bool
  | 0 => (bs, bad)
  | j + 1 => if (dgN gs bs bad j).2 = true then dgN gs bs bad j else
      ((dgN gs bs bad j).1 ++ (if (gs.getD j gE).1.size = 32 then bts (gs.getD j gE).1 else []) ++ (if (gs.getD j gE).2.size < 65536 then be (gs.getD j gE).2.size 2 ++ bts (gs.getD j gE).2 else []),
      (((dgN gs bs bad j).2 || decide ((gs.getD j gE).1.size ≠ 32)) || nuX (gs.getD j gE).2.size 2))
theorem len_arith {a b c d j q : Nat} (h1 : a ≤ q + j * 2097200) (h2 : b ≤ 1048576) (h3 : c ≤ 2) (h4 : d ≤ 1048576) : a + b + (c + d) ≤ q + (j + 1) * 2097200 := by omega
theorem pgN_len {gs : Sg} {bs : List Int} {bad : Bool} (h : sgOK gs) : ∀ j, (pgN gs bs bad j).1.length ≤ bs.length + j * 2097200
  | 0 => Nat.le_add_right _ _
  | j + 1 => by
    simp only [pgN, List.length_append, bts_len]
    exact len_arith (pgN_len h j) (h.at j).1 nuB_len (h.at j).2
theorem dgN_len {gs : Sg} {bs : List Int} {bad : Bool} (h : sgOK gs) : ∀ j, (dgN gs bs bad j).1.length ≤ bs.length + j * 2097200
  | 0 => Nat.le_add_right _ _
  | j + 1 => by
    have ih := dgN_len (bs := bs) (bad := bad) h j
    simp only [dgN]
    by_cases c : (dgN gs bs bad j).2 = true
    · rw [if_pos c]; exact Nat.le_trans ih (by rw [Nat.succ_mul]; exact Nat.add_le_add_left (Nat.le_add_right _ _) _)
    · rw [if_neg c]
      simp only [List.length_append]
      have a1 : (if (gs.getD j gE).1.size = 32 then bts (gs.getD j gE).1 else []).length ≤ 1048576 := by
        by_cases c : (gs.getD j gE).1.size = 32
        · rw [if_pos c, bts_len]; exact (h.at j).1
        · rw [if_neg c]; exact Nat.zero_le _
      have a2 : (if (gs.getD j gE).2.size < 65536 then be (gs.getD j gE).2.size 2 ++ bts (gs.getD j gE).2 else []).length ≤ 2 + 1048576 := by
        by_cases c : (gs.getD j gE).2.size < 65536
        · rw [if_pos c, List.length_append, bts_len, be_len]; exact Nat.add_le_add_left (h.at j).2 _
        · rw [if_neg c]; exact Nat.zero_le _
      exact Nat.le_trans (Nat.add_le_add_left a2 _) (len_arith ih a1 (Nat.le_refl 2) (Nat.le_refl 1048576))
theorem dgN_stop {gs : Sg} {bs : List Int} {bad : Bool} {j : Nat} (h : (dgN gs bs bad j).2 = true) : ∀ i, dgN gs bs bad (j + i) = dgN gs bs bad j
  | 0 => rfl
  | i + 1 => by
    rw [← Nat.add_assoc, dgN, dgN_stop h i, if_pos h]
theorem pd_same {gs : Sg} {bs : List Int} {bad : Bool} : ∀ j, (pgN gs bs bad j).2 = (dgN gs bs bad j).2 ∧ ((dgN gs bs bad j).2 = false → (pgN gs bs bad j).1 = (dgN gs bs bad j).1)
  | 0 => ⟨rfl, fun _ => rfl⟩
  | j + 1 => by
    obtain ⟨h1, h2⟩ := pd_same (gs := gs) (bs := bs) (bad := bad) j
    simp only [pgN, dgN]
    by_cases hb : (dgN gs bs bad j).2 = true
    · rw [if_pos hb, h1, hb]
      exact ⟨by simp, fun q => (by cases q)⟩
    · rw [if_neg hb, h1]
      have hb' : (dgN gs bs bad j).2 = false := by simpa using hb
      refine ⟨rfl, fun q => ?_⟩
      simp only [Bool.or_eq_false_iff] at q
      obtain ⟨⟨q1, q2⟩, q3⟩ := q
      have z1 : (gs.getD j gE).1.size = 32 := Decidable.not_not.1 (of_decide_eq_false q2)
      have z2 : (gs.getD j gE).2.size < 65536 := Decidable.not_not.1 (of_decide_eq_false q3)
      rw [h2 hb', if_pos z1, if_pos z2]
      have z3 : nuB (gs.getD j gE).2.size 2 = be (gs.getD j gE).2.size 2 := if_pos z2
      rw [z3]
theorem plsW {gs : Sg} {bs : List Int} {bad : Bool} {m : Nat} (hm : m ≤ gs.length) (hm3 : m ≤ 300) (hz : sgOK gs) (hb : bs.length ≤ 1000000) :
    fnVC CT mQLaySigs [.ptr 1 0, .sl 2 0 m 2] ⟨[(1, some (wrO 3 bs.length bad)), (2, some ⟨false, .pl (sgP gs)⟩), (3, some ⟨true, .ints .u8 bs⟩)], x⟩ 4 fun v H' n' => Sub 4 ⟨[(0, .tup [])], ⟨[(1, some (wrO 4 (pgN gs (bs ++ nuB m 1) (bad || nuX m 1) m).1.length (pgN gs (bs ++ nuB m 1) (bad || nuX m 1) m).2)), (3, none), (4, some ⟨true, .ints .u8 (pgN gs (bs ++ nuB m 1) (bad || nuX m 1) m).1⟩)], x⟩, 5⟩ ⟨[(0, v)], H', n'⟩ := by
  have hpl := sgP_len gs
  have hn1 := nuB_len (y := m) (k := 1)
  unfold mQLaySigs
  simp -implicitDefEqProofs only [↓fnVC, initTm]
  simp -implicitDefEqProofs only [go_sem]
  refine at_call tWByte (pbyteS (i := 1) (r := 3) (y := m) (bs := bs) (bad := bad) (by rfl) (by rfl) (by decide) (by decide) (by decide) (by decide) (by omega) (by omega)) ?_
  unfold wrO
  have hc : (bs ++ nuB m 1).length ≤ 1000001 := by rw [List.length_append]; omega
  generalize bs ++ nuB m 1 = bs1 at hc ⊢
  generalize (bad || nuX m 1) = bad1
  have hlen := fun j => pgN_len (gs := gs) (bs := bs1) (bad := bad1) hz j
  simp -implicitDefEqProofs only [go_sem]
  refine loop_fam (fun (j : Nat) => j ≤ m) (fun j => ⟨[(0, .ptr 1 0), (10, .sl 2 0 m 2), (11, .v (.int .i64 m)), (12, .v (.int .i64 j))], ⟨[(1, some (wrO 4 (pgN gs bs1 bad1 j).1.length (pgN gs bs1 bad1 j).2)), (2, some ⟨false, .pl (sgP gs)⟩), (4, some ⟨true, .ints .u8 (pgN gs bs1 bad1 j).1⟩)], x⟩, 5⟩) (fun j => m - j) 0 (Nat.zero_le _) ?_ ?_
  · refine sub_mk [] rfl rfl rfl ?_
    simp only [tmSub, hpSub, objSub, eqTm, eqHp, rn, lk, SV.ren, SV.renC, SV.renB, SV.renA, ren_ints, ren_strs, ren_pl, ren_svs, SV.v.injEq, Value.int.injEq, Body.ints.injEq, SV.ptr.injEq, SV.sl.injEq, Value.string.injEq, Value.bool.injEq, List.map_cons, List.map_nil, forall_const, Nat.reduceLT, Nat.lt_add_one, imp_self, true_and, and_true, and_self, ob_some, get_mk, lk_cons, ↓reduceIte, Nat.reduceEqDiff, ne_eq, not_true_eq_false, not_false_eq_true, Nat.one_ne_zero, Nat.zero_ne_one, Nat.succ_ne_self, Nat.reduceAdd, Bool.false_eq_true, false_implies, implies_true, reduceCtorEq, wrO, pgN]
    rfl
  · intro j hj
    have hl := hlen j
    simp -implicitDefEqProofs only [go_sem]
    refine condK_bb (fun c => ?_) (fun c => ?_)
    · have c1 : j < m := by have := of_decide_eq_true c; omega
      have g1 := sgP_at (l := gs) (j := j) (by omega)
      rw [Nat.mul_comm] at g1
      have w4 : IntKind.i64.wrap ((j : Int) + 1) = ((j + 1 : Nat) : Int) := by rw [wrap_i64 (by omega) (by omega)]; omega
      have hN1 : pgN gs bs1 bad1 (j + 1) = ((pgN gs bs1 bad1 j).1 ++ bts (gs.getD j gE).1 ++ (nuB (gs.getD j gE).2.size 2 ++ bts (gs.getD j gE).2), (((pgN gs bs1 bad1 j).2 || decide ((gs.getD j gE).1.size ≠ 32)) || nuX (gs.getD j gE).2.size 2)) := rfl
      have hzj := hz.at j
      obtain ⟨nx, h0, hN⟩ : ∃ q, q = pgN gs bs1 bad1 (j + 1) ∧ q = pgN gs bs1 bad1 (j + 1) := ⟨_, rfl, rfl⟩
      rw [hN1] at hN
      simp -implicitDefEqProofs only [go_sem, c, g1, List.map_cons, List.map_nil, spA, spB, spC, tk2]
      refine ⟨⟨by omega, by omega⟩, by omega, ?_⟩
      refine at_call tWHash (wHashS (i := 1) (r := 4) (bs := (pgN gs bs1 bad1 j).1) (bad := (pgN gs bs1 bad1 j).2) (h := (gs.getD j gE).1) (by rfl) (by rfl) (by decide) (by decide) (by decide) (by decide) (by omega) (by omega)) ?_
      have hl2 : ((pgN gs bs1 bad1 j).1 ++ bts (gs.getD j gE).1).length ≤ 1099511627770 := by rw [List.length_append, bts_len]; omega
      generalize (pgN gs bs1 bad1 j).1 ++ bts (gs.getD j gE).1 = cur at hl2 hN ⊢
      generalize ((pgN gs bs1 bad1 j).2 || decide ((gs.getD j gE).1.size ≠ 32)) = bad2 at hN ⊢
      simp -implicitDefEqProofs only [go_sem, spA, spB, spC, tk2]
      refine at_call tWText (ptextS (i := 1) (r := 6) (bs := cur) (bad := bad2) (t := (gs.getD j gE).2) (by rfl) (by rfl) (by decide) (by decide) (by decide) (by decide) (by omega) (by omega)) ?_
      simp -implicitDefEqProofs only [go_sem, w4]
      refine kLoop_mk (j + 1) (by omega) (by omega) ?_
      refine sub_mk [(4, 7)] rfl rfl rfl ?_
      rw [← h0, hN]
      simp only [tmSub, hpSub, objSub, eqTm, eqHp, rn, lk, SV.ren, SV.renC, SV.renB, SV.renA, ren_ints, ren_strs, ren_pl, ren_svs, SV.v.injEq, Value.int.injEq, Body.ints.injEq, SV.ptr.injEq, SV.sl.injEq, Value.string.injEq, Value.bool.injEq, List.map_cons, List.map_nil, forall_const, Nat.reduceLT, Nat.lt_add_one, imp_self, true_and, and_true, and_self, ob_some, get_mk, lk_cons, ↓reduceIte, Nat.reduceEqDiff, ne_eq, not_true_eq_false, not_false_eq_true, Nat.one_ne_zero, Nat.zero_ne_one, Nat.succ_ne_self, Nat.reduceAdd, Bool.false_eq_true, false_implies, implies_true, reduceCtorEq, w4, wrO]
    · have c1 : j = m := by have := of_decide_eq_false c; omega
      subst c1
      simp -implicitDefEqProofs only [go_sem, c]
      refine sub_mk [] rfl rfl rfl ?_
      simp only [tmSub, hpSub, objSub, eqTm, eqHp, rn, lk, SV.ren, SV.renC, SV.renB, SV.renA, ren_ints, ren_strs, ren_pl, ren_svs, SV.v.injEq, Value.int.injEq, Body.ints.injEq, SV.ptr.injEq, SV.sl.injEq, Value.string.injEq, Value.bool.injEq, List.map_cons, List.map_nil, forall_const, Nat.reduceLT, Nat.lt_add_one, imp_self, true_and, and_true, and_self, ob_some, get_mk, lk_cons, ↓reduceIte, Nat.reduceEqDiff, ne_eq, not_true_eq_false, not_false_eq_true, Nat.one_ne_zero, Nat.zero_ne_one, Nat.succ_ne_self, Nat.reduceAdd, Bool.false_eq_true, false_implies, implies_true, reduceCtorEq, wrO]
theorem plsS {gs : Sg} {bs : List Int} {bad : Bool} {m i a r : Nat} {u : Bool} (hg : H.get i = some (wrO r bs.length bad)) (ha : H.get a = some ⟨u, .pl (sgP gs)⟩) (hr : H.get r = some ⟨true, .ints .u8 bs⟩) (hi : 0 < i ∧ i < 1000) (ha0 : 0 < a) (hr1 : 0 < r ∧ r < 1000) (hne : i ≠ r ∧ i ≠ a ∧ r ≠ a) (hn : n + 1 ≤ 1000)
    (hm : m ≤ gs.length) (hm3 : m ≤ 300) (hz : sgOK gs) (hb : bs.length ≤ 1000000) :
    SpecAt Tryz.prog nQLaySigs [.ptr i 0, .sl a 0 m 2] H n (.tup []) ⟨(i, some (wrO n (pgN gs (bs ++ nuB m 1) (bad || nuX m 1) m).1.length (pgN gs (bs ++ nuB m 1) (bad || nuX m 1) m).2)) :: (r, none) :: (n, some ⟨true, .ints .u8 (pgN gs (bs ++ nuB m 1) (bad || nuX m 1) m).1⟩) :: H.l, H.x⟩ (n + 1) := by
  obtain ⟨q1, q2, q3⟩ := hne
  have := lift (n := n) (okT.spec tQLaySigs (plsW (x := H.x) (bad := bad) hm hm3 hz hb)) [(1, i), (2, a), (3, r)] rfl rfl rfl (by omega) rfl rfl
    ⟨sub_wr rfl hi.1 hi.2 hg rfl, sub_ro rfl ha0 ha rfl, sub_wr rfl hr1.1 hr1.2 hr rfl, trivial⟩ (by simp [apartB, apart1, rn, lk, q1, q2, q3, Ne.symm q1, Ne.symm q2, Ne.symm q3]) (by simp [wrNZ, rn, lk]; omega) (by omega)
  exact this
theorem dlsW {gs : Sg} {bs : List Int} {bad : Bool} {m : Nat} (hm : m ≤ gs.length) (hm3 : m ≤ 300) (hz : sgOK gs) (hb : bs.length ≤ 1000000) :
    fnVC CT mrQLaySigs [.ptr 1 0, .sl 2 0 m 2] ⟨[(1, some (wrO 3 bs.length bad)), (2, some ⟨false, .pl (sgP gs)⟩), (3, some ⟨true, .ints .u8 bs⟩)], x⟩ 4 fun v H' n' => Sub 4 ⟨[(0, .tup [])], ⟨[(1, some (wrO 4 (dgN gs (bs ++ nuB m 1) (bad || nuX m 1) m).1.length (dgN gs (bs ++ nuB m 1) (bad || nuX m 1) m).2)), (3, none), (4, some ⟨true, .ints .u8 (dgN gs (bs ++ nuB m 1) (bad || nuX m 1) m).1⟩)], x⟩, 5⟩ ⟨[(0, v)], H', n'⟩ := by
  have hpl := sgP_len gs
  have hn1 := nuB_len (y := m) (k := 1)
  unfold mrQLaySigs
  simp -implicitDefEqProofs only [↓fnVC, initTm]
  simp -implicitDefEqProofs only [go_sem]
  refine at_call trWNumber (dnumS (i := 1) (r := 3) (y := m) (k := 1) (bs := bs) (bad := bad) (by rfl) (by rfl) (by decide) (by decide) (by decide) (by decide) (by decide) (by decide) (by decide) (by omega) (by omega)) ?_
  have hc : (bs ++ nuB m 1).length ≤ 1000001 := by rw [List.length_append]; omega
  generalize bs ++ nuB m 1 = bs1 at hc ⊢
  generalize (bad || nuX m 1) = bad1
  have hlen := fun j => dgN_len (gs := gs) (bs := bs1) (bad := bad1) hz j
  simp -implicitDefEqProofs only [go_sem]
  refine loop_fam (fun (j : Nat) => j ≤ m) (fun j => ⟨[(0, .ptr 1 0), (1, .sl 2 0 m 2), (4, .v (.int .i64 j))], ⟨[(1, some (wrO 4 (dgN gs bs1 bad1 j).1.length (dgN gs bs1 bad1 j).2)), (2, some ⟨false, .pl (sgP gs)⟩), (4, some ⟨true, .ints .u8 (dgN gs bs1 bad1 j).1⟩)], x⟩, 5⟩) (fun j => m - j) 0 (Nat.zero_le _) ?_ ?_
  · refine sub_mk [] rfl rfl rfl ?_
    simp only [tmSub, hpSub, objSub, eqTm, eqHp, rn, lk, SV.ren, SV.renC, SV.renB, SV.renA, ren_ints, ren_strs, ren_pl, ren_svs, SV.v.injEq, Value.int.injEq, Body.ints.injEq, SV.ptr.injEq, SV.sl.injEq, Value.string.injEq, Value.bool.injEq, List.map_cons, List.map_nil, forall_const, Nat.reduceLT, Nat.lt_add_one, imp_self, true_and, and_true, and_self, ob_some, get_mk, lk_cons, ↓reduceIte, Nat.reduceEqDiff, ne_eq, not_true_eq_false, not_false_eq_true, Nat.one_ne_zero, Nat.zero_ne_one, Nat.succ_ne_self, Nat.reduceAdd, Bool.false_eq_true, false_implies, implies_true, reduceCtorEq, wrO, dgN]
    rfl
  · intro j hj
    have hl := hlen j
    by_cases c1 : j < m
    · have c : decide ((j : Int) < (m : Int)) = true := decide_eq_true (by omega)
      have g1 := sgP_1 (l := gs) (j := j) (by omega)
      have hzj := hz.at j
      have w4 : IntKind.i64.wrap ((j : Int) + 1) = ((j + 1 : Nat) : Int) := by rw [wrap_i64 (by omega) (by omega)]; omega
      by_cases hbad : (dgN gs bs1 bad1 j).2 = true
      · have hst := dgN_stop hbad (m - j)
        rw [show j + (m - j) = m by omega] at hst
        rw [hst]
        generalize dgN gs bs1 bad1 j = q at hbad
        obtain ⟨q1, q2⟩ := q
        simp only at hbad
        subst hbad
        unfold wrO
        simp -implicitDefEqProofs only [go_sem, c]
        refine sub_mk [] rfl rfl rfl ?_
        simp only [tmSub, hpSub, objSub, eqTm, eqHp, rn, lk, SV.ren, SV.renC, SV.renB, SV.renA, ren_ints, ren_strs, ren_pl, ren_svs, SV.v.injEq, Value.int.injEq, Body.ints.injEq, SV.ptr.injEq, SV.sl.injEq, Value.string.injEq, Value.bool.injEq, List.map_cons, List.map_nil, forall_const, Nat.reduceLT, Nat.lt_add_one, imp_self, true_and, and_true, and_self, ob_some, get_mk, lk_cons, ↓reduceIte, Nat.reduceEqDiff, ne_eq, not_true_eq_false, not_false_eq_true, Nat.one_ne_zero, Nat.zero_ne_one, Nat.succ_ne_self, Nat.reduceAdd, Bool.false_eq_true, false_implies, implies_true, reduceCtorEq, wrO]
      · have hbad' : (dgN gs bs1 bad1 j).2 = false := by simpa using hbad
        have hN1 : dgN gs bs1 bad1 (j + 1) = ((dgN gs bs1 bad1 j).1 ++ (if (gs.getD j gE).1.size = 32 then bts (gs.getD j gE).1 else []) ++ (if (gs.getD j gE).2.size < 65536 then be (gs.getD j gE).2.size 2 ++ bts (gs.getD j gE).2 else []),
            (((dgN gs bs1 bad1 j).2 || decide ((gs.getD j gE).1.size ≠ 32)) || nuX (gs.getD j gE).2.size 2)) := if_neg hbad
        obtain ⟨nx, h0, hN⟩ : ∃ q, q = dgN gs bs1 bad1 (j + 1) ∧ q = dgN gs bs1 bad1 (j + 1) := ⟨_, rfl, rfl⟩
        rw [hN1] at hN
        rw [hbad'] at hN ⊢
        obtain ⟨q1, hq1⟩ : ∃ q, q = (dgN gs bs1 bad1 j).1 := ⟨_, rfl⟩
        rw [← hq1] at hN hl ⊢
        unfold wrO
        have gq := g1.1
        have gr := g1.2
        simp -implicitDefEqProofs only [go_sem, c, gq, gr]
        refine ⟨⟨by omega, by omega⟩, ?_⟩
        refine at_call trWHash (dhashS (i := 1) (r := 4) (bs := q1) (bad := false) (h := (gs.getD j gE).1) (by rfl) (by rfl) (by decide) (by decide) (by decide) (by decide) (by omega)) ?_
        have hl2 : (q1 ++ (if (gs.getD j gE).1.size = 32 then bts (gs.getD j gE).1 else [])).length ≤ 1099511627770 := by
          rw [List.length_append]
          have a1 : (if (gs.getD j gE).1.size = 32 then bts (gs.getD j gE).1 else []).length ≤ 1048576 := by
            by_cases c : (gs.getD j gE).1.size = 32
            · rw [if_pos c, bts_len]; exact hzj.1
            · rw [if_neg c]; exact Nat.zero_le _
          omega
        generalize q1 ++ (if (gs.getD j gE).1.size = 32 then bts (gs.getD j gE).1 else []) = cur at hl2 hN ⊢
        generalize (false || decide ((gs.getD j gE).1.size ≠ 32)) = bad2 at hN ⊢
        simp -implicitDefEqProofs only [go_sem, gr]
        refine ⟨⟨by omega, by omega⟩, ?_⟩
        refine at_call trWText (dtextS (i := 1) (r := 5) (bs := cur) (bad := bad2) (t := (gs.getD j gE).2) (by rfl) (by rfl) (by decide) (by decide) (by decide) (by decide) (by omega) (by omega)) ?_
        simp -implicitDefEqProofs only [go_sem, w4]
        refine kLoop_mk (j + 1) (by omega) (by omega) ?_
        refine sub_mk [(4, 6)] rfl rfl rfl ?_
        rw [← h0, hN]
        simp only [tmSub, hpSub, objSub, eqTm, eqHp, rn, lk, SV.ren, SV.renC, SV.renB, SV.renA, ren_ints, ren_strs, ren_pl, ren_svs, SV.v.injEq, Value.int.injEq, Body.ints.injEq, SV.ptr.injEq, SV.sl.injEq, Value.string.injEq, Value.bool.injEq, List.map_cons, List.map_nil, forall_const, Nat.reduceLT, Nat.lt_add_one, imp_self, true_and, and_true, and_self, ob_some, get_mk, lk_cons, ↓reduceIte, Nat.reduceEqDiff, ne_eq, not_true_eq_false, not_false_eq_true, Nat.one_ne_zero, Nat.zero_ne_one, Nat.succ_ne_self, Nat.reduceAdd, Bool.false_eq_true, false_implies, implies_true, reduceCtorEq, w4, wrO]
    · have c : decide ((j : Int) < (m : Int)) = false := decide_eq_false (by omega)
      have c2 : j = m := by omega
      subst c2
      unfold wrO
      simp -implicitDefEqProofs only [go_sem, c]
      refine sub_mk [] rfl rfl rfl ?_
      simp only [tmSub, hpSub, objSub, eqTm, eqHp, rn, lk, SV.ren, SV.renC, SV.renB, SV.renA, ren_ints, ren_strs, ren_pl, ren_svs, SV.v.injEq, Value.int.injEq, Body.ints.injEq, SV.ptr.injEq, SV.sl.injEq, Value.string.injEq, Value.bool.injEq, List.map_cons, List.map_nil, forall_const, Nat.reduceLT, Nat.lt_add_one, imp_self, true_and, and_true, and_self, ob_some, get_mk, lk_cons, ↓reduceIte, Nat.reduceEqDiff, ne_eq, not_true_eq_false, not_false_eq_true, Nat.one_ne_zero, Nat.zero_ne_one, Nat.succ_ne_self, Nat.reduceAdd, Bool.false_eq_true, false_implies, implies_true, reduceCtorEq, wrO]
theorem dlsS {gs : Sg} {bs : List Int} {bad : Bool} {m i a r : Nat} {u : Bool} (hg : H.get i = some (wrO r bs.length bad)) (ha : H.get a = some ⟨u, .pl (sgP gs)⟩) (hr : H.get r = some ⟨true, .ints .u8 bs⟩) (hi : 0 < i ∧ i < 1000) (ha0 : 0 < a) (hr1 : 0 < r ∧ r < 1000) (hne : i ≠ r ∧ i ≠ a ∧ r ≠ a) (hn : n + 1 ≤ 1000)
    (hm : m ≤ gs.length) (hm3 : m ≤ 300) (hz : sgOK gs) (hb : bs.length ≤ 1000000) :
    SpecAt Tryz.prog nrQLaySigs [.ptr i 0, .sl a 0 m 2] H n (.tup []) ⟨(i, some (wrO n (dgN gs (bs ++ nuB m 1) (bad || nuX m 1) m).1.length (dgN gs (bs ++ nuB m 1) (bad || nuX m 1) m).2)) :: (r, none) :: (n, some ⟨true, .ints .u8 (dgN gs (bs ++ nuB m 1) (bad || nuX m 1) m).1⟩) :: H.l, H.x⟩ (n + 1) := by
  obtain ⟨q1, q2, q3⟩ := hne
  have := lift (n := n) (okT.spec trQLaySigs (dlsW (x := H.x) (bad := bad) hm hm3 hz hb)) [(1, i), (2, a), (3, r)] rfl rfl rfl (by omega) rfl rfl
    ⟨sub_wr rfl hi.1 hi.2 hg rfl, sub_ro rfl ha0 ha rfl, sub_wr rfl hr1.1 hr1.2 hr rfl, trivial⟩ (by simp [apartB, apart1, rn, lk, q1, q2, q3, Ne.symm q1, Ne.symm q2, Ne.symm q3]) (by simp [wrNZ, rn, lk]; omega) (by omega)
  exact this
end
end Go.Sx