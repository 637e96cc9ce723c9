/- Bills: the law of a made bill. -/
import Derived.Test.YtbjfkgjijddlpaaBillC

set_option linter.unusedVariables false
set_option linter.unusedSimpArgs false
set_option maxRecDepth 100000
namespace Go.Sx
attribute [local go_sem ↓] bind_mk intsB_mk strsB_mk svB_mk fnVC ob_some vc_skip vc_exit vc_ret vc_seq vc_block kSeq_normal kSeq_exit kSeq_ret kBlock_normal kBlock_exit kBlock_ret vc_reg vc_regD vc_cond condK_true condK_false vc_loop kLoop_exit kLoop_ret kRoll_normal kRoll_exit kRoll_ret vcOps_nil vcOps_cons gd_bool gd_undef put_some put_none vcT_fin vcT_pure vcT_act vcT_acts vcT_stop stab_none stab_some stabM_nil stabM_cons stabO_ld stabO_ldn stabO_slP stabO_b2s fldOf_ai fldOf_agg fldOf_ait fldOf_aggt intsOf_nil intsOf_cons strsOf_nil strsOf_cons c_omap ob_if lk_nil lk_cons ev_t ev_k z_mov z_pick z_bin z_binB z_binP z_un z_r2s z_conv z_s2b z_b2s z_alloc z_bld z_bldI z_rowI z_rowS z_ld z_ldn z_st z_stn asN_ptr asN_fn z_nilck z_fld z_fadr z_idxA z_idxP z_idxS z_idxV z_slS z_slL z_slP z_mk z_lenS z_lenL z_app appC_ints appC_pl appC_sv appC_strs isS_strs loose_ints loose_pl loose_sv z_slM z_callv callvK_fn callvK_f callvK_yl vc_rangeF rfEnd_eq rfGo_none rfGo_ret rfGo_exit yGo_mk yEnd_n yEnd_r yEnd_e yRdy_mk yMid_n putPs_nil putPs_cons leaf_v leaf_ptr leaf_sl leaf_yl leaf_mp z_appS z_appZ z_cpyS z_mkfn reps_int reps_str z_rowV z_slnil nilK_zero z_cpy z_call asT_tup z_extT z_box boxOf_ai boxOf_agg boxOf_int boxOf_str boxOf_bool boxOf_ptr boxOf_sl sbin_int sbin_str sbinB_mk sbinP_nn sbinP_pn sbinP_np i_add i_sub i_mul i_quo i_rem i_and i_or i_xor i_andNot i_shl i_shr i_eql i_neq i_lss i_leq i_gtr i_geq st_add st_eql st_neq st_lss st_leq st_gtr st_geq bo_eql bo_neq pt_eql pt_neq un_neg un_xor un_not asI_mk asB_mk asS_mk asP_mk asSl_mk asBy_mk bnd_none bnd_some get_mk hput_mk hdel_mk kill_eq wrOf_eq rowOf_eq rsvs_0 rsvs_1 rsvs_2 rsvs_3 rsv_t rsv_c1 rsv_cn nt_v nt_ptr nt_sl nt_agg nt_ai get_ints get_strs get_pl get_sv getN_ints getN_sv set_ints set_strs set_sv setN_ints setN_sv part_ints part_strs part_sv cat_ints cat_strs cat_sv over_ints over_strs over_sv ones_ints ones_strs evs_nil evs_cons condK_eqt condK_eqf det_callP V_ns V_nn V_gs V_gn obC_mk fresh_ev setN_plagg setN_intsv setN_svai setN_svagg over_intsv set_pl setN_pl setN_plai getN_pl getN_strs part_pl cat_pl over_pl over_plints z_mm
attribute [local go_sem] initTm ne_eq not_true_eq_false not_false_eq_true true_and and_true List.length_cons List.length_nil Int.toNat_natCast Nat.add_zero Nat.zero_add Nat.mul_one List.getElem?_cons_zero List.drop_zero List.take_length List.take_succ_cons List.take_zero List.take_nil List.drop_succ_cons Option.map_some Nat.le_refl implies_true List.getElem?_cons_succ decide_true decide_false Bool.not_true Bool.not_false beq_self_eq_true Nat.succ_ne_self Nat.one_ne_zero Nat.zero_ne_one vk_mk hk_mk nk_mk tok_eq plsOf_map intsOf_map bodyOf_pl bodyOf_ints bodyOf_strs bodyOf_sv part_aggv part_agg part_ai part_int part_str part_bool part_sl part_ptr part_nil numsOf_map u_int u_str u_bool u_pnil u_sl u_ptr u_oci u_ocs evq_nil evq_cons fillS_nil fillS_cons u_ocb ones_pl cells_sv cells_ints cells_strs cells_pl smms_nil smms_cons smm_min smm_max plsOf_nil List.nil_append List.all_cons List.all_nil Bool.and_self Bool.true_and Bool.and_true zws_len zw_len zi_len List.set_cons_zero List.set_cons_succ List.flatMap_cons List.flatMap_nil List.append_nil
open Go.Proofs
variable {H : Hp} {n : Nat} {x : Nat → Option SO}

theorem billBackW {ver k : Nat} {s : ByteArray} (hv : ver ≤ 255) (hk : k ≤ 255) :
    fnVC CT mBillBack [.v (.int .u8 ver), .v (.int .u8 k), .v (.string s)] ⟨[], x⟩ 1 fun v H' n' => Sub 1 ⟨[(0, .v (.bool true))], ⟨[], x⟩, 1⟩ ⟨[(0, v)], H', n'⟩ := by
  unfold mBillBack
  have g : ∀ z : Int, decide (z = z) = true := fun z => decide_eq_true rfl
  simp -implicitDefEqProofs only [↓fnVC, initTm]
  simp -implicitDefEqProofs only [go_sem, ↓reduceIte, Nat.reduceEqDiff, Nat.reduceAdd, Nat.reduceMul, Nat.reduceLT, Nat.reduceLeDiff, Nat.reduceSub, Int.reduceToNat, Int.reduceLE, Int.reduceLT, reduceCtorEq, Int.reduceEq, Int.reduceGT, Int.reduceGE, Int.reduceNeg]
  refine at_call tbills billsS ?_
  by_cases h0 : ver = 0
  · subst h0
    have b0 : decide (((0 : Nat) : Int) = 0) = true := rfl
    simp -implicitDefEqProofs only [go_sem, ↓reduceIte, Nat.reduceEqDiff, Nat.reduceAdd, Nat.reduceMul, Nat.reduceLT, Nat.reduceLeDiff, Nat.reduceSub, Int.reduceToNat, Int.reduceLE, Int.reduceLT, reduceCtorEq, Int.reduceEq, Int.reduceGT, Int.reduceGE, Int.reduceNeg, b0]
    exact sub_val rfl (by decide) (by decide) rfl
  have b0 : decide ((ver : Int) = 0) = false := decide_eq_false (by omega)
  by_cases h1 : s = ⟨#[]⟩
  · subst h1
    have b1 : seq (⟨#[]⟩ : ByteArray) ⟨#[]⟩ = true := seq_self _
    simp -implicitDefEqProofs only [go_sem, ↓reduceIte, Nat.reduceEqDiff, Nat.reduceAdd, Nat.reduceMul, Nat.reduceLT, Nat.reduceLeDiff, Nat.reduceSub, Int.reduceToNat, Int.reduceLE, Int.reduceLT, reduceCtorEq, Int.reduceEq, Int.reduceGT, Int.reduceGE, Int.reduceNeg, b0, b1]
    exact sub_val rfl (by decide) (by decide) rfl
  have b1 : seq s ⟨#[]⟩ = false := seq_ne h1
  have hs1 : 1 ≤ s.size := by
    rcases Nat.eq_zero_or_pos s.size with h | h
    · exact absurd (ByteArray.ext (Array.eq_empty_of_size_eq_zero h)) h1
    · exact h
  have hM : min (s.size : Int) 8192 = ((min s.size 8192 : Nat) : Int) := by omega
  have e1 : (k : Int).tmod 5 = ((k % 5 : Nat) : Int) := by rw [Int.tmod_eq_emod_of_nonneg (by omega)]; omega
  obtain ⟨c, hc, hpc⟩ : ∃ c : Int, ishl .i64 64 ((k % 5 : Nat) : Int) = c ∧ partB c = true := by
    have : k % 5 < 5 := Nat.mod_lt _ (by decide)
    generalize k % 5 = r at this
    match r, this with
    | 0, _ => exact ⟨64, by decide, by decide⟩
    | 1, _ => exact ⟨128, by decide, by decide⟩
    | 2, _ => exact ⟨256, by decide, by decide⟩
    | 3, _ => exact ⟨512, by decide, by decide⟩
    | 4, _ => exact ⟨1024, by decide, by decide⟩
  have w0 : IntKind.i64.wrap (ver : Int) = ver := wrap_i64 (by omega) (by omega)
  simp -implicitDefEqProofs only [go_sem, ↓reduceIte, Nat.reduceEqDiff, Nat.reduceAdd, Nat.reduceMul, Nat.reduceLT, Nat.reduceLeDiff, Nat.reduceSub, Int.reduceToNat, Int.reduceLE, Int.reduceLT, reduceCtorEq, Int.reduceEq, Int.reduceGT, Int.reduceGE, Int.reduceNeg, b0, b1, hM, e1, hc, w0]
  refine ⟨by omega, by omega, ?_⟩
  have hI : 1 ≤ (s.extract 0 (min s.size 8192)).size ∧ (s.extract 0 (min s.size 8192)).size ≤ 8192 := by rw [ByteArray.size_extract]; omega
  generalize s.extract 0 (min s.size 8192) = I at hI ⊢
  have hP : makeP ver c I := makeP_iff.2 ⟨by omega, by omega, hI.1, hI.2, hpc⟩
  have hcb := partB_bound hpc
  clear hc e1 hM b1 h1 hs1 w0 hk
  obtain ⟨c, rfl⟩ : ∃ q : Nat, c = q := ⟨c.toNat, by omega⟩
  have hget : ∀ j, j < cK c I → (makeL ver c I).getD j .empty = ckl c I j := by
    intro j hj
    unfold makeL
    rw [if_pos hP, Int.toNat_natCast]
    unfold cks
    rw [List.getD_eq_getElem?_getD, List.getElem?_map, List.getElem?_range hj]
    rfl
  obtain ⟨V, S, C, h, t, e, hV, hk, h32, hT, _⟩ := makeV_form ver c I
  obtain ⟨rfl, rfl, rfl, rfl, rfl, _, hck, hlen⟩ := hT hP
  rw [Int.toNat_natCast] at hlen
  refine at_call tBMake (makeS (by decide)) ?_
  rw [hV]
  clear hT hV hP
  generalize makeL ver c I = L at hk h32 hck hlen hget ⊢
  have ht32 : t.size = 32 := hck.2.2.2.2.2.2.1
  have eL : (L.drop 0).take L.length = L := by rw [List.drop_zero]; exact List.take_of_length_le (Nat.le_refl _)
  have hsz : szB ((L.drop 0).take L.length) := fun q hq => by rw [h32 q (List.mem_of_mem_drop (List.mem_of_mem_take hq))]; decide
  have hcnt : cntV ver I.size c (sha (bts I)) t L = (L.length : Nat) := by unfold cntV; rw [if_pos hck, hlen, cnt_cK (by omega)]
  have hwh : wholeE ver I.size c (sha (bts I)) t L I = 0 := by unfold wholeE; rw [if_neg (by simp [hck]), if_neg (by simp), if_neg (by simp)]
  simp -implicitDefEqProofs only [go_sem, ↓reduceIte, Nat.reduceEqDiff, Nat.reduceAdd, Nat.reduceMul, Nat.reduceLT, Nat.reduceLeDiff, Nat.reduceSub, Int.reduceToNat, Int.reduceLE, Int.reduceLT, reduceCtorEq, Int.reduceEq, Int.reduceGT, Int.reduceGE, Int.reduceNeg, blA, sp6]
  refine at_call tBWhole (wholeS (i := 1) (o := 0) (m := L.length) (ss := L) (by rfl) (by omega) (by omega) hsz) ?_
  rw [eL, hwh]
  simp -implicitDefEqProofs only [go_sem, ↓reduceIte, Nat.reduceEqDiff, Nat.reduceAdd, Nat.reduceMul, Nat.reduceLT, Nat.reduceLeDiff, Nat.reduceSub, Int.reduceToNat, Int.reduceLE, Int.reduceLT, reduceCtorEq, Int.reduceEq, Int.reduceGT, Int.reduceGE, Int.reduceNeg, blA, sp6]
  refine at_call tBCount (countBS (i := 1) (o := 0) (m := L.length) (ss := L) (by rfl) (by omega) (by omega) hsz) ?_
  rw [eL, hcnt]
  simp -implicitDefEqProofs only [go_sem, ↓reduceIte, Nat.reduceEqDiff, Nat.reduceAdd, Nat.reduceMul, Nat.reduceLT, Nat.reduceLeDiff, Nat.reduceSub, Int.reduceToNat, Int.reduceLE, Int.reduceLT, reduceCtorEq, Int.reduceEq, Int.reduceGT, Int.reduceGE, Int.reduceNeg, blA, sp6, g]
  have hK : cK c I ≤ 128 := by rw [← hlen]; exact hk
  refine loop_fam (fun (j : Nat) => j ≤ L.length)
    (fun j => ⟨[(2, .v (.string I)), (7, .ptr 2 0), (9, .v (.int .i64 (min (j * c) I.size : Nat))), (64, .v (.int .i64 L.length)), (65, .v (.int .i64 j))], ⟨[(1, some ⟨true, .strs L⟩), (2, some ⟨true, .sv [.v (.int .i64 ver), .v (.int .i64 I.size), .v (.int .i64 c), .v (.string (sha (bts I))), .v (.string t), .sl 1 0 L.length 1]⟩)], x⟩, 3⟩) (fun j => L.length - j) 0 (Nat.zero_le _) ?_ ?_
  · refine sub_mk [] rfl rfl rfl ?_
    rw [Nat.zero_mul, Nat.zero_min]
    simp only [tmSub, hpSub, objSub, eqTm, eqHp, rn, lk, SV.ren, SV.renC, SV.renB, SV.renA, ren_ints, ren_strs, ren_pl, ren_svs, SV.v.injEq, Value.int.injEq, Body.ints.injEq, SV.ptr.injEq, SV.sl.injEq, Value.string.injEq, Value.bool.injEq, List.map_cons, List.map_nil, forall_const, Nat.reduceLT, Nat.lt_add_one, imp_self, true_and, and_true, and_self, ob_some, get_mk, lk_cons, ↓reduceIte, Nat.reduceEqDiff, ne_eq, not_true_eq_false, not_false_eq_true, Nat.one_ne_zero, Nat.zero_ne_one, Nat.succ_ne_self, Nat.reduceAdd, Bool.false_eq_true, false_implies, implies_true, reduceCtorEq]
    rfl
  · intro j hj
    simp -implicitDefEqProofs only [go_sem, ↓reduceIte, Nat.reduceEqDiff, Nat.reduceAdd, Nat.reduceMul, Nat.reduceLT, Nat.reduceLeDiff, Nat.reduceSub, Int.reduceToNat, Int.reduceLE, Int.reduceLT, reduceCtorEq, Int.reduceEq, Int.reduceGT, Int.reduceGE, Int.reduceNeg]
    refine condK_bb (fun d => ?_) (fun d => ?_)
    · have d1 : j < L.length := by have := of_decide_eq_true d; omega
      have d2 : j * c < I.size := (lt_cK (by omega)).1 (by omega)
      have hi : 0 ≤ (j : Int) ∧ (j : Int) < cntV ver I.size c (sha (bts I)) t L := by rw [hcnt]; omega
      have hcA : cutA ver I.size c (sha (bts I)) t L j = ((j * c : Nat) : Int) := by unfold cutA; rw [if_pos hi]; rfl
      have hcZ : cutZ ver I.size c (sha (bts I)) t L j = ((min (j * c + c) I.size : Nat) : Int) := by
        unfold cutZ; rw [if_pos hi]
        have : (j : Int) * (c : Int) = ((j * c : Nat) : Int) := rfl
        rw [this]; omega
      have hft : fitE ver I.size c (sha (bts I)) t L j (I.extract (j * c) (min (j * c + c) I.size)) = 0 := by
        unfold fitE
        rw [hcA, hcZ, Int.toNat_natCast, hget j (by omega)]
        have z1 : (I.extract (j * c) (min (j * c + c) I.size)).size = min (j * c + c) I.size - j * c := by rw [ByteArray.size_extract]; omega
        rw [if_neg (by
          intro h
          rcases h with h | h
          · omega
          · rw [h] at d1; simp at d1), if_neg (by rw [z1]; omega), if_neg (by simp [ckl])]
      simp -implicitDefEqProofs only [go_sem, ↓reduceIte, Nat.reduceEqDiff, Nat.reduceAdd, Nat.reduceMul, Nat.reduceLT, Nat.reduceLeDiff, Nat.reduceSub, Int.reduceToNat, Int.reduceLE, Int.reduceLT, reduceCtorEq, Int.reduceEq, Int.reduceGT, Int.reduceGE, Int.reduceNeg, d, blA, sp6]
      refine at_call tBCut (cutBS (i := 1) (o := 0) (m := L.length) (ss := L) (by rfl) (by omega) (by omega) hsz) ?_
      rw [eL, hcA, hcZ]
      have c1 : decide (((j * c : Nat) : Int) = ((min (j * c) I.size : Nat) : Int)) = true := decide_eq_true (by omega)
      have c2 : decide (((min (j * c + c) I.size : Nat) : Int) ≤ ((j * c : Nat) : Int)) = false := decide_eq_false (by omega)
      have c3 : decide (((min (j * c + c) I.size : Nat) : Int) > (I.size : Int)) = false := decide_eq_false (by omega)
      simp -implicitDefEqProofs only [go_sem, ↓reduceIte, Nat.reduceEqDiff, Nat.reduceAdd, Nat.reduceMul, Nat.reduceLT, Nat.reduceLeDiff, Nat.reduceSub, Int.reduceToNat, Int.reduceLE, Int.reduceLT, reduceCtorEq, Int.reduceEq, Int.reduceGT, Int.reduceGE, Int.reduceNeg, c1, c2, c3]
      refine ⟨by omega, ?_⟩
      refine at_call tBFits (fitsS (i := 1) (o := 0) (m := L.length) (ss := L) (by rfl) (by omega) (by omega) hsz) ?_
      rw [eL, hft]
      have w4 : IntKind.i64.wrap ((j : Int) + 1) = ((j + 1 : Nat) : Int) := by rw [wrap_i64 (by omega) (by omega)]; omega
      simp -implicitDefEqProofs only [go_sem, ↓reduceIte, Nat.reduceEqDiff, Nat.reduceAdd, Nat.reduceMul, Nat.reduceLT, Nat.reduceLeDiff, Nat.reduceSub, Int.reduceToNat, Int.reduceLE, Int.reduceLT, reduceCtorEq, Int.reduceEq, Int.reduceGT, Int.reduceGE, Int.reduceNeg, w4]
      refine kLoop_mk (j + 1) (by omega) (by omega) ?_
      refine sub_mk [] rfl rfl rfl ?_
      rw [Nat.succ_mul]
      simp only [tmSub, hpSub, objSub, eqTm, eqHp, rn, lk, SV.ren, SV.renC, SV.renB, SV.renA, ren_ints, ren_strs, ren_pl, ren_svs, SV.v.injEq, Value.int.injEq, Body.ints.injEq, SV.ptr.injEq, SV.sl.injEq, Value.string.injEq, Value.bool.injEq, List.map_cons, List.map_nil, forall_const, Nat.reduceLT, Nat.lt_add_one, imp_self, true_and, and_true, and_self, ob_some, get_mk, lk_cons, ↓reduceIte, Nat.reduceEqDiff, ne_eq, not_true_eq_false, not_false_eq_true, Nat.one_ne_zero, Nat.zero_ne_one, Nat.succ_ne_self, Nat.reduceAdd, Bool.false_eq_true, false_implies, implies_true, reduceCtorEq]
    · have d1 : j = L.length := by have := of_decide_eq_false d; omega
      subst d1
      have hend : min (L.length * c) I.size = I.size := by
        have := lt_cK (c := c) (j := L.length) (s := I) (by omega)
        omega
      rw [hend]
      have hver : ver < 256 := by omega
      have hck0 : ckP ver I.size c (sha (bts I)) t [] := ⟨hck.1, hck.2.1, hck.2.2.1, hck.2.2.2.1, hck.2.2.2.2.1, hck.2.2.2.2.2.1, hck.2.2.2.2.2.2.1, .inl rfl⟩
      obtain ⟨T, hTd⟩ : ∃ T, leafT ver I.size c (sha (bts I)) t = T := ⟨_, rfl⟩
      obtain ⟨U, hU⟩ : ∃ U, T ++ tx (catb L) = U := ⟨_, rfl⟩
      have hBy : bytesV ver I.size c (sha (bts I)) t L = .tup [.v (.string U), .v (.int .i64 0)] := by unfold bytesV; rw [if_pos hck, hTd, hU]
      have hLf : leafV ver I.size c (sha (bts I)) t L = .tup [.v (.string T), .v (.int .i64 0)] := by unfold leafV; rw [if_pos hck, hTd]
      have hLf0 : leafV ver I.size c (sha (bts I)) t [] = .tup [.v (.string T), .v (.int .i64 0)] := by unfold leafV; rw [if_pos hck0, hTd]
      have hwh0 : wholeE ver I.size c (sha (bts I)) t [] I = 0 := by unfold wholeE; rw [if_neg (by simp [hck0]), if_neg (by simp), if_neg (by simp)]
      have hft0 : fitE ver I.size c (sha (bts I)) t [] 0 I = 1 := by unfold fitE; rw [if_pos (.inr rfl)]
      obtain ⟨r1, r2, r3, r4, r5, r6, r7⟩ := own_read (ver := ver) (sz := I.size) (ch := c) (h := sha (bts I)) (t := t) (l := L) hver (by omega) (by omega) (sha_size _) ht32 h32 (s := U) (by rw [hTd, hU])
      have q1 : (U.size - 71) / 32 = L.length := by omega
      have hPU : readP U := ⟨by omega, by omega, by rw [q1, r2, r3, r4, r5, r6, r7]; exact hck⟩
      have hVU : ∀ i, readV U i = .tup [blA ver I.size c (sha (bts I)) t i 0 L.length, .v (.int .i64 0)] := fun i => by unfold readV; rw [if_pos hPU, r2, r3, r4, r5, r6, q1]
      have hLU : readL U = L := by unfold readL; rw [if_pos hPU, q1, r7]
      obtain ⟨y1, y2, y3, y4, y5, y6, y7⟩ := own_read (ver := ver) (sz := I.size) (ch := c) (h := sha (bts I)) (t := t) (l := []) hver (by omega) (by omega) (sha_size _) ht32 (fun q hq => by cases hq) (s := T) (by rw [hTd]; apply ByteArray.ext; simp [catb, tx])
      rw [List.length_nil] at y1 y7
      have q2 : (T.size - 71) / 32 = 0 := by omega
      have hPT : readP T := ⟨by omega, by omega, by rw [q2, y2, y3, y4, y5, y6, y7]; exact hck0⟩
      have hVT : ∀ i, readV T i = .tup [blA ver I.size c (sha (bts I)) t i 0 0, .v (.int .i64 0)] := fun i => by unfold readV; rw [if_pos hPT, y2, y3, y4, y5, y6, q2]
      have hLT : readL T = [] := by unfold readL; rw [if_pos hPT, q2, y7]
      have eN : (([] : List ByteArray).drop 0).take 0 = [] := rfl
      simp -implicitDefEqProofs only [go_sem, ↓reduceIte, Nat.reduceEqDiff, Nat.reduceAdd, Nat.reduceMul, Nat.reduceLT, Nat.reduceLeDiff, Nat.reduceSub, Int.reduceToNat, Int.reduceLE, Int.reduceLT, reduceCtorEq, Int.reduceEq, Int.reduceGT, Int.reduceGE, Int.reduceNeg, d, blA]
      refine at_call tBBytes (bytesBS (i := 1) (o := 0) (m := L.length) (ss := L) (by rfl) (by omega) (by omega) hsz) ?_
      rw [eL, hBy]
      simp -implicitDefEqProofs only [go_sem, ↓reduceIte, Nat.reduceEqDiff, Nat.reduceAdd, Nat.reduceMul, Nat.reduceLT, Nat.reduceLeDiff, Nat.reduceSub, Int.reduceToNat, Int.reduceLE, Int.reduceLT, reduceCtorEq, Int.reduceEq, Int.reduceGT, Int.reduceGE, Int.reduceNeg, blA, sp6]
      refine at_call tBRead (readS (by decide) (by omega)) ?_
      rw [hVU, hLU]
      simp -implicitDefEqProofs only [go_sem, ↓reduceIte, Nat.reduceEqDiff, Nat.reduceAdd, Nat.reduceMul, Nat.reduceLT, Nat.reduceLeDiff, Nat.reduceSub, Int.reduceToNat, Int.reduceLE, Int.reduceLT, reduceCtorEq, Int.reduceEq, Int.reduceGT, Int.reduceGE, Int.reduceNeg, blA, sp6]
      refine at_call tBLeaf (leafBS (i := 1) (o := 0) (m := L.length) (ss := L) (by rfl) (by omega) (by omega) hsz) ?_
      rw [eL, hLf]
      simp -implicitDefEqProofs only [go_sem, ↓reduceIte, Nat.reduceEqDiff, Nat.reduceAdd, Nat.reduceMul, Nat.reduceLT, Nat.reduceLeDiff, Nat.reduceSub, Int.reduceToNat, Int.reduceLE, Int.reduceLT, reduceCtorEq, Int.reduceEq, Int.reduceGT, Int.reduceGE, Int.reduceNeg, blA, sp6]
      refine at_call tBRead (readS (by decide) (by omega)) ?_
      rw [hVT, hLT]
      simp -implicitDefEqProofs only [go_sem, ↓reduceIte, Nat.reduceEqDiff, Nat.reduceAdd, Nat.reduceMul, Nat.reduceLT, Nat.reduceLeDiff, Nat.reduceSub, Int.reduceToNat, Int.reduceLE, Int.reduceLT, reduceCtorEq, Int.reduceEq, Int.reduceGT, Int.reduceGE, Int.reduceNeg, blA, sp6]
      refine at_call tBLeaf (leafBS (i := 5) (o := 0) (m := 0) (ss := []) (by rfl) (by decide) (by decide) (by rw [eN]; exact fun q hq => by cases hq)) ?_
      rw [eN, hLf0]
      simp -implicitDefEqProofs only [go_sem, ↓reduceIte, Nat.reduceEqDiff, Nat.reduceAdd, Nat.reduceMul, Nat.reduceLT, Nat.reduceLeDiff, Nat.reduceSub, Int.reduceToNat, Int.reduceLE, Int.reduceLT, reduceCtorEq, Int.reduceEq, Int.reduceGT, Int.reduceGE, Int.reduceNeg, blA, sp6, g]
      refine at_call trBSame (sameBS (a := 3) (b := 1) (ss := L) (by rfl) (by rfl) rfl (by omega)) ?_
      have g0 : decide (((0 : Nat) : Int) = 0) = true := rfl
      simp -implicitDefEqProofs only [go_sem, ↓reduceIte, Nat.reduceEqDiff, Nat.reduceAdd, Nat.reduceMul, Nat.reduceLT, Nat.reduceLeDiff, Nat.reduceSub, Int.reduceToNat, Int.reduceLE, Int.reduceLT, reduceCtorEq, Int.reduceEq, Int.reduceGT, Int.reduceGE, Int.reduceNeg, blA, sp6, g, g0, seq_self]
      refine at_call tBWhole (wholeS (i := 5) (o := 0) (m := 0) (ss := []) (by rfl) (by decide) (by decide) (by rw [eN]; exact fun q hq => by cases hq)) ?_
      rw [eN, hwh0]
      simp -implicitDefEqProofs only [go_sem, ↓reduceIte, Nat.reduceEqDiff, Nat.reduceAdd, Nat.reduceMul, Nat.reduceLT, Nat.reduceLeDiff, Nat.reduceSub, Int.reduceToNat, Int.reduceLE, Int.reduceLT, reduceCtorEq, Int.reduceEq, Int.reduceGT, Int.reduceGE, Int.reduceNeg, blA, sp6, g]
      refine at_call tBFits (fitsS (i := 5) (o := 0) (m := 0) (ss := []) (by rfl) (by decide) (by decide) (by rw [eN]; exact fun q hq => by cases hq)) ?_
      rw [eN, hft0]
      simp -implicitDefEqProofs only [go_sem, ↓reduceIte, Nat.reduceEqDiff, Nat.reduceAdd, Nat.reduceMul, Nat.reduceLT, Nat.reduceLeDiff, Nat.reduceSub, Int.reduceToNat, Int.reduceLE, Int.reduceLT, reduceCtorEq, Int.reduceEq, Int.reduceGT, Int.reduceGE, Int.reduceNeg]
      exact sub_val rfl (by decide) (by decide) rfl
end Go.Sx
