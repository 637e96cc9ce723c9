/- Bills: read from bytes. -/
import Derived.Test.YtbjfkgjijddlpaaBillB

set_option linter.unusedVariables false
set_option linter.unusedSimpArgs false
set_option maxRecDepth 100000
namespace Go.Sx
attribute [local go_sem ↓] bind_mk intsB_mk strsB_mk svB_mk fnVC ob_some vc_skip vc_exit vc_ret vc_seq vc_block kSeq_normal kSeq_exit kSeq_ret kBlock_normal kBlock_exit kBlock_ret vc_reg vc_regD vc_cond condK_true condK_false vc_loop kLoop_exit kLoop_ret kRoll_normal kRoll_exit kRoll_ret vcOps_nil vcOps_cons gd_bool gd_undef put_some put_none vcT_fin vcT_pure vcT_act vcT_acts vcT_stop stab_none stab_some stabM_nil stabM_cons stabO_ld stabO_ldn stabO_slP stabO_b2s fldOf_ai fldOf_agg fldOf_ait fldOf_aggt intsOf_nil intsOf_cons strsOf_nil strsOf_cons c_omap ob_if lk_nil lk_cons ev_t ev_k z_mov z_pick z_bin z_binB z_binP z_un z_r2s z_conv z_s2b z_b2s z_alloc z_bld z_bldI z_rowI z_rowS z_ld z_ldn z_st z_stn asN_ptr asN_fn z_nilck z_fld z_fadr z_idxA z_idxP z_idxS z_idxV z_slS z_slL z_slP z_mk z_lenS z_lenL z_app appC_ints appC_pl appC_sv appC_strs isS_strs loose_ints loose_pl loose_sv z_slM z_callv callvK_fn callvK_f callvK_yl vc_rangeF rfEnd_eq rfGo_none rfGo_ret rfGo_exit yGo_mk yEnd_n yEnd_r yEnd_e yRdy_mk yMid_n putPs_nil putPs_cons leaf_v leaf_ptr leaf_sl leaf_yl leaf_mp z_appS z_appZ z_cpyS z_mkfn reps_int reps_str z_rowV z_slnil nilK_zero z_cpy z_call asT_tup z_extT z_box boxOf_ai boxOf_agg boxOf_int boxOf_str boxOf_bool boxOf_ptr boxOf_sl sbin_int sbin_str sbinB_mk sbinP_nn sbinP_pn sbinP_np i_add i_sub i_mul i_quo i_rem i_and i_or i_xor i_andNot i_shl i_shr i_eql i_neq i_lss i_leq i_gtr i_geq st_add st_eql st_neq st_lss st_leq st_gtr st_geq bo_eql bo_neq pt_eql pt_neq un_neg un_xor un_not asI_mk asB_mk asS_mk asP_mk asSl_mk asBy_mk bnd_none bnd_some get_mk hput_mk hdel_mk kill_eq wrOf_eq rowOf_eq rsvs_0 rsvs_1 rsvs_2 rsvs_3 rsv_t rsv_c1 rsv_cn nt_v nt_ptr nt_sl nt_agg nt_ai get_ints get_strs get_pl get_sv getN_ints getN_sv set_ints set_strs set_sv setN_ints setN_sv part_ints part_strs part_sv cat_ints cat_strs cat_sv over_ints over_strs over_sv ones_ints ones_strs evs_nil evs_cons condK_eqt condK_eqf det_callP V_ns V_nn V_gs V_gn obC_mk fresh_ev setN_plagg setN_intsv setN_svai setN_svagg over_intsv set_pl setN_pl setN_plai getN_pl getN_strs part_pl cat_pl over_pl over_plints z_mm
attribute [local go_sem] initTm ne_eq not_true_eq_false not_false_eq_true true_and and_true List.length_cons List.length_nil Int.toNat_natCast Nat.add_zero Nat.zero_add Nat.mul_one List.getElem?_cons_zero List.drop_zero List.take_length List.take_succ_cons List.take_zero List.take_nil List.drop_succ_cons Option.map_some Nat.le_refl implies_true List.getElem?_cons_succ decide_true decide_false Bool.not_true Bool.not_false beq_self_eq_true Nat.succ_ne_self Nat.one_ne_zero Nat.zero_ne_one vk_mk hk_mk nk_mk tok_eq plsOf_map intsOf_map bodyOf_pl bodyOf_ints bodyOf_strs bodyOf_sv part_aggv part_agg part_ai part_int part_str part_bool part_sl part_ptr part_nil numsOf_map u_int u_str u_bool u_pnil u_sl u_ptr u_oci u_ocs evq_nil evq_cons fillS_nil fillS_cons u_ocb ones_pl cells_sv cells_ints cells_strs cells_pl smms_nil smms_cons smm_min smm_max plsOf_nil List.nil_append List.all_cons List.all_nil Bool.and_self Bool.true_and Bool.and_true zws_len zw_len zi_len List.set_cons_zero List.set_cons_succ List.flatMap_cons List.flatMap_nil List.append_nil
open Go.Proofs
variable {H : Hp} {n : Nat} {x : Nat → Option SO}

theorem rawT_size {s : ByteArray} {e : Int} {k : Nat} : (rawT s e k).size ≤ k := by
  unfold rawT
  split
  · exact Nat.zero_le _
  · rw [ByteArray.size_extract]; omega
theorem rnumW {s : ByteArray} {e : Int} {k : Nat} (hk : k ≤ 7) : fnVC CT mrRNumber [.ptr 1 0, .v (.int .i64 k)] ⟨[(1, some (rdO s e))], x⟩ 2 fun v H' n' => Sub 2 ⟨[(0, .v (.int .i64 (num (rawT s e k) : Nat)))], ⟨[(1, some (rdO (rawS s e k) (rawE s e k)))], x⟩, 2⟩ ⟨[(0, v)], H', n'⟩ := by
  unfold mrRNumber
  have hok : numOK (rawT s e k) := .inl (by have := rawT_size (s := s) (e := e) (k := k); omega)
  have g8 : decide ((k : Int) = 8) = false := decide_eq_false (by omega)
  simp -implicitDefEqProofs only [↓fnVC, initTm]
  simp -implicitDefEqProofs only [go_sem, ↓reduceIte, Nat.reduceEqDiff, Nat.reduceAdd, Nat.reduceMul, Nat.reduceLT, Nat.reduceLeDiff, Nat.reduceSub, Int.reduceToNat, Int.reduceLE, Int.reduceLT, reduceCtorEq, Int.reduceEq, Int.reduceGT, Int.reduceGE, Int.reduceNeg, g8]
  refine at_call trRRaw (rrawSp (i := 1) (k := k) (s := s) (e := e) (by rfl) (by decide) (by omega)) ?_
  generalize rawT s e k = T at hok ⊢
  have hsz : T.size ≤ 8 := by rcases hok with h | h <;> omega
  simp -implicitDefEqProofs only [go_sem, ↓reduceIte, Nat.reduceEqDiff, Nat.reduceAdd, Nat.reduceMul, Nat.reduceLT, Nat.reduceLeDiff, Nat.reduceSub, Int.reduceToNat, Int.reduceLE, Int.reduceLT, reduceCtorEq, Int.reduceEq, Int.reduceGT, Int.reduceGE, Int.reduceNeg]
  refine loop_fam (fun (j : Nat) => j ≤ T.size) (fun j => ⟨[(5, .v (.string T)), (6, .v (.int .i64 (nvl ((nbs T).take j) : Nat))), (7, .v (.int .i64 j))], ⟨[(1, some (rdO (rawS s e k) (rawE s e k)))], x⟩, 2⟩) (fun j => T.size - j) 0 (Nat.zero_le _) ?_ ?_
  · refine sub_mk [] rfl rfl rfl ?_
    simp only [tmSub, hpSub, objSub, eqTm, eqHp, rn, lk, SV.ren, SV.renC, SV.renB, SV.renA, ren_ints, ren_strs, ren_pl, ren_svs, SV.v.injEq, Value.int.injEq, Body.ints.injEq, SV.ptr.injEq, SV.sl.injEq, Value.string.injEq, Value.bool.injEq, List.map_cons, List.map_nil, forall_const, Nat.reduceLT, Nat.lt_add_one, imp_self, true_and, and_true, and_self, ob_some, get_mk, lk_cons, ↓reduceIte, Nat.reduceEqDiff, ne_eq, not_true_eq_false, not_false_eq_true, Nat.one_ne_zero, Nat.zero_ne_one, Nat.succ_ne_self, Nat.reduceAdd, Bool.false_eq_true, false_implies, implies_true, reduceCtorEq]
    exact ⟨⟨rfl, rfl⟩, rfl⟩
  · intro j hj
    simp -implicitDefEqProofs only [go_sem, ↓reduceIte, Nat.reduceEqDiff, Nat.reduceAdd, Nat.reduceMul, Nat.reduceLT, Nat.reduceLeDiff, Nat.reduceSub, Int.reduceToNat, Int.reduceLE, Int.reduceLT, reduceCtorEq, Int.reduceEq, Int.reduceGT, Int.reduceGE, Int.reduceNeg]
    refine condK_bb (fun c => ?_) (fun c => ?_)
    · have c1 : j < T.size := by have := of_decide_eq_true c; omega
      have hb := bts_getD c1
      have hlt := nbs_get_lt c1
      have hv := hok.lt c1
      have w1 := ishl_8 hv
      have w2 : IntKind.i64.wrap (((nbs T).getD j 0 : Nat) : Int) = (((nbs T).getD j 0 : Nat) : Int) := wrap_i64 (by omega) (by omega)
      have w3 := ior_byte hv hlt
      have w4 : IntKind.i64.wrap ((j : Int) + 1) = ((j + 1 : Nat) : Int) := by rw [wrap_i64 (by omega) (by omega)]; omega
      have hs := num_step c1
      simp -implicitDefEqProofs only [go_sem, ↓reduceIte, Nat.reduceEqDiff, Nat.reduceAdd, Nat.reduceMul, Nat.reduceLT, Nat.reduceLeDiff, Nat.reduceSub, Int.reduceToNat, Int.reduceLE, Int.reduceLT, reduceCtorEq, Int.reduceEq, Int.reduceGT, Int.reduceGE, Int.reduceNeg, c, hb, w1, w2, w3, w4]
      refine ⟨⟨by omega, by omega⟩, ?_⟩
      refine kLoop_mk (j + 1) (by omega) (by omega) ?_
      refine sub_mk [] rfl rfl rfl ?_
      simp only [tmSub, hpSub, objSub, eqTm, eqHp, rn, lk, SV.ren, SV.renC, SV.renB, SV.renA, ren_ints, ren_strs, ren_pl, ren_svs, SV.v.injEq, Value.int.injEq, Body.ints.injEq, SV.ptr.injEq, SV.sl.injEq, Value.string.injEq, Value.bool.injEq, List.map_cons, List.map_nil, forall_const, Nat.reduceLT, Nat.lt_add_one, imp_self, true_and, and_true, and_self, ob_some, get_mk, lk_cons, ↓reduceIte, Nat.reduceEqDiff, ne_eq, not_true_eq_false, not_false_eq_true, Nat.one_ne_zero, Nat.zero_ne_one, Nat.succ_ne_self, Nat.reduceAdd, Bool.false_eq_true, false_implies, implies_true, reduceCtorEq, w4, hs]
      rfl
    · have c1 : j = T.size := by have := of_decide_eq_false c; omega
      subst c1
      have hn : nvl ((nbs T).take T.size) = num T := by unfold num; rw [List.take_of_length_le (by rw [nbs_len]; exact Nat.le_refl _)]
      simp -implicitDefEqProofs only [go_sem, ↓reduceIte, Nat.reduceEqDiff, Nat.reduceAdd, Nat.reduceMul, Nat.reduceLT, Nat.reduceLeDiff, Nat.reduceSub, Int.reduceToNat, Int.reduceLE, Int.reduceLT, reduceCtorEq, Int.reduceEq, Int.reduceGT, Int.reduceGE, Int.reduceNeg, c]
      rw [hn]
      refine sub_mk [] rfl rfl rfl ?_
      simp only [tmSub, hpSub, objSub, eqTm, eqHp, rn, lk, SV.ren, SV.renC, SV.renB, SV.renA, ren_ints, ren_strs, ren_pl, ren_svs, SV.v.injEq, Value.int.injEq, Body.ints.injEq, SV.ptr.injEq, SV.sl.injEq, Value.string.injEq, Value.bool.injEq, List.map_cons, List.map_nil, forall_const, Nat.reduceLT, Nat.lt_add_one, imp_self, true_and, and_true, and_self, ob_some, get_mk, lk_cons, ↓reduceIte, Nat.reduceEqDiff, ne_eq, not_true_eq_false, not_false_eq_true, Nat.one_ne_zero, Nat.zero_ne_one, Nat.succ_ne_self, Nat.reduceAdd, Bool.false_eq_true, false_implies, implies_true, reduceCtorEq]
      rfl
theorem rnumSp {s : ByteArray} {e : Int} {k i : Nat} (hg : H.get i = some (rdO s e)) (hi : 0 < i ∧ i < 1000) (hk : k ≤ 7) :
    SpecAt Try.prog nrRNumber [.ptr i 0, .v (.int .i64 k)] H n (.v (.int .i64 (num (rawT s e k) : Nat))) ⟨(i, some (rdO (rawS s e k) (rawE s e k))) :: H.l, H.x⟩ n := by
  have := lift (n := n) (okT.spec trRNumber (rnumW (x := H.x) (s := s) (e := e) hk)) [(1, i)] rfl rfl rfl (by omega) rfl rfl
    ⟨sub_wr rfl hi.1 hi.2 hg rfl, trivial⟩ (by simp [apartB, apart1, rn, lk]) (by simp [wrNZ, rn, lk]; omega) (by omega)
  exact this
theorem raw_zero {s : ByteArray} {e : Int} {k : Nat} (h : rawE s e k = 0) : e = 0 ∧ k ≤ s.size := by
  unfold rawE at h
  split at h
  · rename_i he; exact absurd h he
  · rename_i he
    split at h
    · cases h
    · exact ⟨by omega, by omega⟩
theorem raw_size {s : ByteArray} {e : Int} {k : Nat} (h : rawE s e k = 0) : (rawS s e k).size = s.size - k := by
  obtain ⟨h1, h2⟩ := raw_zero h
  unfold rawS
  rw [if_neg (by omega), ByteArray.size_extract]; omega
theorem ext_ext {s : ByteArray} {k a b : Nat} (h : k + b ≤ s.size) : (s.extract k s.size).extract a b = s.extract (k + a) (k + b) := by
  have hb : ∀ {p q : ByteArray}, p.data = q.data → p = q := fun h => ByteArray.ext h
  apply hb
  simp only [ByteArray.data_extract, Array.extract_extract]
  congr 1
  omega
theorem rd_at {s : ByteArray} {k w : Nat} (h : k + w ≤ s.size) : rawS (s.extract k s.size) 0 w = s.extract (k + w) s.size ∧ rawE (s.extract k s.size) 0 w = 0 ∧ rawT (s.extract k s.size) 0 w = s.extract k (k + w) := by
  have hz : (s.extract k s.size).size = s.size - k := by rw [ByteArray.size_extract]; omega
  refine ⟨?_, ?_, ?_⟩
  · unfold rawS; rw [if_neg (by omega), hz, ext_ext (by omega)]; congr 1; omega
  · unfold rawE; rw [if_neg (by omega), if_neg (by omega)]
  · unfold rawT; rw [if_neg (by omega), ext_ext h]; rfl
theorem ext_all (s : ByteArray) : s.extract 0 s.size = s := by
  apply ByteArray.ext
  simp
def rVer (s : ByteArray) : Nat := num (s.extract 0 1)
def rSz (s : ByteArray) : Nat := num (s.extract 1 5)
def rCh (s : ByteArray) : Nat := num (s.extract 5 7)
def rH (s : ByteArray) : ByteArray := s.extract 7 39
def rT (s : ByteArray) : ByteArray := s.extract 39 71
def chs (s : ByteArray) (j : Nat) : List ByteArray := (List.range j).map fun i => s.extract (71 + 32 * i) (71 + 32 * i + 32)
theorem chs_len {s : ByteArray} {j : Nat} : (chs s j).length = j := by simp [chs]
theorem chs_succ {s : ByteArray} {j : Nat} : chs s (j + 1) = chs s j ++ [s.extract (71 + 32 * j) (71 + 32 * j + 32)] := by simp [chs, List.range_succ]
theorem chs_size {s : ByteArray} {j : Nat} : ∀ q ∈ chs s j, q.size ≤ 32 := by
  intro q hq
  obtain ⟨i, _, rfl⟩ := List.mem_map.1 hq
  rw [ByteArray.size_extract]; omega
def readP (s : ByteArray) : Prop := 71 ≤ s.size ∧ (s.size - 71) % 32 = 0 ∧ ckP (rVer s) (rSz s) (rCh s) (rH s) (rT s) (chs s ((s.size - 71) / 32))
instance {s : ByteArray} : Decidable (readP s) := by unfold readP; infer_instance
def readL (s : ByteArray) : List ByteArray := if readP s then chs s ((s.size - 71) / 32) else []
def readV (s : ByteArray) (i : Nat) : SV := if readP s then .tup [blA (rVer s) (rSz s) (rCh s) (rH s) (rT s) i 0 ((s.size - 71) / 32), .v (.int .i64 0)] else .tup [blA 0 0 0 ⟨#[]⟩ ⟨#[]⟩ i 0 0, .v (.int .i64 3)]
theorem preadS {s : ByteArray} (hn : n + 1 ≤ 1000) : SpecAt Try.prog nPRead [.v (.string s)] H n (.ptr n 0) ⟨(n, some (rdO s 0)) :: H.l, H.x⟩ (n + 1) := by
  have := lift (n := n) (okT.spec tPRead (readW (x := H.x) (s := s))) [] rfl rfl rfl (by omega) rfl rfl trivial rfl rfl (by omega)
  exact this
theorem rreadS0 {s : ByteArray} (hn : n + 1 ≤ 1000) : SpecAt Try.prog nrRead [.v (.string s)] H n (.ptr n 0) ⟨(n, some (rdO s 0)) :: H.l, H.x⟩ (n + 1) := by
  have := lift (n := n) (okT.spec trRead (args := [.v (.string s)]) (H := ⟨[], H.x⟩) (n := 1) (v := .ptr 1 0) (H' := ⟨[(1, some (rdO s 0))], H.x⟩) (n' := 2) (by
    unfold mrRead
    simp -implicitDefEqProofs only [↓fnVC, initTm]
    simp -implicitDefEqProofs only [go_sem, ↓reduceIte, Nat.reduceEqDiff, Nat.reduceAdd, Nat.reduceMul, Nat.reduceLT, Nat.reduceLeDiff, Nat.reduceSub, Int.reduceToNat, Int.reduceLE, Int.reduceLT, reduceCtorEq, Int.reduceEq, Int.reduceGT, Int.reduceGE, Int.reduceNeg]
    refine sub_mk [] rfl rfl rfl ?_
    simp only [tmSub, hpSub, objSub, eqTm, eqHp, rn, lk, SV.ren, SV.renC, SV.renB, SV.renA, ren_ints, ren_strs, ren_pl, ren_svs, SV.v.injEq, Value.int.injEq, Body.ints.injEq, SV.ptr.injEq, SV.sl.injEq, Value.string.injEq, Value.bool.injEq, List.map_cons, List.map_nil, forall_const, Nat.reduceLT, Nat.lt_add_one, imp_self, true_and, and_true, and_self, ob_some, get_mk, lk_cons, ↓reduceIte, Nat.reduceEqDiff, ne_eq, not_true_eq_false, not_false_eq_true, Nat.one_ne_zero, Nat.zero_ne_one, Nat.succ_ne_self, Nat.reduceAdd, Bool.false_eq_true, false_implies, implies_true, reduceCtorEq, rdO]
    rfl)) [] rfl rfl rfl (by omega) rfl rfl trivial rfl rfl (by omega)
  exact this
theorem rd_all {s : ByteArray} (h : 71 ≤ s.size) :
    (rawS s 0 1 = s.extract 1 s.size ∧ rawE s 0 1 = 0 ∧ num (rawT s 0 1) = rVer s) ∧ (rawS (s.extract 1 s.size) 0 4 = s.extract 5 s.size ∧ rawE (s.extract 1 s.size) 0 4 = 0 ∧ num (rawT (s.extract 1 s.size) 0 4) = rSz s) ∧
    (rawS (s.extract 5 s.size) 0 2 = s.extract 7 s.size ∧ rawE (s.extract 5 s.size) 0 2 = 0 ∧ num (rawT (s.extract 5 s.size) 0 2) = rCh s) ∧ (rawS (s.extract 7 s.size) 0 32 = s.extract 39 s.size ∧ rawE (s.extract 7 s.size) 0 32 = 0 ∧ rawT (s.extract 7 s.size) 0 32 = rH s) ∧
    (rawS (s.extract 39 s.size) 0 32 = s.extract 71 s.size ∧ rawE (s.extract 39 s.size) 0 32 = 0 ∧ rawT (s.extract 39 s.size) 0 32 = rT s) := by
  have a := rd_at (s := s) (k := 0) (w := 1) (by omega)
  rw [ext_all] at a
  have b := rd_at (s := s) (k := 1) (w := 4) (by omega)
  have c := rd_at (s := s) (k := 5) (w := 2) (by omega)
  refine ⟨⟨a.1, a.2.1, congrArg num a.2.2⟩, ⟨b.1, b.2.1, congrArg num b.2.2⟩, ⟨c.1, c.2.1, congrArg num c.2.2⟩, rd_at (by omega), rd_at (by omega)⟩
theorem readBW {s : ByteArray} (hs : s.size ≤ 9223372036854775807) :
    fnVC CT mBRead [.v (.string s)] ⟨[], x⟩ 1 fun v H' n' => Sub 1 ⟨[(0, readV s 1)], ⟨[(1, some ⟨true, .strs (readL s)⟩)], x⟩, 2⟩ ⟨[(0, v)], H', n'⟩ := by
  unfold mBRead
  simp -implicitDefEqProofs only [↓fnVC, initTm]
  by_cases h0 : (s.size : Int) < 71
  · have b0 := decide_eq_true h0
    have hP : ¬ readP s := by unfold readP; omega
    rw [show readL s = [] from if_neg hP, show readV s 1 = .tup [blA 0 0 0 ⟨#[]⟩ ⟨#[]⟩ 1 0 0, .v (.int .i64 3)] from if_neg hP]
    clear hP
    simp -implicitDefEqProofs only [go_sem, ↓reduceIte, Nat.reduceEqDiff, Nat.reduceAdd, Nat.reduceMul, Nat.reduceLT, Nat.reduceLeDiff, Nat.reduceSub, Int.reduceToNat, Int.reduceLE, Int.reduceLT, reduceCtorEq, Int.reduceEq, Int.reduceGT, Int.reduceGE, Int.reduceNeg, b0, sp6]
    refine sub_mk [(1, 0)] rfl rfl rfl ?_
    simp only [tmSub, hpSub, objSub, eqTm, eqHp, rn, lk, SV.ren, SV.renC, SV.renB, SV.renA, ren_ints, ren_strs, ren_pl, ren_svs, SV.v.injEq, Value.int.injEq, Body.ints.injEq, SV.ptr.injEq, SV.sl.injEq, Value.string.injEq, Value.bool.injEq, List.map_cons, List.map_nil, forall_const, Nat.reduceLT, Nat.lt_add_one, imp_self, true_and, and_true, and_self, ob_some, get_mk, lk_cons, ↓reduceIte, Nat.reduceEqDiff, ne_eq, not_true_eq_false, not_false_eq_true, Nat.one_ne_zero, Nat.zero_ne_one, Nat.succ_ne_self, Nat.reduceAdd, Bool.false_eq_true, false_implies, implies_true, reduceCtorEq, blA]
    rfl
  have b0 := decide_eq_false h0
  have w0 : IntKind.i64.wrap ((s.size : Int) - 71) = ((s.size - 71 : Nat) : Int) := by rw [wrap_i64 (by omega) (by omega)]; omega
  have w1 : (((s.size - 71 : Nat) : Int)).tmod 32 = (((s.size - 71) % 32 : Nat) : Int) := by rw [Int.tmod_eq_emod_of_nonneg (by omega)]; omega
  by_cases h1 : (s.size - 71) % 32 = 0
  · have b1 : decide ((((s.size - 71) % 32 : Nat) : Int) = 0) = true := decide_eq_true (by omega)
    simp -implicitDefEqProofs only [go_sem, ↓reduceIte, Nat.reduceEqDiff, Nat.reduceAdd, Nat.reduceMul, Nat.reduceLT, Nat.reduceLeDiff, Nat.reduceSub, Int.reduceToNat, Int.reduceLE, Int.reduceLT, reduceCtorEq, Int.reduceEq, Int.reduceGT, Int.reduceGE, Int.reduceNeg, b0, w0, w1, b1]
    obtain ⟨⟨p1, p2, p3⟩, ⟨q1, q2, q3⟩, ⟨r1, r2, r3⟩, ⟨u1, u2, u3⟩, ⟨v1, v2, v3⟩⟩ := rd_all (s := s) (by omega)
    have ok : ∀ {t : ByteArray} {e : Int} {k : Nat}, k ≤ 7 → numOK (rawT t e k) := fun {t e k} hk => .inl (by have := rawT_size (s := t) (e := e) (k := k); omega)
    refine at_call tPRead (preadS (by decide)) ?_
    simp -implicitDefEqProofs only [go_sem, ↓reduceIte, Nat.reduceEqDiff, Nat.reduceAdd, Nat.reduceMul, Nat.reduceLT, Nat.reduceLeDiff, Nat.reduceSub, Int.reduceToNat, Int.reduceLE, Int.reduceLT, reduceCtorEq, Int.reduceEq, Int.reduceGT, Int.reduceGE, Int.reduceNeg]
    refine in_call mixT tRByte ?_
    unfold mRByte
    simp -implicitDefEqProofs only [↓fnVC, initTm]
    simp -implicitDefEqProofs only [go_sem, ↓reduceIte, Nat.reduceEqDiff, Nat.reduceAdd, Nat.reduceMul, Nat.reduceLT, Nat.reduceLeDiff, Nat.reduceSub, Int.reduceToNat, Int.reduceLE, Int.reduceLT, reduceCtorEq, Int.reduceEq, Int.reduceGT, Int.reduceGE, Int.reduceNeg]
    refine at_call tRNumber (numSp (i := 2) (s := s) (e := 0) (k := 1) (by rfl) (by decide) (by decide) (ok (by decide))) ?_
    rw [p1, p2, p3]
    simp -implicitDefEqProofs only [go_sem, ↓reduceIte, Nat.reduceEqDiff, Nat.reduceAdd, Nat.reduceMul, Nat.reduceLT, Nat.reduceLeDiff, Nat.reduceSub, Int.reduceToNat, Int.reduceLE, Int.reduceLT, reduceCtorEq, Int.reduceEq, Int.reduceGT, Int.reduceGE, Int.reduceNeg]
    refine in_call mixT tRFour ?_
    unfold mRFour
    simp -implicitDefEqProofs only [↓fnVC, initTm]
    simp -implicitDefEqProofs only [go_sem, ↓reduceIte, Nat.reduceEqDiff, Nat.reduceAdd, Nat.reduceMul, Nat.reduceLT, Nat.reduceLeDiff, Nat.reduceSub, Int.reduceToNat, Int.reduceLE, Int.reduceLT, reduceCtorEq, Int.reduceEq, Int.reduceGT, Int.reduceGE, Int.reduceNeg]
    refine at_call tRNumber (numSp (i := 2) (s := s.extract 1 s.size) (e := 0) (k := 4) (by rfl) (by decide) (by decide) (ok (by decide))) ?_
    rw [q1, q2, q3]
    simp -implicitDefEqProofs only [go_sem, ↓reduceIte, Nat.reduceEqDiff, Nat.reduceAdd, Nat.reduceMul, Nat.reduceLT, Nat.reduceLeDiff, Nat.reduceSub, Int.reduceToNat, Int.reduceLE, Int.reduceLT, reduceCtorEq, Int.reduceEq, Int.reduceGT, Int.reduceGE, Int.reduceNeg]
    refine in_call mixT tRTwo ?_
    unfold mRTwo
    simp -implicitDefEqProofs only [↓fnVC, initTm]
    simp -implicitDefEqProofs only [go_sem, ↓reduceIte, Nat.reduceEqDiff, Nat.reduceAdd, Nat.reduceMul, Nat.reduceLT, Nat.reduceLeDiff, Nat.reduceSub, Int.reduceToNat, Int.reduceLE, Int.reduceLT, reduceCtorEq, Int.reduceEq, Int.reduceGT, Int.reduceGE, Int.reduceNeg]
    refine at_call tRNumber (numSp (i := 2) (s := s.extract 5 s.size) (e := 0) (k := 2) (by rfl) (by decide) (by decide) (ok (by decide))) ?_
    rw [r1, r2, r3]
    simp -implicitDefEqProofs only [go_sem, ↓reduceIte, Nat.reduceEqDiff, Nat.reduceAdd, Nat.reduceMul, Nat.reduceLT, Nat.reduceLeDiff, Nat.reduceSub, Int.reduceToNat, Int.reduceLE, Int.reduceLT, reduceCtorEq, Int.reduceEq, Int.reduceGT, Int.reduceGE, Int.reduceNeg]
    refine at_call tRHash (hashSp (i := 2) (s := s.extract 7 s.size) (e := 0) (by rfl) (by decide)) ?_
    rw [u1, u2, u3]
    simp -implicitDefEqProofs only [go_sem, ↓reduceIte, Nat.reduceEqDiff, Nat.reduceAdd, Nat.reduceMul, Nat.reduceLT, Nat.reduceLeDiff, Nat.reduceSub, Int.reduceToNat, Int.reduceLE, Int.reduceLT, reduceCtorEq, Int.reduceEq, Int.reduceGT, Int.reduceGE, Int.reduceNeg]
    refine at_call tRHash (hashSp (i := 2) (s := s.extract 39 s.size) (e := 0) (by rfl) (by decide)) ?_
    rw [v1, v2, v3]
    simp -implicitDefEqProofs only [go_sem, ↓reduceIte, Nat.reduceEqDiff, Nat.reduceAdd, Nat.reduceMul, Nat.reduceLT, Nat.reduceLeDiff, Nat.reduceSub, Int.reduceToNat, Int.reduceLE, Int.reduceLT, reduceCtorEq, Int.reduceEq, Int.reduceGT, Int.reduceGE, Int.reduceNeg, sp0, sp1, sp2, sp3, sp4, sp6]
    refine at_call tRLeft (leftS (i := 2) (s := s.extract 71 s.size) (e := 0) (by rfl)) ?_
    have z71 : (s.extract 71 s.size).size = s.size - 71 := by rw [ByteArray.size_extract]; omega
    rw [z71]
    simp -implicitDefEqProofs only [go_sem, ↓reduceIte, Nat.reduceEqDiff, Nat.reduceAdd, Nat.reduceMul, Nat.reduceLT, Nat.reduceLeDiff, Nat.reduceSub, Int.reduceToNat, Int.reduceLE, Int.reduceLT, reduceCtorEq, Int.reduceEq, Int.reduceGT, Int.reduceGE, Int.reduceNeg]
    refine at_call tBcount (countS (sz := 8192) (ch := 64) (by decide) (by decide) (by decide) (by decide)) ?_
    have e128 : cnt 8192 64 = 128 := by decide
    rw [e128]
    have e4096 : IntKind.i64.wrap (32 * 128) = 4096 := by decide
    by_cases h2 : ((s.size - 71 : Nat) : Int) > 4096
    · have b2 := decide_eq_true h2
      have hP : ¬ readP s := fun h => by
        have := h.2.2.all32.2
        rw [chs_len] at this
        omega
      rw [show readL s = [] from if_neg hP, show readV s 1 = .tup [blA 0 0 0 ⟨#[]⟩ ⟨#[]⟩ 1 0 0, .v (.int .i64 3)] from if_neg hP]
      clear hP
      simp -implicitDefEqProofs only [go_sem, ↓reduceIte, Nat.reduceEqDiff, Nat.reduceAdd, Nat.reduceMul, Nat.reduceLT, Nat.reduceLeDiff, Nat.reduceSub, Int.reduceToNat, Int.reduceLE, Int.reduceLT, reduceCtorEq, Int.reduceEq, Int.reduceGT, Int.reduceGE, Int.reduceNeg, e4096, b2, sp6]
      refine sub_mk [(1, 0)] rfl rfl rfl ?_
      simp only [tmSub, hpSub, objSub, eqTm, eqHp, rn, lk, SV.ren, SV.renC, SV.renB, SV.renA, ren_ints, ren_strs, ren_pl, ren_svs, SV.v.injEq, Value.int.injEq, Body.ints.injEq, SV.ptr.injEq, SV.sl.injEq, Value.string.injEq, Value.bool.injEq, List.map_cons, List.map_nil, forall_const, Nat.reduceLT, Nat.lt_add_one, imp_self, true_and, and_true, and_self, ob_some, get_mk, lk_cons, ↓reduceIte, Nat.reduceEqDiff, ne_eq, not_true_eq_false, not_false_eq_true, Nat.one_ne_zero, Nat.zero_ne_one, Nat.succ_ne_self, Nat.reduceAdd, Bool.false_eq_true, false_implies, implies_true, reduceCtorEq, blA]
      rfl
    have b2 := decide_eq_false h2
    obtain ⟨q, hq⟩ : ∃ q, (s.size - 71) / 32 = q := ⟨_, rfl⟩
    have hsz : s.size = 71 + 32 * q := by omega
    simp -implicitDefEqProofs only [go_sem, ↓reduceIte, Nat.reduceEqDiff, Nat.reduceAdd, Nat.reduceMul, Nat.reduceLT, Nat.reduceLeDiff, Nat.reduceSub, Int.reduceToNat, Int.reduceLE, Int.reduceLT, reduceCtorEq, Int.reduceEq, Int.reduceGT, Int.reduceGE, Int.reduceNeg, e4096, b2]
    refine loop_fam (fun (j : Nat) => j ≤ q)
      (fun j => ⟨[(2, .ptr 1 0), (4, .ptr 2 0), (5, .ptr 3 0)], ⟨[(1, some ⟨true, .sv [.v (.int .i64 0), .v (.int .i64 0), .v (.int .i64 0), .v (.string ⟨#[]⟩), .v (.string ⟨#[]⟩), .sl 0 0 0 1]⟩), (2, some (rdO (s.extract (71 + 32 * j) s.size) 0)), (3, some ⟨true, .sv [.v (.int .i64 (rVer s : Nat)), .v (.int .i64 (rSz s : Nat)), .v (.int .i64 (rCh s : Nat)), .v (.string (rH s)), .v (.string (rT s)), .sl 4 0 j 1]⟩), (4, some ⟨true, .strs (chs s j)⟩)], x⟩, 5⟩)
      (fun j => q - j) 0 (Nat.zero_le _) ?_ ?_
    · refine sub_mk [(4, 0)] rfl rfl rfl ?_
      simp only [tmSub, hpSub, objSub, eqTm, eqHp, rn, lk, SV.ren, SV.renC, SV.renB, SV.renA, ren_ints, ren_strs, ren_pl, ren_svs, SV.v.injEq, Value.int.injEq, Body.ints.injEq, SV.ptr.injEq, SV.sl.injEq, Value.string.injEq, Value.bool.injEq, List.map_cons, List.map_nil, forall_const, Nat.reduceLT, Nat.lt_add_one, imp_self, true_and, and_true, and_self, ob_some, get_mk, lk_cons, ↓reduceIte, Nat.reduceEqDiff, ne_eq, not_true_eq_false, not_false_eq_true, Nat.one_ne_zero, Nat.zero_ne_one, Nat.succ_ne_self, Nat.reduceAdd, Bool.false_eq_true, false_implies, implies_true, reduceCtorEq, rdO]
      rfl
    · intro j hj
      simp -implicitDefEqProofs only [go_sem, ↓reduceIte, Nat.reduceEqDiff, Nat.reduceAdd, Nat.reduceMul, Nat.reduceLT, Nat.reduceLeDiff, Nat.reduceSub, Int.reduceToNat, Int.reduceLE, Int.reduceLT, reduceCtorEq, Int.reduceEq, Int.reduceGT, Int.reduceGE, Int.reduceNeg]
      refine at_call tRLeft (leftS (i := 2) (s := s.extract (71 + 32 * j) s.size) (e := 0) (by rfl)) ?_
      have zj : (s.extract (71 + 32 * j) s.size).size = 32 * (q - j) := by rw [ByteArray.size_extract]; omega
      rw [zj]
      by_cases hjq : j = q
      · subst hjq
        have c0 : decide (((32 * (j - j) : Nat) : Int) > 0) = false := decide_eq_false (by omega)
        simp -implicitDefEqProofs only [go_sem, ↓reduceIte, Nat.reduceEqDiff, Nat.reduceAdd, Nat.reduceMul, Nat.reduceLT, Nat.reduceLeDiff, Nat.reduceSub, Int.reduceToNat, Int.reduceLE, Int.reduceLT, reduceCtorEq, Int.reduceEq, Int.reduceGT, Int.reduceGE, Int.reduceNeg, c0]
        have et : ((chs s j).drop 0).take j = chs s j := by rw [List.drop_zero]; exact List.take_of_length_le (by rw [chs_len]; exact Nat.le_refl _)
        refine at_call tBCheck (checkS (i := 4) (o := 0) (m := j) (ss := chs s j) (by rfl) (by rw [chs_len]; omega) (by omega) (fun q hq => by rw [et] at hq; have := chs_size q hq; omega)) ?_
        rw [et]
        by_cases hp : ckP (rVer s) (rSz s) (rCh s) (rH s) (rT s) (chs s j)
        · have hP : readP s := ⟨by omega, h1, by rw [hq]; exact hp⟩
          rw [show ckE (rVer s) (rSz s) (rCh s) (rH s) (rT s) (chs s j) = 0 from if_pos hp, show readL s = chs s j by unfold readL; rw [if_pos hP, hq], show readV s 1 = .tup [blA (rVer s) (rSz s) (rCh s) (rH s) (rT s) 1 0 j, .v (.int .i64 0)] by unfold readV; rw [if_pos hP, hq]]
          clear hP hp
          simp -implicitDefEqProofs only [go_sem, ↓reduceIte, Nat.reduceEqDiff, Nat.reduceAdd, Nat.reduceMul, Nat.reduceLT, Nat.reduceLeDiff, Nat.reduceSub, Int.reduceToNat, Int.reduceLE, Int.reduceLT, reduceCtorEq, Int.reduceEq, Int.reduceGT, Int.reduceGE, Int.reduceNeg, sp6]
          refine sub_mk [(1, 4)] rfl rfl rfl ?_
          simp only [tmSub, hpSub, objSub, eqTm, eqHp, rn, lk, SV.ren, SV.renC, SV.renB, SV.renA, ren_ints, ren_strs, ren_pl, ren_svs, SV.v.injEq, Value.int.injEq, Body.ints.injEq, SV.ptr.injEq, SV.sl.injEq, Value.string.injEq, Value.bool.injEq, List.map_cons, List.map_nil, forall_const, Nat.reduceLT, Nat.lt_add_one, imp_self, true_and, and_true, and_self, ob_some, get_mk, lk_cons, ↓reduceIte, Nat.reduceEqDiff, ne_eq, not_true_eq_false, not_false_eq_true, Nat.one_ne_zero, Nat.zero_ne_one, Nat.succ_ne_self, Nat.reduceAdd, Bool.false_eq_true, false_implies, implies_true, reduceCtorEq, blA]
        · have hP : ¬ readP s := fun h => hp (by have := h.2.2; rwa [hq] at this)
          rw [show ckE (rVer s) (rSz s) (rCh s) (rH s) (rT s) (chs s j) = 1 from if_neg hp, show readL s = [] from if_neg hP, show readV s 1 = .tup [blA 0 0 0 ⟨#[]⟩ ⟨#[]⟩ 1 0 0, .v (.int .i64 3)] from if_neg hP]
          clear hP hp
          simp -implicitDefEqProofs only [go_sem, ↓reduceIte, Nat.reduceEqDiff, Nat.reduceAdd, Nat.reduceMul, Nat.reduceLT, Nat.reduceLeDiff, Nat.reduceSub, Int.reduceToNat, Int.reduceLE, Int.reduceLT, reduceCtorEq, Int.reduceEq, Int.reduceGT, Int.reduceGE, Int.reduceNeg, sp6]
          refine sub_mk [(1, 0)] rfl rfl rfl ?_
          simp only [tmSub, hpSub, objSub, eqTm, eqHp, rn, lk, SV.ren, SV.renC, SV.renB, SV.renA, ren_ints, ren_strs, ren_pl, ren_svs, SV.v.injEq, Value.int.injEq, Body.ints.injEq, SV.ptr.injEq, SV.sl.injEq, Value.string.injEq, Value.bool.injEq, List.map_cons, List.map_nil, forall_const, Nat.reduceLT, Nat.lt_add_one, imp_self, true_and, and_true, and_self, ob_some, get_mk, lk_cons, ↓reduceIte, Nat.reduceEqDiff, ne_eq, not_true_eq_false, not_false_eq_true, Nat.one_ne_zero, Nat.zero_ne_one, Nat.succ_ne_self, Nat.reduceAdd, Bool.false_eq_true, false_implies, implies_true, reduceCtorEq, blA]
          rfl
      · have c0 : decide (((32 * (q - j) : Nat) : Int) > 0) = true := decide_eq_true (by omega)
        simp -implicitDefEqProofs only [go_sem, ↓reduceIte, Nat.reduceEqDiff, Nat.reduceAdd, Nat.reduceMul, Nat.reduceLT, Nat.reduceLeDiff, Nat.reduceSub, Int.reduceToNat, Int.reduceLE, Int.reduceLT, reduceCtorEq, Int.reduceEq, Int.reduceGT, Int.reduceGE, Int.reduceNeg, c0]
        obtain ⟨a1, a2, a3⟩ := rd_at (s := s) (k := 71 + 32 * j) (w := 32) (by omega)
        refine at_call tRHash (hashSp (i := 2) (s := s.extract (71 + 32 * j) s.size) (e := 0) (by rfl) (by decide)) ?_
        rw [a1, a2, a3]
        have e3 : (chs s j).take j = chs s j := List.take_of_length_le (by rw [chs_len]; exact Nat.le_refl _)
        have e4 := (chs_succ (s := s) (j := j)).symm
        simp -implicitDefEqProofs only [go_sem, ↓reduceIte, Nat.reduceEqDiff, Nat.reduceAdd, Nat.reduceMul, Nat.reduceLT, Nat.reduceLeDiff, Nat.reduceSub, Int.reduceToNat, Int.reduceLE, Int.reduceLT, reduceCtorEq, Int.reduceEq, Int.reduceGT, Int.reduceGE, Int.reduceNeg, sp5, e3, e4]
        refine ⟨by omega, by omega, by rw [chs_len]; exact Nat.le_refl _, app_kill ?_⟩
        simp -implicitDefEqProofs only [go_sem, ↓reduceIte, Nat.reduceEqDiff, Nat.reduceAdd, Nat.reduceMul, Nat.reduceLT, Nat.reduceLeDiff, Nat.reduceSub, Int.reduceToNat, Int.reduceLE, Int.reduceLT, reduceCtorEq, Int.reduceEq, Int.reduceGT, Int.reduceGE, Int.reduceNeg, sp5, e3, e4]
        refine kLoop_mk (j + 1) (by omega) (by omega) ?_
        refine sub_mk [(4, 6)] rfl rfl rfl ?_
        rw [show 71 + 32 * (j + 1) = 71 + 32 * j + 32 by omega]
        simp only [tmSub, hpSub, objSub, eqTm, eqHp, rn, lk, SV.ren, SV.renC, SV.renB, SV.renA, ren_ints, ren_strs, ren_pl, ren_svs, SV.v.injEq, Value.int.injEq, Body.ints.injEq, SV.ptr.injEq, SV.sl.injEq, Value.string.injEq, Value.bool.injEq, List.map_cons, List.map_nil, forall_const, Nat.reduceLT, Nat.lt_add_one, imp_self, true_and, and_true, and_self, ob_some, get_mk, lk_cons, ↓reduceIte, Nat.reduceEqDiff, ne_eq, not_true_eq_false, not_false_eq_true, Nat.one_ne_zero, Nat.zero_ne_one, Nat.succ_ne_self, Nat.reduceAdd, Bool.false_eq_true, false_implies, implies_true, reduceCtorEq, rdO]
  · have b1 : decide ((((s.size - 71) % 32 : Nat) : Int) = 0) = false := decide_eq_false (by omega)
    have hP : ¬ readP s := by unfold readP; omega
    rw [show readL s = [] from if_neg hP, show readV s 1 = .tup [blA 0 0 0 ⟨#[]⟩ ⟨#[]⟩ 1 0 0, .v (.int .i64 3)] from if_neg hP]
    clear hP
    simp -implicitDefEqProofs only [go_sem, ↓reduceIte, Nat.reduceEqDiff, Nat.reduceAdd, Nat.reduceMul, Nat.reduceLT, Nat.reduceLeDiff, Nat.reduceSub, Int.reduceToNat, Int.reduceLE, Int.reduceLT, reduceCtorEq, Int.reduceEq, Int.reduceGT, Int.reduceGE, Int.reduceNeg, b0, w0, w1, b1, sp6]
    refine sub_mk [(1, 0)] rfl rfl rfl ?_
    simp only [tmSub, hpSub, objSub, eqTm, eqHp, rn, lk, SV.ren, SV.renC, SV.renB, SV.renA, ren_ints, ren_strs, ren_pl, ren_svs, SV.v.injEq, Value.int.injEq, Body.ints.injEq, SV.ptr.injEq, SV.sl.injEq, Value.string.injEq, Value.bool.injEq, List.map_cons, List.map_nil, forall_const, Nat.reduceLT, Nat.lt_add_one, imp_self, true_and, and_true, and_self, ob_some, get_mk, lk_cons, ↓reduceIte, Nat.reduceEqDiff, ne_eq, not_true_eq_false, not_false_eq_true, Nat.one_ne_zero, Nat.zero_ne_one, Nat.succ_ne_self, Nat.reduceAdd, Bool.false_eq_true, false_implies, implies_true, reduceCtorEq, blA]
    rfl
/-- Behind an error nothing is good any more. -/
theorem rreadBW {s : ByteArray} (hs : s.size ≤ 9223372036854775807) :
    fnVC CT mrBRead [.v (.string s)] ⟨[], x⟩ 1 fun v H' n' => Sub 1 ⟨[(0, readV s 1)], ⟨[(1, some ⟨true, .strs (readL s)⟩)], x⟩, 2⟩ ⟨[(0, v)], H', n'⟩ := by
  unfold mrBRead
  simp -implicitDefEqProofs only [↓fnVC, initTm]
  simp -implicitDefEqProofs only [go_sem, ↓reduceIte, Nat.reduceEqDiff, Nat.reduceAdd, Nat.reduceMul, Nat.reduceLT, Nat.reduceLeDiff, Nat.reduceSub, Int.reduceToNat, Int.reduceLE, Int.reduceLT, reduceCtorEq, Int.reduceEq, Int.reduceGT, Int.reduceGE, Int.reduceNeg]
  refine at_call trRead (rreadS0 (by decide)) ?_
  simp -implicitDefEqProofs only [go_sem, ↓reduceIte, Nat.reduceEqDiff, Nat.reduceAdd, Nat.reduceMul, Nat.reduceLT, Nat.reduceLeDiff, Nat.reduceSub, Int.reduceToNat, Int.reduceLE, Int.reduceLT, reduceCtorEq, Int.reduceEq, Int.reduceGT, Int.reduceGE, Int.reduceNeg]
  refine at_call trRNumber (rnumSp (i := 2) (s := s) (e := 0) (k := 1) (by rfl) (by decide) (by decide)) ?_
  obtain ⟨S1, hS1⟩ : ∃ S, rawS s 0 1 = S := ⟨_, rfl⟩
  obtain ⟨E1, hE1⟩ : ∃ S, rawE s 0 1 = S := ⟨_, rfl⟩
  obtain ⟨n1, hn1⟩ : ∃ S, num (rawT s 0 1) = S := ⟨_, rfl⟩
  rw [hS1, hE1, hn1]
  simp -implicitDefEqProofs only [go_sem, ↓reduceIte, Nat.reduceEqDiff, Nat.reduceAdd, Nat.reduceMul, Nat.reduceLT, Nat.reduceLeDiff, Nat.reduceSub, Int.reduceToNat, Int.reduceLE, Int.reduceLT, reduceCtorEq, Int.reduceEq, Int.reduceGT, Int.reduceGE, Int.reduceNeg, sp0]
  refine at_call trRNumber (rnumSp (i := 2) (s := S1) (e := E1) (k := 4) (by rfl) (by decide) (by decide)) ?_
  obtain ⟨S2, hS2⟩ : ∃ S, rawS S1 E1 4 = S := ⟨_, rfl⟩
  obtain ⟨E2, hE2⟩ : ∃ S, rawE S1 E1 4 = S := ⟨_, rfl⟩
  obtain ⟨n2, hn2⟩ : ∃ S, num (rawT S1 E1 4) = S := ⟨_, rfl⟩
  rw [hS2, hE2, hn2]
  simp -implicitDefEqProofs only [go_sem, ↓reduceIte, Nat.reduceEqDiff, Nat.reduceAdd, Nat.reduceMul, Nat.reduceLT, Nat.reduceLeDiff, Nat.reduceSub, Int.reduceToNat, Int.reduceLE, Int.reduceLT, reduceCtorEq, Int.reduceEq, Int.reduceGT, Int.reduceGE, Int.reduceNeg, sp1]
  refine at_call trRNumber (rnumSp (i := 2) (s := S2) (e := E2) (k := 2) (by rfl) (by decide) (by decide)) ?_
  obtain ⟨S3, hS3⟩ : ∃ S, rawS S2 E2 2 = S := ⟨_, rfl⟩
  obtain ⟨E3, hE3⟩ : ∃ S, rawE S2 E2 2 = S := ⟨_, rfl⟩
  obtain ⟨n3, hn3⟩ : ∃ S, num (rawT S2 E2 2) = S := ⟨_, rfl⟩
  rw [hS3, hE3, hn3]
  simp -implicitDefEqProofs only [go_sem, ↓reduceIte, Nat.reduceEqDiff, Nat.reduceAdd, Nat.reduceMul, Nat.reduceLT, Nat.reduceLeDiff, Nat.reduceSub, Int.reduceToNat, Int.reduceLE, Int.reduceLT, reduceCtorEq, Int.reduceEq, Int.reduceGT, Int.reduceGE, Int.reduceNeg, sp2]
  refine at_call trRRaw (rrawSp (i := 2) (s := S3) (e := E3) (k := 32) (by rfl) (by decide) (by decide)) ?_
  obtain ⟨S4, hS4⟩ : ∃ S, rawS S3 E3 32 = S := ⟨_, rfl⟩
  obtain ⟨E4, hE4⟩ : ∃ S, rawE S3 E3 32 = S := ⟨_, rfl⟩
  obtain ⟨t4, ht4⟩ : ∃ S, rawT S3 E3 32 = S := ⟨_, rfl⟩
  rw [hS4, hE4, ht4]
  simp -implicitDefEqProofs only [go_sem, ↓reduceIte, Nat.reduceEqDiff, Nat.reduceAdd, Nat.reduceMul, Nat.reduceLT, Nat.reduceLeDiff, Nat.reduceSub, Int.reduceToNat, Int.reduceLE, Int.reduceLT, reduceCtorEq, Int.reduceEq, Int.reduceGT, Int.reduceGE, Int.reduceNeg, sp3]
  refine at_call trRRaw (rrawSp (i := 2) (s := S4) (e := E4) (k := 32) (by rfl) (by decide) (by decide)) ?_
  obtain ⟨S5, hS5⟩ : ∃ S, rawS S4 E4 32 = S := ⟨_, rfl⟩
  obtain ⟨E5, hE5⟩ : ∃ S, rawE S4 E4 32 = S := ⟨_, rfl⟩
  obtain ⟨t5, ht5⟩ : ∃ S, rawT S4 E4 32 = S := ⟨_, rfl⟩
  rw [hS5, hE5, ht5]
  simp -implicitDefEqProofs only [go_sem, ↓reduceIte, Nat.reduceEqDiff, Nat.reduceAdd, Nat.reduceMul, Nat.reduceLT, Nat.reduceLeDiff, Nat.reduceSub, Int.reduceToNat, Int.reduceLE, Int.reduceLT, reduceCtorEq, Int.reduceEq, Int.reduceGT, Int.reduceGE, Int.reduceNeg, sp4]
  have key : 71 ≤ s.size → E5 = 0 ∧ S5 = s.extract 71 s.size ∧ n1 = rVer s ∧ n2 = rSz s ∧ n3 = rCh s ∧ t4 = rH s ∧ t5 = rT s := by
    intro h
    obtain ⟨⟨p1, p2, p3⟩, ⟨q1, q2, q3⟩, ⟨r1, r2, r3⟩, ⟨u1, u2, u3⟩, ⟨v1, v2, v3⟩⟩ := rd_all h
    rw [p1] at hS1; rw [p2] at hE1; rw [p3] at hn1
    subst hS1; subst hE1
    rw [q1] at hS2; rw [q2] at hE2; rw [q3] at hn2
    subst hS2; subst hE2
    rw [r1] at hS3; rw [r2] at hE3; rw [r3] at hn3
    subst hS3; subst hE3
    rw [u1] at hS4; rw [u2] at hE4; rw [u3] at ht4
    subst hS4; subst hE4
    rw [v1] at hS5; rw [v2] at hE5; rw [v3] at ht5
    exact ⟨hE5.symm, hS5.symm, hn1.symm, hn2.symm, hn3.symm, ht4.symm, ht5.symm⟩
  have hlong : E5 = 0 → 71 ≤ s.size := by
    intro h
    subst hE5
    obtain ⟨z4, y4⟩ := raw_zero h
    subst z4
    obtain ⟨z3, y3⟩ := raw_zero hE4
    have m4 := raw_size hE4; rw [hS4] at m4
    subst z3
    obtain ⟨z2, y2⟩ := raw_zero hE3
    have m3 := raw_size hE3; rw [hS3] at m3
    subst z2
    obtain ⟨z1, y1⟩ := raw_zero hE2
    have m2 := raw_size hE2; rw [hS2] at m2
    subst z1
    obtain ⟨_, y0⟩ := raw_zero hE1
    have m1 := raw_size hE1; rw [hS1] at m1
    omega
  clear hS1 hS2 hS3 hS4 hS5 hE1 hE2 hE3 hE4 hE5 hn1 hn2 hn3 ht4 ht5
  by_cases hE : E5 = 0
  · have h71 := hlong hE
    obtain ⟨_, k1, rfl, rfl, rfl, rfl, rfl⟩ := key h71
    subst k1
    subst hE
    clear key hlong
    have e0 : ∀ (l : List ByteArray) (k : Nat), l.length = k → (l.drop 0).take k = l := fun l k h => by rw [List.drop_zero]; exact List.take_of_length_le (by omega)
    have hnon : ¬ readP s → readL s = [] ∧ readV s 1 = .tup [blA 0 0 0 ⟨#[]⟩ ⟨#[]⟩ 1 0 0, .v (.int .i64 3)] := fun h => ⟨if_neg h, if_neg h⟩
    refine loop_fam (fun (q : Nat × Int × List ByteArray) => 71 + 32 * q.1 ≤ s.size ∧ q.1 ≤ 200 ∧ ((q.2.1 = 0 ∧ q.2.2 = chs s q.1) ∨ (q.2.1 = 2 ∧ 71 + 32 * q.1 < s.size ∧ s.size < 71 + 32 * q.1 + 32)))
      (fun q => ⟨[(2, .ptr 1 0), (4, .ptr 2 0), (5, .ptr 3 0)], ⟨[(1, some ⟨true, .sv [.v (.int .i64 0), .v (.int .i64 0), .v (.int .i64 0), .v (.string ⟨#[]⟩), .v (.string ⟨#[]⟩), .sl 0 0 0 1]⟩), (2, some (rdO (s.extract (71 + 32 * q.1) s.size) q.2.1)), (3, some ⟨true, .sv [.v (.int .i64 (rVer s : Nat)), .v (.int .i64 (rSz s : Nat)), .v (.int .i64 (rCh s : Nat)), .v (.string (rH s)), .v (.string (rT s)), .sl 4 0 q.2.2.length 1]⟩), (4, some ⟨true, .strs q.2.2⟩)], x⟩, 5⟩)
      (fun q => if q.2.1 = 0 then 201 - q.1 else 0) (0, 0, []) ⟨by omega, by omega, .inl ⟨rfl, rfl⟩⟩ ?_ ?_
    · refine sub_mk [(4, 0)] rfl rfl rfl ?_
      simp only [tmSub, hpSub, objSub, eqTm, eqHp, rn, lk, SV.ren, SV.renC, SV.renB, SV.renA, ren_ints, ren_strs, ren_pl, ren_svs, SV.v.injEq, Value.int.injEq, Body.ints.injEq, SV.ptr.injEq, SV.sl.injEq, Value.string.injEq, Value.bool.injEq, List.map_cons, List.map_nil, forall_const, Nat.reduceLT, Nat.lt_add_one, imp_self, true_and, and_true, and_self, ob_some, get_mk, lk_cons, ↓reduceIte, Nat.reduceEqDiff, ne_eq, not_true_eq_false, not_false_eq_true, Nat.one_ne_zero, Nat.zero_ne_one, Nat.succ_ne_self, Nat.reduceAdd, Bool.false_eq_true, false_implies, implies_true, reduceCtorEq, rdO]
      exact ⟨rfl, rfl⟩
    · rintro ⟨j, E, row⟩ ⟨hj, hj2, hc⟩
      simp only at hj hj2 hc
      have zj : (s.extract (71 + 32 * j) s.size).size = s.size - (71 + 32 * j) := by rw [ByteArray.size_extract]; omega
      rcases hc with ⟨rfl, rfl⟩ | ⟨rfl, c1, c2⟩
      · have hL := chs_len (s := s) (j := j)
        by_cases c1 : 71 + 32 * j < s.size
        · have b1 : decide (((s.extract (71 + 32 * j) s.size).size : Int) > 0) = true := decide_eq_true (by omega)
          by_cases c2 : j < 200
          · have b2 : decide ((((chs s j).length : Nat) : Int) < 200) = true := decide_eq_true (by omega)
            have e3 := e0 _ _ hL
            rw [List.drop_zero] at e3
            by_cases c3 : 71 + 32 * j + 32 ≤ s.size
            · obtain ⟨a1, a2, a3⟩ := rd_at (s := s) (k := 71 + 32 * j) (w := 32) c3
              have e4 := (chs_succ (s := s) (j := j)).symm
              simp -implicitDefEqProofs only [go_sem, ↓reduceIte, Nat.reduceEqDiff, Nat.reduceAdd, Nat.reduceMul, Nat.reduceLT, Nat.reduceLeDiff, Nat.reduceSub, Int.reduceToNat, Int.reduceLE, Int.reduceLT, reduceCtorEq, Int.reduceEq, Int.reduceGT, Int.reduceGE, Int.reduceNeg, rdO, b1, b2]
              refine at_call trRRaw (rrawSp (i := 2) (s := s.extract (71 + 32 * j) s.size) (e := 0) (k := 32) (by rfl) (by decide) (by decide)) ?_
              rw [a1, a2, a3, hL]
              simp -implicitDefEqProofs only [go_sem, ↓reduceIte, Nat.reduceEqDiff, Nat.reduceAdd, Nat.reduceMul, Nat.reduceLT, Nat.reduceLeDiff, Nat.reduceSub, Int.reduceToNat, Int.reduceLE, Int.reduceLT, reduceCtorEq, Int.reduceEq, Int.reduceGT, Int.reduceGE, Int.reduceNeg, sp5, e3, e4]
              refine ⟨by omega, by omega, by rw [chs_len]; exact Nat.le_refl _, app_kill ?_⟩
              simp -implicitDefEqProofs only [go_sem, ↓reduceIte, Nat.reduceEqDiff, Nat.reduceAdd, Nat.reduceMul, Nat.reduceLT, Nat.reduceLeDiff, Nat.reduceSub, Int.reduceToNat, Int.reduceLE, Int.reduceLT, reduceCtorEq, Int.reduceEq, Int.reduceGT, Int.reduceGE, Int.reduceNeg, sp5, e3, e4]
              refine kLoop_mk (j + 1, 0, chs s (j + 1)) ⟨by simp only; omega, by simp only; omega, .inl ⟨rfl, rfl⟩⟩ (by simp only [if_true]; omega) ?_
              refine sub_mk [(4, 6)] rfl rfl rfl ?_
              simp only [chs_len]
              rw [show 71 + 32 * (j + 1) = 71 + 32 * j + 32 by omega]
              simp only [tmSub, hpSub, objSub, eqTm, eqHp, rn, lk, SV.ren, SV.renC, SV.renB, SV.renA, ren_ints, ren_strs, ren_pl, ren_svs, SV.v.injEq, Value.int.injEq, Body.ints.injEq, SV.ptr.injEq, SV.sl.injEq, Value.string.injEq, Value.bool.injEq, List.map_cons, List.map_nil, forall_const, Nat.reduceLT, Nat.lt_add_one, imp_self, true_and, and_true, and_self, ob_some, get_mk, lk_cons, ↓reduceIte, Nat.reduceEqDiff, ne_eq, not_true_eq_false, not_false_eq_true, Nat.one_ne_zero, Nat.zero_ne_one, Nat.succ_ne_self, Nat.reduceAdd, Bool.false_eq_true, false_implies, implies_true, reduceCtorEq, rdO]
            · have a1 : rawS (s.extract (71 + 32 * j) s.size) 0 32 = s.extract (71 + 32 * j) s.size := by unfold rawS; rw [if_pos (.inr (by omega))]
              have a2 : rawE (s.extract (71 + 32 * j) s.size) 0 32 = 2 := by unfold rawE; rw [if_neg (by omega), if_pos (by omega)]
              have a3 : rawT (s.extract (71 + 32 * j) s.size) 0 32 = ⟨#[]⟩ := by unfold rawT; rw [if_pos (.inr (by omega))]
              simp -implicitDefEqProofs only [go_sem, ↓reduceIte, Nat.reduceEqDiff, Nat.reduceAdd, Nat.reduceMul, Nat.reduceLT, Nat.reduceLeDiff, Nat.reduceSub, Int.reduceToNat, Int.reduceLE, Int.reduceLT, reduceCtorEq, Int.reduceEq, Int.reduceGT, Int.reduceGE, Int.reduceNeg, rdO, b1, b2]
              refine at_call trRRaw (rrawSp (i := 2) (s := s.extract (71 + 32 * j) s.size) (e := 0) (k := 32) (by rfl) (by decide) (by decide)) ?_
              rw [a1, a2, a3, hL]
              simp -implicitDefEqProofs only [go_sem, ↓reduceIte, Nat.reduceEqDiff, Nat.reduceAdd, Nat.reduceMul, Nat.reduceLT, Nat.reduceLeDiff, Nat.reduceSub, Int.reduceToNat, Int.reduceLE, Int.reduceLT, reduceCtorEq, Int.reduceEq, Int.reduceGT, Int.reduceGE, Int.reduceNeg, sp5, e3]
              refine ⟨by omega, by omega, by rw [chs_len]; exact Nat.le_refl _, app_kill ?_⟩
              simp -implicitDefEqProofs only [go_sem, ↓reduceIte, Nat.reduceEqDiff, Nat.reduceAdd, Nat.reduceMul, Nat.reduceLT, Nat.reduceLeDiff, Nat.reduceSub, Int.reduceToNat, Int.reduceLE, Int.reduceLT, reduceCtorEq, Int.reduceEq, Int.reduceGT, Int.reduceGE, Int.reduceNeg, sp5, e3]
              refine kLoop_mk (j, 2, chs s j ++ [⟨#[]⟩]) ⟨by simp only; omega, by simp only; omega, .inr ⟨rfl, by simp only; omega, by simp only; omega⟩⟩ (by simp only [if_true]; rw [if_neg (by decide)]; omega) ?_
              refine sub_mk [(4, 6)] rfl rfl rfl ?_
              have e5 : (chs s j ++ [(⟨#[]⟩ : ByteArray)]).length = j + 1 := by rw [List.length_append, chs_len]; rfl
              simp only [e5]
              simp only [tmSub, hpSub, objSub, eqTm, eqHp, rn, lk, SV.ren, SV.renC, SV.renB, SV.renA, ren_ints, ren_strs, ren_pl, ren_svs, SV.v.injEq, Value.int.injEq, Body.ints.injEq, SV.ptr.injEq, SV.sl.injEq, Value.string.injEq, Value.bool.injEq, List.map_cons, List.map_nil, forall_const, Nat.reduceLT, Nat.lt_add_one, imp_self, true_and, and_true, and_self, ob_some, get_mk, lk_cons, ↓reduceIte, Nat.reduceEqDiff, ne_eq, not_true_eq_false, not_false_eq_true, Nat.one_ne_zero, Nat.zero_ne_one, Nat.succ_ne_self, Nat.reduceAdd, Bool.false_eq_true, false_implies, implies_true, reduceCtorEq, rdO]
          · have b2 : decide ((((chs s j).length : Nat) : Int) < 200) = false := decide_eq_false (by omega)
            have hP : ¬ readP s := fun h => by
              have := h.2.2.all32.2
              rw [chs_len] at this
              omega
            rw [(hnon hP).1, (hnon hP).2]
            clear hP
            have hend : endE (s.extract (71 + 32 * j) s.size) 0 ≠ 0 := by unfold endE failE; rw [if_pos (by omega), if_pos rfl]; decide
            have b3 : decide (endE (s.extract (71 + 32 * j) s.size) 0 = 0) = false := decide_eq_false hend
            simp -implicitDefEqProofs only [go_sem, ↓reduceIte, Nat.reduceEqDiff, Nat.reduceAdd, Nat.reduceMul, Nat.reduceLT, Nat.reduceLeDiff, Nat.reduceSub, Int.reduceToNat, Int.reduceLE, Int.reduceLT, reduceCtorEq, Int.reduceEq, Int.reduceGT, Int.reduceGE, Int.reduceNeg, rdO, b1, b2]
            refine at_call trREnd (rendSp (i := 2) (s := s.extract (71 + 32 * j) s.size) (e := 0) (by rfl) (by decide)) ?_
            simp -implicitDefEqProofs only [go_sem, ↓reduceIte, Nat.reduceEqDiff, Nat.reduceAdd, Nat.reduceMul, Nat.reduceLT, Nat.reduceLeDiff, Nat.reduceSub, Int.reduceToNat, Int.reduceLE, Int.reduceLT, reduceCtorEq, Int.reduceEq, Int.reduceGT, Int.reduceGE, Int.reduceNeg, b3, sp6]
            refine sub_mk [(1, 0)] rfl rfl rfl ?_
            simp only [tmSub, hpSub, objSub, eqTm, eqHp, rn, lk, SV.ren, SV.renC, SV.renB, SV.renA, ren_ints, ren_strs, ren_pl, ren_svs, SV.v.injEq, Value.int.injEq, Body.ints.injEq, SV.ptr.injEq, SV.sl.injEq, Value.string.injEq, Value.bool.injEq, List.map_cons, List.map_nil, forall_const, Nat.reduceLT, Nat.lt_add_one, imp_self, true_and, and_true, and_self, ob_some, get_mk, lk_cons, ↓reduceIte, Nat.reduceEqDiff, ne_eq, not_true_eq_false, not_false_eq_true, Nat.one_ne_zero, Nat.zero_ne_one, Nat.succ_ne_self, Nat.reduceAdd, Bool.false_eq_true, false_implies, implies_true, reduceCtorEq, blA]
            rfl
        · have b1 : decide (((s.extract (71 + 32 * j) s.size).size : Int) > 0) = false := decide_eq_false (by omega)
          have hend : endE (s.extract (71 + 32 * j) s.size) 0 = 0 := by unfold endE; rw [if_neg (by omega)]
          have hq : (s.size - 71) / 32 = j := by omega
          have hm0 : (s.size - 71) % 32 = 0 := by omega
          simp -implicitDefEqProofs only [go_sem, ↓reduceIte, Nat.reduceEqDiff, Nat.reduceAdd, Nat.reduceMul, Nat.reduceLT, Nat.reduceLeDiff, Nat.reduceSub, Int.reduceToNat, Int.reduceLE, Int.reduceLT, reduceCtorEq, Int.reduceEq, Int.reduceGT, Int.reduceGE, Int.reduceNeg, rdO, b1]
          refine at_call trREnd (rendSp (i := 2) (s := s.extract (71 + 32 * j) s.size) (e := 0) (by rfl) (by decide)) ?_
          rw [hend, hL]
          simp -implicitDefEqProofs only [go_sem, ↓reduceIte, Nat.reduceEqDiff, Nat.reduceAdd, Nat.reduceMul, Nat.reduceLT, Nat.reduceLeDiff, Nat.reduceSub, Int.reduceToNat, Int.reduceLE, Int.reduceLT, reduceCtorEq, Int.reduceEq, Int.reduceGT, Int.reduceGE, Int.reduceNeg]
          have et := e0 _ _ hL
          refine at_call trBCheck (rcheckS (i := 4) (o := 0) (m := j) (ss := chs s j) (by rfl) (by rw [chs_len]; omega) (by omega) (fun q hq => by rw [et] at hq; have := chs_size q hq; omega)) ?_
          rw [et]
          by_cases hp : ckP (rVer s) (rSz s) (rCh s) (rH s) (rT s) (chs s j)
          · have hP : readP s := ⟨by omega, hm0, by rw [hq]; exact hp⟩
            rw [show ckE (rVer s) (rSz s) (rCh s) (rH s) (rT s) (chs s j) = 0 from if_pos hp, show readL s = chs s j by unfold readL; rw [if_pos hP, hq], show readV s 1 = .tup [blA (rVer s) (rSz s) (rCh s) (rH s) (rT s) 1 0 j, .v (.int .i64 0)] by unfold readV; rw [if_pos hP, hq]]
            clear hP hp
            simp -implicitDefEqProofs only [go_sem, ↓reduceIte, Nat.reduceEqDiff, Nat.reduceAdd, Nat.reduceMul, Nat.reduceLT, Nat.reduceLeDiff, Nat.reduceSub, Int.reduceToNat, Int.reduceLE, Int.reduceLT, reduceCtorEq, Int.reduceEq, Int.reduceGT, Int.reduceGE, Int.reduceNeg, sp6]
            refine sub_mk [(1, 4)] rfl rfl rfl ?_
            simp only [tmSub, hpSub, objSub, eqTm, eqHp, rn, lk, SV.ren, SV.renC, SV.renB, SV.renA, ren_ints, ren_strs, ren_pl, ren_svs, SV.v.injEq, Value.int.injEq, Body.ints.injEq, SV.ptr.injEq, SV.sl.injEq, Value.string.injEq, Value.bool.injEq, List.map_cons, List.map_nil, forall_const, Nat.reduceLT, Nat.lt_add_one, imp_self, true_and, and_true, and_self, ob_some, get_mk, lk_cons, ↓reduceIte, Nat.reduceEqDiff, ne_eq, not_true_eq_false, not_false_eq_true, Nat.one_ne_zero, Nat.zero_ne_one, Nat.succ_ne_self, Nat.reduceAdd, Bool.false_eq_true, false_implies, implies_true, reduceCtorEq, blA]
          · have hP : ¬ readP s := fun h => hp (by have := h.2.2; rwa [hq] at this)
            rw [show ckE (rVer s) (rSz s) (rCh s) (rH s) (rT s) (chs s j) = 1 from if_neg hp, (hnon hP).1, (hnon hP).2]
            clear hP hp
            simp -implicitDefEqProofs only [go_sem, ↓reduceIte, Nat.reduceEqDiff, Nat.reduceAdd, Nat.reduceMul, Nat.reduceLT, Nat.reduceLeDiff, Nat.reduceSub, Int.reduceToNat, Int.reduceLE, Int.reduceLT, reduceCtorEq, Int.reduceEq, Int.reduceGT, Int.reduceGE, Int.reduceNeg, sp6]
            refine sub_mk [(1, 0)] rfl rfl rfl ?_
            simp only [tmSub, hpSub, objSub, eqTm, eqHp, rn, lk, SV.ren, SV.renC, SV.renB, SV.renA, ren_ints, ren_strs, ren_pl, ren_svs, SV.v.injEq, Value.int.injEq, Body.ints.injEq, SV.ptr.injEq, SV.sl.injEq, Value.string.injEq, Value.bool.injEq, List.map_cons, List.map_nil, forall_const, Nat.reduceLT, Nat.lt_add_one, imp_self, true_and, and_true, and_self, ob_some, get_mk, lk_cons, ↓reduceIte, Nat.reduceEqDiff, ne_eq, not_true_eq_false, not_false_eq_true, Nat.one_ne_zero, Nat.zero_ne_one, Nat.succ_ne_self, Nat.reduceAdd, Bool.false_eq_true, false_implies, implies_true, reduceCtorEq, blA]
            rfl
      · have hP : ¬ readP s := fun h => by have := h.2.1; omega
        rw [(hnon hP).1, (hnon hP).2]
        clear hP
        have b1 : decide (((s.extract (71 + 32 * j) s.size).size : Int) > 0) = true := decide_eq_true (by omega)
        have hend : endE (s.extract (71 + 32 * j) s.size) 2 ≠ 0 := by unfold endE failE; rw [if_pos (by omega), if_neg (by decide)]; decide
        have b3 : decide (endE (s.extract (71 + 32 * j) s.size) 2 = 0) = false := decide_eq_false hend
        simp -implicitDefEqProofs only [go_sem, ↓reduceIte, Nat.reduceEqDiff, Nat.reduceAdd, Nat.reduceMul, Nat.reduceLT, Nat.reduceLeDiff, Nat.reduceSub, Int.reduceToNat, Int.reduceLE, Int.reduceLT, reduceCtorEq, Int.reduceEq, Int.reduceGT, Int.reduceGE, Int.reduceNeg, rdO, b1]
        refine at_call trREnd (rendSp (i := 2) (s := s.extract (71 + 32 * j) s.size) (e := 2) (by rfl) (by decide)) ?_
        simp -implicitDefEqProofs only [go_sem, ↓reduceIte, Nat.reduceEqDiff, Nat.reduceAdd, Nat.reduceMul, Nat.reduceLT, Nat.reduceLeDiff, Nat.reduceSub, Int.reduceToNat, Int.reduceLE, Int.reduceLT, reduceCtorEq, Int.reduceEq, Int.reduceGT, Int.reduceGE, Int.reduceNeg, b3, sp6]
        refine sub_mk [(1, 0)] rfl rfl rfl ?_
        simp only [tmSub, hpSub, objSub, eqTm, eqHp, rn, lk, SV.ren, SV.renC, SV.renB, SV.renA, ren_ints, ren_strs, ren_pl, ren_svs, SV.v.injEq, Value.int.injEq, Body.ints.injEq, SV.ptr.injEq, SV.sl.injEq, Value.string.injEq, Value.bool.injEq, List.map_cons, List.map_nil, forall_const, Nat.reduceLT, Nat.lt_add_one, imp_self, true_and, and_true, and_self, ob_some, get_mk, lk_cons, ↓reduceIte, Nat.reduceEqDiff, ne_eq, not_true_eq_false, not_false_eq_true, Nat.one_ne_zero, Nat.zero_ne_one, Nat.succ_ne_self, Nat.reduceAdd, Bool.false_eq_true, false_implies, implies_true, reduceCtorEq, blA]
        rfl
  · have hP : ¬ readP s := fun h => hE (key h.1).1
    rw [show readL s = [] from if_neg hP, show readV s 1 = .tup [blA 0 0 0 ⟨#[]⟩ ⟨#[]⟩ 1 0 0, .v (.int .i64 3)] from if_neg hP]
    clear hP key hlong
    have b0 : decide (E5 = 0) = false := decide_eq_false hE
    refine loop_fam (fun (_ : Unit) => True)
      (fun _ => ⟨[(2, .ptr 1 0), (4, .ptr 2 0), (5, .ptr 3 0)], ⟨[(1, some ⟨true, .sv [.v (.int .i64 0), .v (.int .i64 0), .v (.int .i64 0), .v (.string ⟨#[]⟩), .v (.string ⟨#[]⟩), .sl 0 0 0 1]⟩), (2, some (rdO S5 E5)), (3, some ⟨true, .sv [.v (.int .i64 n1), .v (.int .i64 n2), .v (.int .i64 n3), .v (.string t4), .v (.string t5), .sl 0 0 0 1]⟩)], x⟩, 4⟩)
      (fun _ => 0) () trivial ?_ ?_
    · refine sub_mk [] rfl rfl rfl ?_
      simp only [tmSub, hpSub, objSub, eqTm, eqHp, rn, lk, SV.ren, SV.renC, SV.renB, SV.renA, ren_ints, ren_strs, ren_pl, ren_svs, SV.v.injEq, Value.int.injEq, Body.ints.injEq, SV.ptr.injEq, SV.sl.injEq, Value.string.injEq, Value.bool.injEq, List.map_cons, List.map_nil, forall_const, Nat.reduceLT, Nat.lt_add_one, imp_self, true_and, and_true, and_self, ob_some, get_mk, lk_cons, ↓reduceIte, Nat.reduceEqDiff, ne_eq, not_true_eq_false, not_false_eq_true, Nat.one_ne_zero, Nat.zero_ne_one, Nat.succ_ne_self, Nat.reduceAdd, Bool.false_eq_true, false_implies, implies_true, reduceCtorEq, rdO]
    · intro _ _
      have hend : endE S5 E5 ≠ 0 := by unfold endE failE; split <;> simp [hE]
      have b1 : decide (endE S5 E5 = 0) = false := decide_eq_false hend
      by_cases h0 : 0 < S5.size
      · have c0 : decide ((S5.size : Int) > 0) = true := decide_eq_true (by omega)
        simp -implicitDefEqProofs only [go_sem, ↓reduceIte, Nat.reduceEqDiff, Nat.reduceAdd, Nat.reduceMul, Nat.reduceLT, Nat.reduceLeDiff, Nat.reduceSub, Int.reduceToNat, Int.reduceLE, Int.reduceLT, reduceCtorEq, Int.reduceEq, Int.reduceGT, Int.reduceGE, Int.reduceNeg, rdO, c0, b0]
        refine at_call trREnd (rendSp (i := 2) (s := S5) (e := E5) (by rfl) (by decide)) ?_
        simp -implicitDefEqProofs only [go_sem, ↓reduceIte, Nat.reduceEqDiff, Nat.reduceAdd, Nat.reduceMul, Nat.reduceLT, Nat.reduceLeDiff, Nat.reduceSub, Int.reduceToNat, Int.reduceLE, Int.reduceLT, reduceCtorEq, Int.reduceEq, Int.reduceGT, Int.reduceGE, Int.reduceNeg, b1, sp6]
        refine sub_mk [(1, 0)] rfl rfl rfl ?_
        simp only [tmSub, hpSub, objSub, eqTm, eqHp, rn, lk, SV.ren, SV.renC, SV.renB, SV.renA, ren_ints, ren_strs, ren_pl, ren_svs, SV.v.injEq, Value.int.injEq, Body.ints.injEq, SV.ptr.injEq, SV.sl.injEq, Value.string.injEq, Value.bool.injEq, List.map_cons, List.map_nil, forall_const, Nat.reduceLT, Nat.lt_add_one, imp_self, true_and, and_true, and_self, ob_some, get_mk, lk_cons, ↓reduceIte, Nat.reduceEqDiff, ne_eq, not_true_eq_false, not_false_eq_true, Nat.one_ne_zero, Nat.zero_ne_one, Nat.succ_ne_self, Nat.reduceAdd, Bool.false_eq_true, false_implies, implies_true, reduceCtorEq, blA]
        rfl
      · have c0 : decide ((S5.size : Int) > 0) = false := decide_eq_false (by omega)
        simp -implicitDefEqProofs only [go_sem, ↓reduceIte, Nat.reduceEqDiff, Nat.reduceAdd, Nat.reduceMul, Nat.reduceLT, Nat.reduceLeDiff, Nat.reduceSub, Int.reduceToNat, Int.reduceLE, Int.reduceLT, reduceCtorEq, Int.reduceEq, Int.reduceGT, Int.reduceGE, Int.reduceNeg, rdO, c0, b0]
        refine at_call trREnd (rendSp (i := 2) (s := S5) (e := E5) (by rfl) (by decide)) ?_
        simp -implicitDefEqProofs only [go_sem, ↓reduceIte, Nat.reduceEqDiff, Nat.reduceAdd, Nat.reduceMul, Nat.reduceLT, Nat.reduceLeDiff, Nat.reduceSub, Int.reduceToNat, Int.reduceLE, Int.reduceLT, reduceCtorEq, Int.reduceEq, Int.reduceGT, Int.reduceGE, Int.reduceNeg, b1, sp6]
        refine sub_mk [(1, 0)] rfl rfl rfl ?_
        simp only [tmSub, hpSub, objSub, eqTm, eqHp, rn, lk, SV.ren, SV.renC, SV.renB, SV.renA, ren_ints, ren_strs, ren_pl, ren_svs, SV.v.injEq, Value.int.injEq, Body.ints.injEq, SV.ptr.injEq, SV.sl.injEq, Value.string.injEq, Value.bool.injEq, List.map_cons, List.map_nil, forall_const, Nat.reduceLT, Nat.lt_add_one, imp_self, true_and, and_true, and_self, ob_some, get_mk, lk_cons, ↓reduceIte, Nat.reduceEqDiff, ne_eq, not_true_eq_false, not_false_eq_true, Nat.one_ne_zero, Nat.zero_ne_one, Nat.succ_ne_self, Nat.reduceAdd, Bool.false_eq_true, false_implies, implies_true, reduceCtorEq, blA]
        rfl
end Go.Sx

/- Bills: what is read is what was laid. -/
set_option linter.unusedVariables false
set_option linter.unusedSimpArgs false
set_option maxRecDepth 100000
namespace Go.Sx
open Go.Proofs
/-! Spans: their own bytes are read as they were. -/
variable {H : Hp} {n : Nat} {x : Nat → Option SO}

theorem bts_inj {s t : ByteArray} (h : bts s = bts t) : s = t := by
  have e : s.data.toList = t.data.toList := by
    unfold bts at h
    refine List.map_inj_right (f := fun b : UInt8 => (b.toNat : Int)) (fun a b hab => ?_) |>.1 h
    have : a.toNat = b.toNat := by exact_mod_cast hab
    exact UInt8.toNat_inj.1 this
  cases s; cases t
  congr 1
  exact Array.toList_inj.1 e
theorem nbs_of_bts {t : ByteArray} {l : List Nat} (h : bts t = l.map (fun b : Nat => (b : Int))) : nbs t = l := by
  have h2 := bts_nbs (t := t)
  rw [h] at h2
  exact (List.map_inj_right (f := fun b : Nat => (b : Int)) (fun a b hab => by exact_mod_cast hab)).1 h2.symm
def beN (y k : Nat) : List Nat := (List.range k).map fun j => y / 256 ^ (k - 1 - j) % 256
theorem be_beN {y k : Nat} : be y k = (beN y k).map fun b : Nat => (b : Int) := by unfold be beN; rw [List.map_map]; rfl
theorem beN_get {y k j : Nat} (h : j < k) : (beN y k)[j]? = some (y / 256 ^ (k - 1 - j) % 256) := by
  unfold beN; rw [List.getElem?_map, List.getElem?_range h]; rfl
theorem beN_len {y k : Nat} : (beN y k).length = k := by simp [beN]
theorem nvl_be {y k : Nat} (hy : y < 256 ^ k) : ∀ {j}, j ≤ k → nvl ((beN y k).take j) = y / 256 ^ (k - j)
  | 0, _ => by simp [nvl, Nat.div_eq_of_lt hy]
  | j + 1, h => by
    have hg := beN_get (y := y) (k := k) (j := j) (by omega)
    rw [List.take_add_one, hg]
    show nvl ((beN y k).take j ++ [_]) = _
    rw [nvl_snoc, nvl_be hy (j := j) (by omega), show k - j = (k - 1 - j) + 1 by omega, Nat.pow_succ, ← Nat.div_div_eq_div_mul, show k - (j + 1) = k - 1 - j by omega]
    omega
theorem be_succ {y k : Nat} : be y (k + 1) = be (y / 256) k ++ [((y % 256 : Nat) : Int)] := by
  unfold be
  rw [List.range_succ, List.map_append]
  congr 1
  · refine List.map_congr_left fun j hj => ?_
    have hj := List.mem_range.1 hj
    rw [Nat.div_div_eq_div_mul, show k + 1 - 1 - j = (k - 1 - j) + 1 by omega, Nat.pow_succ, Nat.mul_comm]
  · simp
theorem be_nvl : ∀ (k : Nat) {l : List Nat}, l.length = k → (∀ b ∈ l, b < 256) → be (nvl l) k = l.map fun b : Nat => (b : Int)
  | 0, l, h, _ => by
    have : l = [] := List.length_eq_zero_iff.1 h
    subst this; rfl
  | k + 1, l, h, hb => by
    have hne : l ≠ [] := fun e => by subst e; simp at h
    have e := List.dropLast_concat_getLast hne
    rw [← e] at hb ⊢
    have hlast : l.getLast hne < 256 := hb _ (by simp)
    rw [nvl_snoc, be_succ, List.map_append]
    have d1 : (nvl l.dropLast * 256 + l.getLast hne) / 256 = nvl l.dropLast := by omega
    have d2 : (nvl l.dropLast * 256 + l.getLast hne) % 256 = l.getLast hne := by omega
    rw [d1, d2, be_nvl k (by rw [List.length_dropLast]; omega) (fun b hb' => hb b (List.mem_append_left _ hb'))]
    rfl
theorem be_num {t : ByteArray} {k : Nat} (h : t.size = k) : be (num t) k = bts t := by
  unfold num
  rw [be_nvl k (by rw [nbs_len]; exact h) nbs_lt, bts_nbs]
theorem num_be {t : ByteArray} {y k : Nat} (h : bts t = be y k) (hy : y < 256 ^ k) : num t = y := by
  have e : nbs t = beN y k := nbs_of_bts (by rw [h, be_beN])
  unfold num
  rw [e]
  have := nvl_be hy (j := k) (Nat.le_refl _)
  rw [List.take_of_length_le (by rw [beN_len]; exact Nat.le_refl _), Nat.sub_self, Nat.pow_zero, Nat.div_one] at this
  exact this
theorem catb_chs {s : ByteArray} : ∀ {j : Nat}, 71 + 32 * j ≤ s.size → catb (chs s j) = ((bts s).drop 71).take (32 * j)
  | 0, _ => by simp [catb, chs]
  | j + 1, h => by
    rw [chs_succ, catb_snoc, catb_chs (by omega), bts_ext, show 71 + 32 * j + 32 - (71 + 32 * j) = 32 by omega, ← List.drop_drop, show 32 * (j + 1) = 32 * j + 32 by omega, List.take_add]
/-- What was read, laid again. -/
theorem own_back {s : ByteArray} (h1 : 71 ≤ s.size) (h2 : (s.size - 71) % 32 = 0) : leafT (rVer s) (rSz s) (rCh s) (rH s) (rT s) ++ tx (catb (chs s ((s.size - 71) / 32))) = s := by
  unfold leafT leafL rVer rSz rCh rH rT
  rw [← tx_app, catb_chs (by omega), ← tx_bts s]
  congr 1
  rw [tx_bts]
  simp only [Int.toNat_natCast]
  rw [be_num (t := s.extract 0 1) (by rw [ByteArray.size_extract]; omega), be_num (t := s.extract 1 5) (by rw [ByteArray.size_extract]; omega), be_num (t := s.extract 5 7) (by rw [ByteArray.size_extract]; omega)]
  simp only [bts_ext]
  have hl : (bts s).length = 71 + 32 * ((s.size - 71) / 32) := by rw [bts_len]; omega
  generalize bts s = b at hl
  rw [List.take_of_length_le (l := b.drop 71) (by rw [List.length_drop]; omega)]
  have a1 : ∀ (i k : Nat), b.take i ++ (b.drop i).take k = b.take (i + k) := fun i k => List.take_add.symm
  rw [List.drop_zero, show 1 - 0 = 1 from rfl, show 5 - 1 = 4 from rfl, show 7 - 5 = 2 from rfl, show 39 - 7 = 32 from rfl, a1, a1, a1, a1, List.take_append_drop]
theorem catb_seg {l : List ByteArray} (h : ∀ q ∈ l, q.size = 32) {i : Nat} (hi : i < l.length) : ((catb l).drop (32 * i)).take 32 = bts l[i] := by
  have e : l = l.take i ++ l[i] :: l.drop (i + 1) := by rw [List.getElem_cons_drop, List.take_append_drop]
  have h1 : (catb (l.take i)).length = 32 * i := by
    rw [catb_32 (fun q hq => h q (List.mem_of_mem_take hq)), List.length_take]; omega
  have h2 : (bts l[i]).length = 32 := by rw [bts_len]; exact h _ (List.getElem_mem _)
  have e2 : catb l = catb (l.take i) ++ (bts l[i] ++ catb (l.drop (i + 1))) := by
    conv => lhs; rw [e]
    rw [catb_app]; simp only [catb, List.flatMap_cons]
  rw [e2, List.drop_append_of_le_length (by omega), List.drop_of_length_le (by omega), List.nil_append, List.take_append_of_le_length (by omega), List.take_of_length_le (by omega)]
/-- What was laid, read. -/
theorem own_read {ver sz ch : Nat} {h t : ByteArray} {l : List ByteArray} (h1 : ver < 256) (h2 : sz < 4294967296) (h3 : ch < 65536) (hh : h.size = 32) (ht : t.size = 32) (hl : ∀ q ∈ l, q.size = 32) {s : ByteArray} (hs : s = leafT ver sz ch h t ++ tx (catb l)) :
    s.size = 71 + 32 * l.length ∧ rVer s = ver ∧ rSz s = sz ∧ rCh s = ch ∧ rH s = h ∧ rT s = t ∧ chs s l.length = l := by
  have hb : bts s = leafL ver sz ch h t ++ catb l := by
    rw [hs]; unfold leafT
    rw [← tx_app, btx]
    intro y hy
    unfold leafL at hy
    simp only [List.mem_append] at hy
    have hbt : ∀ {q : ByteArray} {y : Int}, y ∈ bts q → 0 ≤ y ∧ y ≤ 255 := by
      intro q y hy
      obtain ⟨b, _, rfl⟩ := List.mem_map.1 hy
      have := b.toNat_lt
      omega
    rcases hy with ((((hy | hy) | hy) | hy) | hy) | hy
    · exact be_bytes y hy
    · exact be_bytes y hy
    · exact be_bytes y hy
    · exact hbt hy
    · exact hbt hy
    · obtain ⟨q, _, hq⟩ := List.mem_flatMap.1 hy
      exact hbt hq
  have hc := catb_32 hl
  have hb' := hb
  unfold leafL at hb'
  simp only [Int.toNat_natCast, List.append_assoc] at hb'
  have hz : s.size = 71 + 32 * l.length := by
    rw [← bts_len, hb']
    simp only [List.length_append, be_len, bts_len, hh, ht, hc]
    omega
  have l1 : (be ver 1).length = 1 := be_len
  have l4 : (be sz 4).length = 4 := be_len
  have l2 : (be ch 2).length = 2 := be_len
  have lh : (bts h).length = 32 := by rw [bts_len, hh]
  have lt' : (bts t).length = 32 := by rw [bts_len, ht]
  have d0 : (bts s).drop 1 = be sz 4 ++ (be ch 2 ++ (bts h ++ (bts t ++ catb l))) := by rw [hb', List.drop_append_of_le_length (by omega), List.drop_of_length_le (by omega), List.nil_append]
  have d1 : (bts s).drop 5 = be ch 2 ++ (bts h ++ (bts t ++ catb l)) := by
    rw [show 5 = 1 + 4 from rfl, ← List.drop_drop, d0, List.drop_append_of_le_length (by omega), List.drop_of_length_le (by omega), List.nil_append]
  have d2 : (bts s).drop 7 = bts h ++ (bts t ++ catb l) := by
    rw [show 7 = 5 + 2 from rfl, ← List.drop_drop, d1, List.drop_append_of_le_length (by omega), List.drop_of_length_le (by omega), List.nil_append]
  have d3 : (bts s).drop 39 = bts t ++ catb l := by
    rw [show 39 = 7 + 32 from rfl, ← List.drop_drop, d2, List.drop_append_of_le_length (by omega), List.drop_of_length_le (by omega), List.nil_append]
  have d4 : (bts s).drop 71 = catb l := by
    rw [show 71 = 39 + 32 from rfl, ← List.drop_drop, d3, List.drop_append_of_le_length (by omega), List.drop_of_length_le (by omega), List.nil_append]
  refine ⟨hz, ?_, ?_, ?_, ?_, ?_, ?_⟩
  · exact num_be (by rw [bts_ext, hb', List.drop_zero, List.take_append_of_le_length (by omega), List.take_of_length_le (by omega)]) (by omega)
  · exact num_be (by rw [bts_ext, d0, List.take_append_of_le_length (by omega), List.take_of_length_le (by omega)]) (by omega)
  · exact num_be (by rw [bts_ext, d1, List.take_append_of_le_length (by omega), List.take_of_length_le (by omega)]) (by omega)
  · exact bts_inj (by unfold rH; rw [bts_ext, d2, List.take_append_of_le_length (by omega), List.take_of_length_le (by omega)])
  · exact bts_inj (by unfold rT; rw [bts_ext, d3, List.take_append_of_le_length (by omega), List.take_of_length_le (by omega)])
  · refine List.ext_getElem (by rw [chs_len]) fun i h1 h2 => ?_
    apply bts_inj
    have : (chs s l.length)[i] = s.extract (71 + 32 * i) (71 + 32 * i + 32) := by simp [chs]
    rw [this, bts_ext, ← List.drop_drop, d4, show 71 + 32 * i + 32 - (71 + 32 * i) = 32 by omega, catb_seg hl h2]
end Go.Sx

/- Bills: the law of reading. -/
set_option linter.unusedVariables false
set_option linter.unusedSimpArgs false
set_option maxRecDepth 100000
namespace Go.Sx
attribute [local go_sem ↓] bind_mk intsB_mk strsB_mk svB_mk fnVC ob_some vc_skip vc_exit vc_ret vc_seq vc_block kSeq_normal kSeq_exit kSeq_ret kBlock_normal kBlock_exit kBlock_ret vc_reg vc_regD vc_cond condK_true condK_false vc_loop kLoop_exit kLoop_ret kRoll_normal kRoll_exit kRoll_ret vcOps_nil vcOps_cons gd_bool gd_undef put_some put_none vcT_fin vcT_pure vcT_act vcT_acts vcT_stop stab_none stab_some stabM_nil stabM_cons stabO_ld stabO_ldn stabO_slP stabO_b2s fldOf_ai fldOf_agg fldOf_ait fldOf_aggt intsOf_nil intsOf_cons strsOf_nil strsOf_cons c_omap ob_if lk_nil lk_cons ev_t ev_k z_mov z_pick z_bin z_binB z_binP z_un z_r2s z_conv z_s2b z_b2s z_alloc z_bld z_bldI z_rowI z_rowS z_ld z_ldn z_st z_stn asN_ptr asN_fn z_nilck z_fld z_fadr z_idxA z_idxP z_idxS z_idxV z_slS z_slL z_slP z_mk z_lenS z_lenL z_app appC_ints appC_pl appC_sv appC_strs isS_strs loose_ints loose_pl loose_sv z_slM z_callv callvK_fn callvK_f callvK_yl vc_rangeF rfEnd_eq rfGo_none rfGo_ret rfGo_exit yGo_mk yEnd_n yEnd_r yEnd_e yRdy_mk yMid_n putPs_nil putPs_cons leaf_v leaf_ptr leaf_sl leaf_yl leaf_mp z_appS z_appZ z_cpyS z_mkfn reps_int reps_str z_rowV z_slnil nilK_zero z_cpy z_call asT_tup z_extT z_box boxOf_ai boxOf_agg boxOf_int boxOf_str boxOf_bool boxOf_ptr boxOf_sl sbin_int sbin_str sbinB_mk sbinP_nn sbinP_pn sbinP_np i_add i_sub i_mul i_quo i_rem i_and i_or i_xor i_andNot i_shl i_shr i_eql i_neq i_lss i_leq i_gtr i_geq st_add st_eql st_neq st_lss st_leq st_gtr st_geq bo_eql bo_neq pt_eql pt_neq un_neg un_xor un_not asI_mk asB_mk asS_mk asP_mk asSl_mk asBy_mk bnd_none bnd_some get_mk hput_mk hdel_mk kill_eq wrOf_eq rowOf_eq rsvs_0 rsvs_1 rsvs_2 rsvs_3 rsv_t rsv_c1 rsv_cn nt_v nt_ptr nt_sl nt_agg nt_ai get_ints get_strs get_pl get_sv getN_ints getN_sv set_ints set_strs set_sv setN_ints setN_sv part_ints part_strs part_sv cat_ints cat_strs cat_sv over_ints over_strs over_sv ones_ints ones_strs evs_nil evs_cons condK_eqt condK_eqf det_callP V_ns V_nn V_gs V_gn obC_mk fresh_ev setN_plagg setN_intsv setN_svai setN_svagg over_intsv set_pl setN_pl setN_plai getN_pl getN_strs part_pl cat_pl over_pl over_plints z_mm
attribute [local go_sem] initTm ne_eq not_true_eq_false not_false_eq_true true_and and_true List.length_cons List.length_nil Int.toNat_natCast Nat.add_zero Nat.zero_add Nat.mul_one List.getElem?_cons_zero List.drop_zero List.take_length List.take_succ_cons List.take_zero List.take_nil List.drop_succ_cons Option.map_some Nat.le_refl implies_true List.getElem?_cons_succ decide_true decide_false Bool.not_true Bool.not_false beq_self_eq_true Nat.succ_ne_self Nat.one_ne_zero Nat.zero_ne_one vk_mk hk_mk nk_mk tok_eq plsOf_map intsOf_map bodyOf_pl bodyOf_ints bodyOf_strs bodyOf_sv part_aggv part_agg part_ai part_int part_str part_bool part_sl part_ptr part_nil numsOf_map u_int u_str u_bool u_pnil u_sl u_ptr u_oci u_ocs evq_nil evq_cons fillS_nil fillS_cons u_ocb ones_pl cells_sv cells_ints cells_strs cells_pl smms_nil smms_cons smm_min smm_max plsOf_nil List.nil_append List.all_cons List.all_nil Bool.and_self Bool.true_and Bool.and_true zws_len zw_len zi_len List.set_cons_zero List.set_cons_succ List.flatMap_cons List.flatMap_nil List.append_nil
open Go.Proofs
variable {H : Hp} {n : Nat} {x : Nat → Option SO}

theorem readV_form (s : ByteArray) : ∃ (V S C : Int) (h t : ByteArray) (e : Int), (∀ i, readV s i = .tup [blA V S C h t i 0 (readL s).length, .v (.int .i64 e)]) ∧ (readL s).length ≤ 128 ∧ (∀ q ∈ readL s, q.size = 32) ∧
    (readP s → e = 0 ∧ V = rVer s ∧ S = rSz s ∧ C = rCh s ∧ h = rH s ∧ t = rT s ∧ readL s = chs s ((s.size - 71) / 32) ∧ ckP V S C h t (readL s)) ∧ (¬ readP s → e = 3 ∧ readL s = []) := by
  by_cases hP : readP s
  · have hL : readL s = chs s ((s.size - 71) / 32) := if_pos hP
    rw [hL]
    have ha := hP.2.2.all32
    refine ⟨rVer s, rSz s, rCh s, rH s, rT s, 0, fun i => ?_, ha.2, ha.1, fun _ => ⟨rfl, rfl, rfl, rfl, rfl, rfl, rfl, hP.2.2⟩, fun h => absurd hP h⟩
    unfold readV; rw [if_pos hP, chs_len]
  · have hL : readL s = [] := if_neg hP
    rw [hL]
    exact ⟨0, 0, 0, ⟨#[]⟩, ⟨#[]⟩, 3, fun i => if_neg hP, by simp, fun q hq => (by cases hq), fun h => absurd h hP, fun _ => ⟨rfl, rfl⟩⟩
theorem readS {s : ByteArray} (hn : n + 1 ≤ 1000) (hs : s.size ≤ 9223372036854775807) :
    SpecAt Try.prog nBRead [.v (.string s)] H n (readV s n) ⟨(n, some ⟨true, .strs (readL s)⟩) :: H.l, H.x⟩ (n + 1) := by
  obtain ⟨V, S, C, h, t, e, hV, _⟩ := readV_form s
  have h0 := okT.spec tBRead (readBW (x := H.x) (s := s) hs)
  rw [hV] at h0 ⊢
  exact lift (n := n) h0 [] rfl rfl rfl (by omega) rfl rfl trivial rfl rfl (by omega)
theorem rreadS {s : ByteArray} (hn : n + 1 ≤ 1000) (hs : s.size ≤ 9223372036854775807) :
    SpecAt Try.prog nrBRead [.v (.string s)] H n (readV s n) ⟨(n, some ⟨true, .strs (readL s)⟩) :: H.l, H.x⟩ (n + 1) := by
  obtain ⟨V, S, C, h, t, e, hV, _⟩ := readV_form s
  have h0 := okT.spec trBRead (rreadBW (x := H.x) (s := s) hs)
  rw [hV] at h0 ⊢
  exact lift (n := n) h0 [] rfl rfl rfl (by omega) rfl rfl trivial rfl rfl (by omega)
theorem billReadsW {ver sz ch i : Int} {h t s : ByteArray} {m : Nat} {ss : List ByteArray} (hm : m ≤ ss.length) (hm2 : m ≤ 1048576) (hz : szB ss) (hs : s.size ≤ 9223372036854775807) :
    fnVC CT mBillReads [.v (.string s), blA ver sz ch h t 1 0 m, .v (.int .i64 i)] ⟨[(1, some ⟨false, .strs ss⟩)], x⟩ 2 fun v H' n' => Sub 2 ⟨[(0, .v (.bool true))], ⟨[], x⟩, 2⟩ ⟨[(0, v)], H', n'⟩ := by
  unfold mBillReads
  have hM1 : min (m : Int) 300 = ((min m 300 : Nat) : Int) := by omega
  obtain ⟨V, S, C, h', t', e, hV, hk, h32, hT, hF⟩ := readV_form s
  have hms := fun (H : Hp) (n : Nat) (hn : n + 1 ≤ 1000) => readS (H := H) (n := n) (s := s) hn hs
  have hmr := fun (H : Hp) (n : Nat) (hn : n + 1 ≤ 1000) => rreadS (H := H) (n := n) (s := s) hn hs
  simp only [hV] at hms hmr
  have hown : readP s → bytesV V S C h' t' (readL s) = .tup [.v (.string s), .v (.int .i64 0)] := by
    intro hP
    obtain ⟨_, rfl, rfl, rfl, rfl, rfl, hL, hck⟩ := hT hP
    unfold bytesV
    rw [if_pos hck, hL, own_back hP.1 hP.2.1]
  have he : (readP s ∧ e = 0) ∨ (¬ readP s ∧ e = 3) := by
    by_cases hP : readP s
    · exact .inl ⟨hP, (hT hP).1⟩
    · exact .inr ⟨hP, (hF hP).1⟩
  clear hT hF hV
  generalize readL s = L at hk h32 hms hmr hown
  have g : ∀ z : Int, decide (z = z) = true := fun z => decide_eq_true rfl
  have hsz : szB ((L.drop 0).take L.length) := fun q hq => by rw [h32 q (List.mem_of_mem_drop (List.mem_of_mem_take hq))]; decide
  have eL : (L.drop 0).take L.length = L := by rw [List.drop_zero]; exact List.take_of_length_le (Nat.le_refl _)
  simp -implicitDefEqProofs only [↓fnVC, initTm]
  simp -implicitDefEqProofs only [go_sem, ↓reduceIte, Nat.reduceEqDiff, Nat.reduceAdd, Nat.reduceMul, Nat.reduceLT, Nat.reduceLeDiff, Nat.reduceSub, Int.reduceToNat, Int.reduceLE, Int.reduceLT, reduceCtorEq, Int.reduceEq, Int.reduceGT, Int.reduceGE, Int.reduceNeg, blA]
  refine at_call tbills billsS ?_
  simp -implicitDefEqProofs only [go_sem, ↓reduceIte, Nat.reduceEqDiff, Nat.reduceAdd, Nat.reduceMul, Nat.reduceLT, Nat.reduceLeDiff, Nat.reduceSub, Int.reduceToNat, Int.reduceLE, Int.reduceLT, reduceCtorEq, Int.reduceEq, Int.reduceGT, Int.reduceGE, Int.reduceNeg, hM1, sp5]
  generalize hkk : min m 300 = k
  have hkm : k ≤ m ∧ k ≤ 300 := by omega
  refine ⟨⟨by omega, by omega⟩, ?_⟩
  refine at_call tBRead (hms _ _ (by decide)) ?_
  simp -implicitDefEqProofs only [go_sem, ↓reduceIte, Nat.reduceEqDiff, Nat.reduceAdd, Nat.reduceMul, Nat.reduceLT, Nat.reduceLeDiff, Nat.reduceSub, Int.reduceToNat, Int.reduceLE, Int.reduceLT, reduceCtorEq, Int.reduceEq, Int.reduceGT, Int.reduceGE, Int.reduceNeg, blA, sp6]
  refine at_call trBRead (hmr _ _ (by decide)) ?_
  simp -implicitDefEqProofs only [go_sem, ↓reduceIte, Nat.reduceEqDiff, Nat.reduceAdd, Nat.reduceMul, Nat.reduceLT, Nat.reduceLeDiff, Nat.reduceSub, Int.reduceToNat, Int.reduceLE, Int.reduceLT, reduceCtorEq, Int.reduceEq, Int.reduceGT, Int.reduceGE, Int.reduceNeg, blA, sp6, g]
  refine at_call trBSame (sameBS (a := 3) (b := 5) (ss := L) (by rfl) (by rfl) rfl (by omega)) ?_
  have hz1 : szB ((ss.drop 0).take k) := szB_take (szB_drop hz)
  obtain ⟨B1, E1, hB1⟩ : ∃ (b : ByteArray) (e : Int), leafV ver sz ch h t ((ss.drop 0).take k) = .tup [.v (.string b), .v (.int .i64 e)] := by
    unfold leafV; split <;> exact ⟨_, _, rfl⟩
  obtain ⟨B2, E2, hB2⟩ : ∃ (b : ByteArray) (e : Int), bytesV ver sz ch h t ((ss.drop 0).take k) = .tup [.v (.string b), .v (.int .i64 e)] := by
    unfold bytesV; split <;> exact ⟨_, _, rfl⟩
  rcases he with ⟨hP, rfl⟩ | ⟨hP, rfl⟩
  · simp -implicitDefEqProofs only [go_sem, ↓reduceIte, Nat.reduceEqDiff, Nat.reduceAdd, Nat.reduceMul, Nat.reduceLT, Nat.reduceLeDiff, Nat.reduceSub, Int.reduceToNat, Int.reduceLE, Int.reduceLT, reduceCtorEq, Int.reduceEq, Int.reduceGT, Int.reduceGE, Int.reduceNeg, blA, sp6]
    refine at_call tBBytes (bytesBS (i := 3) (o := 0) (m := L.length) (ss := L) (by rfl) (by omega) (by omega) hsz) ?_
    rw [eL, hown hP]
    simp -implicitDefEqProofs only [go_sem, ↓reduceIte, Nat.reduceEqDiff, Nat.reduceAdd, Nat.reduceMul, Nat.reduceLT, Nat.reduceLeDiff, Nat.reduceSub, Int.reduceToNat, Int.reduceLE, Int.reduceLT, reduceCtorEq, Int.reduceEq, Int.reduceGT, Int.reduceGE, Int.reduceNeg, seq_self]
    refine at_call tBBytes (bytesBS (i := 1) (o := 0) (m := k) (ss := ss) (by rfl) (by omega) (by omega) hz1) ?_
    rw [hB2]
    simp -implicitDefEqProofs only [go_sem, ↓reduceIte, Nat.reduceEqDiff, Nat.reduceAdd, Nat.reduceMul, Nat.reduceLT, Nat.reduceLeDiff, Nat.reduceSub, Int.reduceToNat, Int.reduceLE, Int.reduceLT, reduceCtorEq, Int.reduceEq, Int.reduceGT, Int.reduceGE, Int.reduceNeg, blA]
    refine at_call trBBytes (rbytesBS (i := 1) (o := 0) (m := k) (ss := ss) (by rfl) (by omega) (by omega) hz1) ?_
    rw [hB2]
    simp -implicitDefEqProofs only [go_sem, ↓reduceIte, Nat.reduceEqDiff, Nat.reduceAdd, Nat.reduceMul, Nat.reduceLT, Nat.reduceLeDiff, Nat.reduceSub, Int.reduceToNat, Int.reduceLE, Int.reduceLT, reduceCtorEq, Int.reduceEq, Int.reduceGT, Int.reduceGE, Int.reduceNeg, blA]
    refine at_call tBLeaf (leafBS (i := 1) (o := 0) (m := k) (ss := ss) (by rfl) (by omega) (by omega) hz1) ?_
    rw [hB1]
    simp -implicitDefEqProofs only [go_sem, ↓reduceIte, Nat.reduceEqDiff, Nat.reduceAdd, Nat.reduceMul, Nat.reduceLT, Nat.reduceLeDiff, Nat.reduceSub, Int.reduceToNat, Int.reduceLE, Int.reduceLT, reduceCtorEq, Int.reduceEq, Int.reduceGT, Int.reduceGE, Int.reduceNeg, blA]
    refine at_call trBLeaf (rleafBS (i := 1) (o := 0) (m := k) (ss := ss) (by rfl) (by omega) (by omega) hz1) ?_
    rw [hB1]
    simp -implicitDefEqProofs only [go_sem, ↓reduceIte, Nat.reduceEqDiff, Nat.reduceAdd, Nat.reduceMul, Nat.reduceLT, Nat.reduceLeDiff, Nat.reduceSub, Int.reduceToNat, Int.reduceLE, Int.reduceLT, reduceCtorEq, Int.reduceEq, Int.reduceGT, Int.reduceGE, Int.reduceNeg, blA]
    refine at_call tBCut (cutBS (i := 1) (o := 0) (m := k) (ss := ss) (by rfl) (by omega) (by omega) hz1) ?_
    simp -implicitDefEqProofs only [go_sem, ↓reduceIte, Nat.reduceEqDiff, Nat.reduceAdd, Nat.reduceMul, Nat.reduceLT, Nat.reduceLeDiff, Nat.reduceSub, Int.reduceToNat, Int.reduceLE, Int.reduceLT, reduceCtorEq, Int.reduceEq, Int.reduceGT, Int.reduceGE, Int.reduceNeg, blA]
    refine at_call trBCut (rcutBS (i := 1) (o := 0) (m := k) (ss := ss) (by rfl) (by omega) (by omega) hz1) ?_
    simp -implicitDefEqProofs only [go_sem, ↓reduceIte, Nat.reduceEqDiff, Nat.reduceAdd, Nat.reduceMul, Nat.reduceLT, Nat.reduceLeDiff, Nat.reduceSub, Int.reduceToNat, Int.reduceLE, Int.reduceLT, reduceCtorEq, Int.reduceEq, Int.reduceGT, Int.reduceGE, Int.reduceNeg, blA]
    refine at_call tBCheck (checkS (i := 1) (o := 0) (m := k) (ss := ss) (by rfl) (by omega) (by omega) hz1) ?_
    simp -implicitDefEqProofs only [go_sem, ↓reduceIte, Nat.reduceEqDiff, Nat.reduceAdd, Nat.reduceMul, Nat.reduceLT, Nat.reduceLeDiff, Nat.reduceSub, Int.reduceToNat, Int.reduceLE, Int.reduceLT, reduceCtorEq, Int.reduceEq, Int.reduceGT, Int.reduceGE, Int.reduceNeg, blA]
    refine at_call trBCheck (rcheckS (i := 1) (o := 0) (m := k) (ss := ss) (by rfl) (by omega) (by omega) hz1) ?_
    simp -implicitDefEqProofs only [go_sem, ↓reduceIte, Nat.reduceEqDiff, Nat.reduceAdd, Nat.reduceMul, Nat.reduceLT, Nat.reduceLeDiff, Nat.reduceSub, Int.reduceToNat, Int.reduceLE, Int.reduceLT, reduceCtorEq, Int.reduceEq, Int.reduceGT, Int.reduceGE, Int.reduceNeg, blA, g, seq_self]
    refine at_call tBCount (countBS (i := 1) (o := 0) (m := k) (ss := ss) (by rfl) (by omega) (by omega) hz1) ?_
    simp -implicitDefEqProofs only [go_sem, ↓reduceIte, Nat.reduceEqDiff, Nat.reduceAdd, Nat.reduceMul, Nat.reduceLT, Nat.reduceLeDiff, Nat.reduceSub, Int.reduceToNat, Int.reduceLE, Int.reduceLT, reduceCtorEq, Int.reduceEq, Int.reduceGT, Int.reduceGE, Int.reduceNeg, blA]
    refine at_call trBCount (rcountBS (i := 1) (o := 0) (m := k) (ss := ss) (by rfl) (by omega) (by omega) hz1) ?_
    simp -implicitDefEqProofs only [go_sem, ↓reduceIte, Nat.reduceEqDiff, Nat.reduceAdd, Nat.reduceMul, Nat.reduceLT, Nat.reduceLeDiff, Nat.reduceSub, Int.reduceToNat, Int.reduceLE, Int.reduceLT, reduceCtorEq, Int.reduceEq, Int.reduceGT, Int.reduceGE, Int.reduceNeg, blA, g]
    exact sub_val rfl (by decide) (by decide) rfl
  · simp -implicitDefEqProofs only [go_sem, ↓reduceIte, Nat.reduceEqDiff, Nat.reduceAdd, Nat.reduceMul, Nat.reduceLT, Nat.reduceLeDiff, Nat.reduceSub, Int.reduceToNat, Int.reduceLE, Int.reduceLT, reduceCtorEq, Int.reduceEq, Int.reduceGT, Int.reduceGE, Int.reduceNeg, blA, sp6]
    refine at_call tBBytes (bytesBS (i := 1) (o := 0) (m := k) (ss := ss) (by rfl) (by omega) (by omega) hz1) ?_
    rw [hB2]
    simp -implicitDefEqProofs only [go_sem, ↓reduceIte, Nat.reduceEqDiff, Nat.reduceAdd, Nat.reduceMul, Nat.reduceLT, Nat.reduceLeDiff, Nat.reduceSub, Int.reduceToNat, Int.reduceLE, Int.reduceLT, reduceCtorEq, Int.reduceEq, Int.reduceGT, Int.reduceGE, Int.reduceNeg, blA]
    refine at_call trBBytes (rbytesBS (i := 1) (o := 0) (m := k) (ss := ss) (by rfl) (by omega) (by omega) hz1) ?_
    rw [hB2]
    simp -implicitDefEqProofs only [go_sem, ↓reduceIte, Nat.reduceEqDiff, Nat.reduceAdd, Nat.reduceMul, Nat.reduceLT, Nat.reduceLeDiff, Nat.reduceSub, Int.reduceToNat, Int.reduceLE, Int.reduceLT, reduceCtorEq, Int.reduceEq, Int.reduceGT, Int.reduceGE, Int.reduceNeg, blA]
    refine at_call tBLeaf (leafBS (i := 1) (o := 0) (m := k) (ss := ss) (by rfl) (by omega) (by omega) hz1) ?_
    rw [hB1]
    simp -implicitDefEqProofs only [go_sem, ↓reduceIte, Nat.reduceEqDiff, Nat.reduceAdd, Nat.reduceMul, Nat.reduceLT, Nat.reduceLeDiff, Nat.reduceSub, Int.reduceToNat, Int.reduceLE, Int.reduceLT, reduceCtorEq, Int.reduceEq, Int.reduceGT, Int.reduceGE, Int.reduceNeg, blA]
    refine at_call trBLeaf (rleafBS (i := 1) (o := 0) (m := k) (ss := ss) (by rfl) (by omega) (by omega) hz1) ?_
    rw [hB1]
    simp -implicitDefEqProofs only [go_sem, ↓reduceIte, Nat.reduceEqDiff, Nat.reduceAdd, Nat.reduceMul, Nat.reduceLT, Nat.reduceLeDiff, Nat.reduceSub, Int.reduceToNat, Int.reduceLE, Int.reduceLT, reduceCtorEq, Int.reduceEq, Int.reduceGT, Int.reduceGE, Int.reduceNeg, blA]
    refine at_call tBCut (cutBS (i := 1) (o := 0) (m := k) (ss := ss) (by rfl) (by omega) (by omega) hz1) ?_
    simp -implicitDefEqProofs only [go_sem, ↓reduceIte, Nat.reduceEqDiff, Nat.reduceAdd, Nat.reduceMul, Nat.reduceLT, Nat.reduceLeDiff, Nat.reduceSub, Int.reduceToNat, Int.reduceLE, Int.reduceLT, reduceCtorEq, Int.reduceEq, Int.reduceGT, Int.reduceGE, Int.reduceNeg, blA]
    refine at_call trBCut (rcutBS (i := 1) (o := 0) (m := k) (ss := ss) (by rfl) (by omega) (by omega) hz1) ?_
    simp -implicitDefEqProofs only [go_sem, ↓reduceIte, Nat.reduceEqDiff, Nat.reduceAdd, Nat.reduceMul, Nat.reduceLT, Nat.reduceLeDiff, Nat.reduceSub, Int.reduceToNat, Int.reduceLE, Int.reduceLT, reduceCtorEq, Int.reduceEq, Int.reduceGT, Int.reduceGE, Int.reduceNeg, blA]
    refine at_call tBCheck (checkS (i := 1) (o := 0) (m := k) (ss := ss) (by rfl) (by omega) (by omega) hz1) ?_
    simp -implicitDefEqProofs only [go_sem, ↓reduceIte, Nat.reduceEqDiff, Nat.reduceAdd, Nat.reduceMul, Nat.reduceLT, Nat.reduceLeDiff, Nat.reduceSub, Int.reduceToNat, Int.reduceLE, Int.reduceLT, reduceCtorEq, Int.reduceEq, Int.reduceGT, Int.reduceGE, Int.reduceNeg, blA]
    refine at_call trBCheck (rcheckS (i := 1) (o := 0) (m := k) (ss := ss) (by rfl) (by omega) (by omega) hz1) ?_
    simp -implicitDefEqProofs only [go_sem, ↓reduceIte, Nat.reduceEqDiff, Nat.reduceAdd, Nat.reduceMul, Nat.reduceLT, Nat.reduceLeDiff, Nat.reduceSub, Int.reduceToNat, Int.reduceLE, Int.reduceLT, reduceCtorEq, Int.reduceEq, Int.reduceGT, Int.reduceGE, Int.reduceNeg, blA, g, seq_self]
    refine at_call tBCount (countBS (i := 1) (o := 0) (m := k) (ss := ss) (by rfl) (by omega) (by omega) hz1) ?_
    simp -implicitDefEqProofs only [go_sem, ↓reduceIte, Nat.reduceEqDiff, Nat.reduceAdd, Nat.reduceMul, Nat.reduceLT, Nat.reduceLeDiff, Nat.reduceSub, Int.reduceToNat, Int.reduceLE, Int.reduceLT, reduceCtorEq, Int.reduceEq, Int.reduceGT, Int.reduceGE, Int.reduceNeg, blA]
    refine at_call trBCount (rcountBS (i := 1) (o := 0) (m := k) (ss := ss) (by rfl) (by omega) (by omega) hz1) ?_
    simp -implicitDefEqProofs only [go_sem, ↓reduceIte, Nat.reduceEqDiff, Nat.reduceAdd, Nat.reduceMul, Nat.reduceLT, Nat.reduceLeDiff, Nat.reduceSub, Int.reduceToNat, Int.reduceLE, Int.reduceLT, reduceCtorEq, Int.reduceEq, Int.reduceGT, Int.reduceGE, Int.reduceNeg, blA, g]
    exact sub_val rfl (by decide) (by decide) rfl
end Go.Sx
