/- Bills: made of an image. -/
import Derived.Test.YtbjfkgjijddlpaaBillA
import Derived.Test.YtbjfkgjijddlpaaSxC
import Derived.Test.YtbjfkgjijddlpaaChecked
import Derived.Shelf.Strings.OnBuilder
import Derived.Test.YtbjfkgjijddlpaaRows

set_option linter.unusedVariables false
set_option linter.unusedSimpArgs false
set_option maxRecDepth 100000
namespace Go.Sx
attribute [local go_sem ↓] bind_mk intsB_mk strsB_mk svB_mk fnVC ob_some vc_skip vc_exit vc_ret vc_seq vc_block kSeq_normal kSeq_exit kSeq_ret kBlock_normal kBlock_exit kBlock_ret vc_reg vc_regD vc_cond condK_true condK_false vc_loop kLoop_exit kLoop_ret kRoll_normal kRoll_exit kRoll_ret vcOps_nil vcOps_cons gd_bool gd_undef put_some put_none vcT_fin vcT_pure vcT_act vcT_acts vcT_stop stab_none stab_some stabM_nil stabM_cons stabO_ld stabO_ldn stabO_slP stabO_b2s fldOf_ai fldOf_agg fldOf_ait fldOf_aggt intsOf_nil intsOf_cons strsOf_nil strsOf_cons c_omap ob_if lk_nil lk_cons ev_t ev_k z_mov z_pick z_bin z_binB z_binP z_un z_r2s z_conv z_s2b z_b2s z_alloc z_bld z_bldI z_rowI z_rowS z_ld z_ldn z_st z_stn asN_ptr asN_fn z_nilck z_fld z_fadr z_idxA z_idxP z_idxS z_idxV z_slS z_slL z_slP z_mk z_lenS z_lenL z_app appC_ints appC_pl appC_sv appC_strs isS_strs loose_ints loose_pl loose_sv z_slM z_callv callvK_fn callvK_f callvK_yl vc_rangeF rfEnd_eq rfGo_none rfGo_ret rfGo_exit yGo_mk yEnd_n yEnd_r yEnd_e yRdy_mk yMid_n putPs_nil putPs_cons leaf_v leaf_ptr leaf_sl leaf_yl leaf_mp z_appS z_appZ z_cpyS z_mkfn reps_int reps_str z_rowV z_slnil nilK_zero z_cpy z_call asT_tup z_extT z_box boxOf_ai boxOf_agg boxOf_int boxOf_str boxOf_bool boxOf_ptr boxOf_sl sbin_int sbin_str sbinB_mk sbinP_nn sbinP_pn sbinP_np i_add i_sub i_mul i_quo i_rem i_and i_or i_xor i_andNot i_shl i_shr i_eql i_neq i_lss i_leq i_gtr i_geq st_add st_eql st_neq st_lss st_leq st_gtr st_geq bo_eql bo_neq pt_eql pt_neq un_neg un_xor un_not asI_mk asB_mk asS_mk asP_mk asSl_mk asBy_mk bnd_none bnd_some get_mk hput_mk hdel_mk kill_eq wrOf_eq rowOf_eq rsvs_0 rsvs_1 rsvs_2 rsvs_3 rsv_t rsv_c1 rsv_cn nt_v nt_ptr nt_sl nt_agg nt_ai get_ints get_strs get_pl get_sv getN_ints getN_sv set_ints set_strs set_sv setN_ints setN_sv part_ints part_strs part_sv cat_ints cat_strs cat_sv over_ints over_strs over_sv ones_ints ones_strs evs_nil evs_cons condK_eqt condK_eqf det_callP V_ns V_nn V_gs V_gn obC_mk fresh_ev setN_plagg setN_intsv setN_svai setN_svagg over_intsv set_pl setN_pl setN_plai getN_pl getN_strs part_pl cat_pl over_pl over_plints z_mm
attribute [local go_sem] initTm ne_eq not_true_eq_false not_false_eq_true true_and and_true List.length_cons List.length_nil Int.toNat_natCast Nat.add_zero Nat.zero_add Nat.mul_one List.getElem?_cons_zero List.drop_zero List.take_length List.take_succ_cons List.take_zero List.take_nil List.drop_succ_cons Option.map_some Nat.le_refl implies_true List.getElem?_cons_succ decide_true decide_false Bool.not_true Bool.not_false beq_self_eq_true Nat.succ_ne_self Nat.one_ne_zero Nat.zero_ne_one vk_mk hk_mk nk_mk tok_eq plsOf_map intsOf_map bodyOf_pl bodyOf_ints bodyOf_strs bodyOf_sv part_aggv part_agg part_ai part_int part_str part_bool part_sl part_ptr part_nil numsOf_map u_int u_str u_bool u_pnil u_sl u_ptr u_oci u_ocs evq_nil evq_cons fillS_nil fillS_cons u_ocb ones_pl cells_sv cells_ints cells_strs cells_pl smms_nil smms_cons smm_min smm_max plsOf_nil List.nil_append List.all_cons List.all_nil Bool.and_self Bool.true_and Bool.and_true zws_len zw_len zi_len List.set_cons_zero List.set_cons_succ List.flatMap_cons List.flatMap_nil List.append_nil
open Go.Proofs
variable {H : Hp} {n : Nat} {x : Nat → Option SO}

def ckl (c : Nat) (s : ByteArray) (j : Nat) : ByteArray := lf (s.extract (j * c) (min (j * c + c) s.size))
def cks (c : Nat) (s : ByteArray) (k : Nat) : List ByteArray := (List.range k).map (ckl c s)
def cK (c : Nat) (s : ByteArray) : Nat := (s.size + c - 1) / c
theorem cks_len {c k : Nat} {s : ByteArray} : (cks c s k).length = k := by simp [cks]
theorem cks_succ {c k : Nat} {s : ByteArray} : cks c s (k + 1) = cks c s k ++ [ckl c s k] := by simp [cks, List.range_succ]
theorem cks_32 {c k : Nat} {s : ByteArray} : ∀ h ∈ cks c s k, h.size = 32 := by
  intro h hh
  obtain ⟨j, _, rfl⟩ := List.mem_map.1 hh
  exact sha_size _
theorem cks_szB {c k : Nat} {s : ByteArray} : szB (cks c s k) := fun h hh => by rw [cks_32 h hh]; decide
theorem lt_cK {c j : Nat} {s : ByteArray} (hc : 0 < c) : j < cK c s ↔ j * c < s.size := by
  unfold cK
  rw [← Nat.add_one_le_iff, Nat.le_div_iff_mul_le hc, Nat.succ_mul]
  omega
theorem cK_le {c : Nat} {s : ByteArray} (hc : 64 ≤ c) (hs : s.size ≤ 8192) : cK c s ≤ 128 := by
  have : cK c s < 129 := by
    unfold cK
    rw [Nat.div_lt_iff_lt_mul (by omega)]
    omega
  omega
theorem tx_bts (s : ByteArray) : tx (bts s) = s := by
  obtain ⟨⟨l⟩⟩ := s
  simp [tx, bts, Function.comp_def]
theorem bts_ext (s : ByteArray) (a b : Nat) : bts (s.extract a b) = ((bts s).drop a).take (b - a) := by
  simp [bts, ByteArray.data_extract, List.extract_eq_take_drop, List.map_take, List.map_drop]
theorem tx_seg {s : ByteArray} {a b : Nat} : tx (((bts s).drop a).take b) = s.extract a (a + b) := by
  rw [← tx_bts (s.extract a (a + b)), bts_ext, Nat.add_sub_cancel_left]
/-- An image's bill: is there one? -/
def makeP (ver : Int) (c : Int) (s : ByteArray) : Prop := partB c = true ∧ ckP ver s.size c (sha (bts s)) (root (cks c.toNat s (cK c.toNat s))) (cks c.toNat s (cK c.toNat s))
instance {ver c : Int} {s : ByteArray} : Decidable (makeP ver c s) := by unfold makeP; infer_instance
def makeL (ver c : Int) (s : ByteArray) : List ByteArray := if makeP ver c s then cks c.toNat s (cK c.toNat s) else []
/-- What is answered; the chunks lie under the name i. -/
def makeV (ver c : Int) (s : ByteArray) (i : Nat) : SV :=
  if makeP ver c s then .tup [blA ver s.size c (sha (bts s)) (root (cks c.toNat s (cK c.toNat s))) i 0 (cK c.toNat s), .v (.int .i64 0)] else .tup [blA 0 0 0 ⟨#[]⟩ ⟨#[]⟩ i 0 0, .v (.int .i64 1)]
theorem sp0 {a b c d e f v : SV} : splice [a, b, c, d, e, f] 0 [v] = [v, b, c, d, e, f] := rfl
theorem sp1 {a b c d e f v : SV} : splice [a, b, c, d, e, f] 1 [v] = [a, v, c, d, e, f] := rfl
theorem sp2 {a b c d e f v : SV} : splice [a, b, c, d, e, f] 2 [v] = [a, b, v, d, e, f] := rfl
theorem sp3 {a b c d e f v : SV} : splice [a, b, c, d, e, f] 3 [v] = [a, b, c, v, e, f] := rfl
theorem sp4 {a b c d e f v : SV} : splice [a, b, c, d, e, f] 4 [v] = [a, b, c, d, v, f] := rfl
theorem sp5 {a b c d e f v : SV} : splice [a, b, c, d, e, f] 5 [v] = [a, b, c, d, e, v] := rfl
theorem sp6 {a b c d e f a' b' c' d' e' f' : SV} : splice [a, b, c, d, e, f] 0 [a', b', c', d', e', f'] = [a', b', c', d', e', f'] := rfl
theorem makeW {ver c : Int} {s : ByteArray} :
    fnVC CT mBMake [.v (.int .i64 ver), .v (.int .i64 c), .v (.string s)] ⟨[], x⟩ 1 fun v H' n' => Sub 1 ⟨[(0, makeV ver c s 1)], ⟨[(1, some ⟨true, .strs (makeL ver c s)⟩)], x⟩, 2⟩ ⟨[(0, v)], H', n'⟩ := by
  unfold mBMake
  simp -implicitDefEqProofs only [↓fnVC, initTm]
  simp -implicitDefEqProofs only [go_sem, ↓reduceIte, Nat.reduceEqDiff, Nat.reduceAdd, Nat.reduceMul, Nat.reduceLT, Nat.reduceLeDiff, Nat.reduceSub, Int.reduceToNat, Int.reduceLE, Int.reduceLT, reduceCtorEq, Int.reduceEq, Int.reduceGT, Int.reduceGE, Int.reduceNeg]
  refine at_call tBpart partS ?_
  by_cases a1 : partB c = false
  · unfold makeV makeL
    rw [if_neg (by unfold makeP; rw [a1]; simp), if_neg (by unfold makeP; rw [a1]; simp)]
    simp -implicitDefEqProofs only [go_sem, ↓reduceIte, Nat.reduceEqDiff, Nat.reduceAdd, Nat.reduceMul, Nat.reduceLT, Nat.reduceLeDiff, Nat.reduceSub, Int.reduceToNat, Int.reduceLE, Int.reduceLT, reduceCtorEq, Int.reduceEq, Int.reduceGT, Int.reduceGE, Int.reduceNeg, a1, sp6]
    refine sub_mk [(1, 0)] rfl rfl rfl ?_
    simp only [tmSub, hpSub, objSub, eqTm, eqHp, rn, lk, SV.ren, SV.renC, SV.renB, SV.renA, ren_ints, ren_strs, ren_pl, ren_svs, SV.v.injEq, Value.int.injEq, Body.ints.injEq, SV.ptr.injEq, SV.sl.injEq, Value.string.injEq, Value.bool.injEq, List.map_cons, List.map_nil, forall_const, Nat.reduceLT, Nat.lt_add_one, imp_self, true_and, and_true, and_self, ob_some, get_mk, lk_cons, ↓reduceIte, Nat.reduceEqDiff, ne_eq, not_true_eq_false, not_false_eq_true, Nat.one_ne_zero, Nat.zero_ne_one, Nat.succ_ne_self, Nat.reduceAdd, Bool.false_eq_true, false_implies, implies_true, reduceCtorEq, blA]
    rfl
  have b1 : partB c = true := by simpa using a1
  have hc := partB_bound b1
  by_cases a2 : (s.size : Int) > 8192
  · have b2 := decide_eq_true a2
    unfold makeV makeL
    rw [if_neg (by unfold makeP ckP; omega), if_neg (by unfold makeP ckP; omega)]
    simp -implicitDefEqProofs only [go_sem, ↓reduceIte, Nat.reduceEqDiff, Nat.reduceAdd, Nat.reduceMul, Nat.reduceLT, Nat.reduceLeDiff, Nat.reduceSub, Int.reduceToNat, Int.reduceLE, Int.reduceLT, reduceCtorEq, Int.reduceEq, Int.reduceGT, Int.reduceGE, Int.reduceNeg, b1, b2, sp6]
    refine sub_mk [(1, 0)] rfl rfl rfl ?_
    simp only [tmSub, hpSub, objSub, eqTm, eqHp, rn, lk, SV.ren, SV.renC, SV.renB, SV.renA, ren_ints, ren_strs, ren_pl, ren_svs, SV.v.injEq, Value.int.injEq, Body.ints.injEq, SV.ptr.injEq, SV.sl.injEq, Value.string.injEq, Value.bool.injEq, List.map_cons, List.map_nil, forall_const, Nat.reduceLT, Nat.lt_add_one, imp_self, true_and, and_true, and_self, ob_some, get_mk, lk_cons, ↓reduceIte, Nat.reduceEqDiff, ne_eq, not_true_eq_false, not_false_eq_true, Nat.one_ne_zero, Nat.zero_ne_one, Nat.succ_ne_self, Nat.reduceAdd, Bool.false_eq_true, false_implies, implies_true, reduceCtorEq, blA]
    rfl
  have b2 := decide_eq_false a2
  obtain ⟨c, rfl⟩ : ∃ k : Nat, c = k := ⟨c.toNat, by omega⟩
  simp -implicitDefEqProofs only [go_sem, ↓reduceIte, Nat.reduceEqDiff, Nat.reduceAdd, Nat.reduceMul, Nat.reduceLT, Nat.reduceLeDiff, Nat.reduceSub, Int.reduceToNat, Int.reduceLE, Int.reduceLT, reduceCtorEq, Int.reduceEq, Int.reduceGT, Int.reduceGE, Int.reduceNeg, b1, b2]
  refine at_call t9 (sum1S (s := s) (by rfl) (by omega)) ?_
  simp -implicitDefEqProofs only [go_sem, ↓reduceIte, Nat.reduceEqDiff, Nat.reduceAdd, Nat.reduceMul, Nat.reduceLT, Nat.reduceLeDiff, Nat.reduceSub, Int.reduceToNat, Int.reduceLE, Int.reduceLT, reduceCtorEq, Int.reduceEq, Int.reduceGT, Int.reduceGE, Int.reduceNeg, sp0, sp1, sp2, sp3, sp6]
  refine ⟨by omega, ?_⟩
  refine in_call mixT tChunkB ?_
  unfold mChunkB
  have b3 : decide ((c : Int) < 1) = false := decide_eq_false (by omega)
  simp -implicitDefEqProofs only [↓fnVC, initTm]
  simp -implicitDefEqProofs only [go_sem, ↓reduceIte, Nat.reduceEqDiff, Nat.reduceAdd, Nat.reduceMul, Nat.reduceLT, Nat.reduceLeDiff, Nat.reduceSub, Int.reduceToNat, Int.reduceLE, Int.reduceLT, reduceCtorEq, Int.reduceEq, Int.reduceGT, Int.reduceGE, Int.reduceNeg, b3, List.isEmpty_cons, Bool.false_eq_true, if_false, sp6]
  refine rf_fnT (by decide) (fun L T hT hL => ?_)
  have l8 : lk T 8 = some (.ptr 3 0) := by rw [hT]; rfl
  refine in_call mixT tChunkB1 ?_
  unfold mChunkB1
  simp -implicitDefEqProofs only [↓fnVC, initTm]
  simp -implicitDefEqProofs only [go_sem, ↓reduceIte, Nat.reduceEqDiff, Nat.reduceAdd, Nat.reduceMul, Nat.reduceLT, Nat.reduceLeDiff, Nat.reduceSub, Int.reduceToNat, Int.reduceLE, Int.reduceLT, reduceCtorEq, Int.reduceEq, Int.reduceGT, Int.reduceGE, Int.reduceNeg]
  have hcp : 0 < c := by omega
  have hK : cK c s ≤ 128 := cK_le (by omega) (by omega)
  refine loop_fam (fun (j : Nat) => j ≤ cK c s)
    (fun j => ⟨[(0, .yl 7), (1, .ptr 5 0), (2, .ptr 6 0), (4, .v (.int .i64 (j * c : Nat)))], ⟨[(1, some ⟨true, .sv [.v (.int .i64 0), .v (.int .i64 0), .v (.int .i64 0), .v (.string ⟨#[]⟩), .v (.string ⟨#[]⟩), .sl 0 0 0 1]⟩), (3, some ⟨true, .sv [.v (.int .i64 ver), .v (.int .i64 s.size), .v (.int .i64 c), .v (.string (sha (bts s))), .v (.string ⟨#[]⟩), .sl 8 0 j 1]⟩), (4, some ⟨true, .ints .u8 (bts s)⟩), (5, some ⟨true, .sv [.sl 4 0 s.size 1]⟩), (6, some ⟨true, .sv [.v (.int .i64 c)]⟩), (7, some ⟨true, .mp (.loop L .ready none T)⟩), (8, some ⟨true, .strs (cks c s j)⟩)], x⟩, 9⟩)
    (fun j => cK c s - j) 0 (Nat.zero_le _) ?_ ?_
  · refine sub_mk [(8, 0)] rfl rfl (by subst hT; rfl) ?_
    simp only [tmSub, hpSub, objSub, eqTm, eqHp, rn, lk, SV.ren, SV.renC, SV.renB, SV.renA, ren_ints, ren_strs, ren_pl, ren_svs, SV.v.injEq, Value.int.injEq, Body.ints.injEq, SV.ptr.injEq, SV.sl.injEq, Value.string.injEq, Value.bool.injEq, List.map_cons, List.map_nil, forall_const, Nat.reduceLT, Nat.lt_add_one, imp_self, true_and, and_true, and_self, ob_some, get_mk, lk_cons, ↓reduceIte, Nat.reduceEqDiff, ne_eq, not_true_eq_false, not_false_eq_true, Nat.one_ne_zero, Nat.zero_ne_one, Nat.succ_ne_self, Nat.reduceAdd, Bool.false_eq_true, false_implies, implies_true, reduceCtorEq, Body.ren_nil, Nat.zero_mul]
    exact ⟨rfl, by subst hT; rfl, rfl⟩
  · intro j hj
    simp -implicitDefEqProofs only [go_sem, ↓reduceIte, Nat.reduceEqDiff, Nat.reduceAdd, Nat.reduceMul, Nat.reduceLT, Nat.reduceLeDiff, Nat.reduceSub, Int.reduceToNat, Int.reduceLE, Int.reduceLT, reduceCtorEq, Int.reduceEq, Int.reduceGT, Int.reduceGE, Int.reduceNeg]
    refine condK_bb (fun d => ?_) (fun d => ?_)
    · have d1 : j * c < s.size := by have := of_decide_eq_true d; omega
      have w1 : IntKind.i64.wrap (((j * c : Nat) : Int) + min (c : Int) ((s.size - j * c : Nat) : Int)) = ((min (j * c + c) s.size : Nat) : Int) := by rw [wrap_i64 (by omega) (by omega)]; omega
      have w2 : IntKind.i64.wrap (((j * c : Nat) : Int) + (c : Int)) = (((j + 1) * c : Nat) : Int) := by rw [Nat.succ_mul, wrap_i64 (by omega) (by omega)]; omega
      simp -implicitDefEqProofs only [go_sem, ↓reduceIte, Nat.reduceEqDiff, Nat.reduceAdd, Nat.reduceMul, Nat.reduceLT, Nat.reduceLeDiff, Nat.reduceSub, Int.reduceToNat, Int.reduceLE, Int.reduceLT, reduceCtorEq, Int.reduceEq, Int.reduceGT, Int.reduceGE, Int.reduceNeg, d, w1]
      refine ⟨by omega, by omega, ?_⟩
      refine at_yield mixT (yvc_mk hL rfl rfl rfl ?_)
      have e1 : tx (((bts s).drop (j * c)).take (min (j * c + c) s.size - j * c)) = s.extract (j * c) (min (j * c + c) s.size) := by
        rw [tx_seg]; congr 1; omega
      simp -implicitDefEqProofs only [go_sem, ↓reduceIte, Nat.reduceEqDiff, Nat.reduceAdd, Nat.reduceMul, Nat.reduceLT, Nat.reduceLeDiff, Nat.reduceSub, Int.reduceToNat, Int.reduceLE, Int.reduceLT, reduceCtorEq, Int.reduceEq, Int.reduceGT, Int.reduceGE, Int.reduceNeg, l8, e1]
      have z1 : (s.extract (j * c) (min (j * c + c) s.size)).size ≤ 1073741820 := by rw [ByteArray.size_extract]; omega
      refine ⟨by rw [bts_len]; omega, ?_⟩
      refine at_call tLeaf (leafS z1) ?_
      have e2 : lf (s.extract (j * c) (min (j * c + c) s.size)) = ckl c s j := rfl
      have e3 : (cks c s j).take j = cks c s j := List.take_of_length_le (by rw [cks_len]; exact Nat.le_refl _)
      have e4 : cks c s j ++ [ckl c s j] = cks c s (j + 1) := cks_succ.symm
      have hj1 : j < cK c s := (lt_cK hcp).2 d1
      simp -implicitDefEqProofs only [go_sem, ↓reduceIte, Nat.reduceEqDiff, Nat.reduceAdd, Nat.reduceMul, Nat.reduceLT, Nat.reduceLeDiff, Nat.reduceSub, Int.reduceToNat, Int.reduceLE, Int.reduceLT, reduceCtorEq, Int.reduceEq, Int.reduceGT, Int.reduceGE, Int.reduceNeg, l8, e2, sp5, e3]
      refine ⟨by omega, by omega, by rw [cks_len]; exact Nat.le_refl _, app_kill ?_⟩
      simp -implicitDefEqProofs only [go_sem, ↓reduceIte, Nat.reduceEqDiff, Nat.reduceAdd, Nat.reduceMul, Nat.reduceLT, Nat.reduceLeDiff, Nat.reduceSub, Int.reduceToNat, Int.reduceLE, Int.reduceLT, reduceCtorEq, Int.reduceEq, Int.reduceGT, Int.reduceGE, Int.reduceNeg, l8, e2, sp5, e3, e4]
      refine kLoop_mk (j + 1) (by omega) (by omega) ?_
      refine sub_mk [(8, 10)] rfl rfl (by subst hT; rfl) ?_
      simp only [tmSub, hpSub, objSub, eqTm, eqHp, rn, lk, SV.ren, SV.renC, SV.renB, SV.renA, ren_ints, ren_strs, ren_pl, ren_svs, SV.v.injEq, Value.int.injEq, Body.ints.injEq, SV.ptr.injEq, SV.sl.injEq, Value.string.injEq, Value.bool.injEq, List.map_cons, List.map_nil, forall_const, Nat.reduceLT, Nat.lt_add_one, imp_self, true_and, and_true, and_self, ob_some, get_mk, lk_cons, ↓reduceIte, Nat.reduceEqDiff, ne_eq, not_true_eq_false, not_false_eq_true, Nat.one_ne_zero, Nat.zero_ne_one, Nat.succ_ne_self, Nat.reduceAdd, Bool.false_eq_true, false_implies, implies_true, reduceCtorEq, Body.ren_nil, w2]
      subst hT; rfl
    · have d1 : s.size ≤ j * c := by have := of_decide_eq_false d; omega
      have ej : j = cK c s := by
        have := lt_cK (c := c) (j := j) (s := s) hcp
        omega
      subst ej
      simp -implicitDefEqProofs only [go_sem, ↓reduceIte, Nat.reduceEqDiff, Nat.reduceAdd, Nat.reduceMul, Nat.reduceLT, Nat.reduceLeDiff, Nat.reduceSub, Int.reduceToNat, Int.reduceLE, Int.reduceLT, reduceCtorEq, Int.reduceEq, Int.reduceGT, Int.reduceGE, Int.reduceNeg, d, l8]
      refine at_call tRoot (rootS (i := 8) (o := 0) (by rfl) (by rw [cks_len]; omega) (by omega) (by rw [List.drop_zero]; exact szB_take cks_szB)) ?_
      have et : (cks c s (cK c s)).take (cK c s) = cks c s (cK c s) := List.take_of_length_le (by rw [cks_len]; exact Nat.le_refl _)
      have l6 : lk T 6 = some (.ptr 1 0) := by rw [hT]; rfl
      simp -implicitDefEqProofs only [go_sem, ↓reduceIte, Nat.reduceEqDiff, Nat.reduceAdd, Nat.reduceMul, Nat.reduceLT, Nat.reduceLeDiff, Nat.reduceSub, Int.reduceToNat, Int.reduceLE, Int.reduceLT, reduceCtorEq, Int.reduceEq, Int.reduceGT, Int.reduceGE, Int.reduceNeg, l8, sp4, et, List.drop_zero]
      refine at_call tBCheck (checkS (i := 8) (o := 0) (m := cK c s) (ss := cks c s (cK c s)) (by rfl) (by rw [cks_len]; omega) (by omega) (by rw [List.drop_zero]; exact szB_take cks_szB)) ?_
      rw [List.drop_zero, et]
      by_cases hp : ckP ver s.size c (sha (bts s)) (root (cks c s (cK c s))) (cks c s (cK c s))
      · have hP : makeP ver (c : Int) s := ⟨b1, by rw [Int.toNat_natCast]; exact hp⟩
        have hE : ckE ver s.size c (sha (bts s)) (root (cks c s (cK c s))) (cks c s (cK c s)) = 0 := if_pos hp
        have hL' : makeL ver c s = cks c s (cK c s) := by unfold makeL; rw [if_pos hP, Int.toNat_natCast]
        have hV : makeV ver c s 1 = .tup [blA ver s.size c (sha (bts s)) (root (cks c s (cK c s))) 1 0 (cK c s), .v (.int .i64 0)] := by unfold makeV; rw [if_pos hP, Int.toNat_natCast]
        rw [hE, hL', hV]
        clear hE hL' hV hP hp
        simp -implicitDefEqProofs only [go_sem, ↓reduceIte, Nat.reduceEqDiff, Nat.reduceAdd, Nat.reduceMul, Nat.reduceLT, Nat.reduceLeDiff, Nat.reduceSub, Int.reduceToNat, Int.reduceLE, Int.reduceLT, reduceCtorEq, Int.reduceEq, Int.reduceGT, Int.reduceGE, Int.reduceNeg, l8, l6, sp6]
        refine sub_mk [(1, 8)] rfl rfl rfl ?_
        simp only [tmSub, hpSub, objSub, eqTm, eqHp, rn, lk, SV.ren, SV.renC, SV.renB, SV.renA, ren_ints, ren_strs, ren_pl, ren_svs, SV.v.injEq, Value.int.injEq, Body.ints.injEq, SV.ptr.injEq, SV.sl.injEq, Value.string.injEq, Value.bool.injEq, List.map_cons, List.map_nil, forall_const, Nat.reduceLT, Nat.lt_add_one, imp_self, true_and, and_true, and_self, ob_some, get_mk, lk_cons, ↓reduceIte, Nat.reduceEqDiff, ne_eq, not_true_eq_false, not_false_eq_true, Nat.one_ne_zero, Nat.zero_ne_one, Nat.succ_ne_self, Nat.reduceAdd, Bool.false_eq_true, false_implies, implies_true, reduceCtorEq, blA]
      · have hP : ¬ makeP ver (c : Int) s := fun e => hp (by have := e.2; rwa [Int.toNat_natCast] at this)
        have hE : ckE ver s.size c (sha (bts s)) (root (cks c s (cK c s))) (cks c s (cK c s)) = 1 := if_neg hp
        have hL' : makeL ver c s = [] := if_neg hP
        have hV : makeV ver c s 1 = .tup [blA 0 0 0 ⟨#[]⟩ ⟨#[]⟩ 1 0 0, .v (.int .i64 1)] := if_neg hP
        rw [hE, hL', hV]
        clear hE hL' hV hP hp
        simp -implicitDefEqProofs only [go_sem, ↓reduceIte, Nat.reduceEqDiff, Nat.reduceAdd, Nat.reduceMul, Nat.reduceLT, Nat.reduceLeDiff, Nat.reduceSub, Int.reduceToNat, Int.reduceLE, Int.reduceLT, reduceCtorEq, Int.reduceEq, Int.reduceGT, Int.reduceGE, Int.reduceNeg, l8, l6, sp6]
        refine sub_mk [(1, 0)] rfl rfl rfl ?_
        simp only [tmSub, hpSub, objSub, eqTm, eqHp, rn, lk, SV.ren, SV.renC, SV.renB, SV.renA, ren_ints, ren_strs, ren_pl, ren_svs, SV.v.injEq, Value.int.injEq, Body.ints.injEq, SV.ptr.injEq, SV.sl.injEq, Value.string.injEq, Value.bool.injEq, List.map_cons, List.map_nil, forall_const, Nat.reduceLT, Nat.lt_add_one, imp_self, true_and, and_true, and_self, ob_some, get_mk, lk_cons, ↓reduceIte, Nat.reduceEqDiff, ne_eq, not_true_eq_false, not_false_eq_true, Nat.one_ne_zero, Nat.zero_ne_one, Nat.succ_ne_self, Nat.reduceAdd, Bool.false_eq_true, false_implies, implies_true, reduceCtorEq, blA]
        rfl
theorem rmakeW {ver c : Int} {s : ByteArray} (hs : s.size ≤ 1073741824) (hc0 : c < 9223372036854775808 ∧ -9223372036854775808 ≤ c) :
    fnVC CT mrBMake [.v (.int .i64 ver), .v (.int .i64 c), .v (.string s)] ⟨[], x⟩ 1 fun v H' n' => Sub 1 ⟨[(0, makeV ver c s 1)], ⟨[(1, some ⟨true, .strs (makeL ver c s)⟩)], x⟩, 2⟩ ⟨[(0, v)], H', n'⟩ := by
  unfold mrBMake
  simp -implicitDefEqProofs only [↓fnVC, initTm]
  simp -implicitDefEqProofs only [go_sem, ↓reduceIte, Nat.reduceEqDiff, Nat.reduceAdd, Nat.reduceMul, Nat.reduceLT, Nat.reduceLeDiff, Nat.reduceSub, Int.reduceToNat, Int.reduceLE, Int.reduceLT, reduceCtorEq, Int.reduceEq, Int.reduceGT, Int.reduceGE, Int.reduceNeg]
  refine at_call t11 (rsum1S (s := s) (by rfl) hs) ?_
  by_cases a3 : (s.size : Int) < 1
  · have b3 := decide_eq_true a3
    have hP : ¬ makeP ver c s := by unfold makeP ckP; omega
    rw [show makeL ver c s = [] from if_neg hP, show makeV ver c s 1 = .tup [blA 0 0 0 ⟨#[]⟩ ⟨#[]⟩ 1 0 0, .v (.int .i64 1)] from if_neg hP]
    clear hP
    simp -implicitDefEqProofs only [go_sem, ↓reduceIte, Nat.reduceEqDiff, Nat.reduceAdd, Nat.reduceMul, Nat.reduceLT, Nat.reduceLeDiff, Nat.reduceSub, Int.reduceToNat, Int.reduceLE, Int.reduceLT, reduceCtorEq, Int.reduceEq, Int.reduceGT, Int.reduceGE, Int.reduceNeg, b3, sp0, sp1, sp2, sp3, sp6]
    refine sub_mk [(1, 0)] rfl rfl rfl ?_
    simp only [tmSub, hpSub, objSub, eqTm, eqHp, rn, lk, SV.ren, SV.renC, SV.renB, SV.renA, ren_ints, ren_strs, ren_pl, ren_svs, SV.v.injEq, Value.int.injEq, Body.ints.injEq, SV.ptr.injEq, SV.sl.injEq, Value.string.injEq, Value.bool.injEq, List.map_cons, List.map_nil, forall_const, Nat.reduceLT, Nat.lt_add_one, imp_self, true_and, and_true, and_self, ob_some, get_mk, lk_cons, ↓reduceIte, Nat.reduceEqDiff, ne_eq, not_true_eq_false, not_false_eq_true, Nat.one_ne_zero, Nat.zero_ne_one, Nat.succ_ne_self, Nat.reduceAdd, Bool.false_eq_true, false_implies, implies_true, reduceCtorEq, blA]
    rfl
  have b3 := decide_eq_false a3
  by_cases a2 : (s.size : Int) > 8192
  · have b2 := decide_eq_true a2
    have hP : ¬ makeP ver c s := by unfold makeP ckP; omega
    rw [show makeL ver c s = [] from if_neg hP, show makeV ver c s 1 = .tup [blA 0 0 0 ⟨#[]⟩ ⟨#[]⟩ 1 0 0, .v (.int .i64 1)] from if_neg hP]
    clear hP
    simp -implicitDefEqProofs only [go_sem, ↓reduceIte, Nat.reduceEqDiff, Nat.reduceAdd, Nat.reduceMul, Nat.reduceLT, Nat.reduceLeDiff, Nat.reduceSub, Int.reduceToNat, Int.reduceLE, Int.reduceLT, reduceCtorEq, Int.reduceEq, Int.reduceGT, Int.reduceGE, Int.reduceNeg, b2, b3, sp0, sp1, sp2, sp3, sp6]
    refine sub_mk [(1, 0)] rfl rfl rfl ?_
    simp only [tmSub, hpSub, objSub, eqTm, eqHp, rn, lk, SV.ren, SV.renC, SV.renB, SV.renA, ren_ints, ren_strs, ren_pl, ren_svs, SV.v.injEq, Value.int.injEq, Body.ints.injEq, SV.ptr.injEq, SV.sl.injEq, Value.string.injEq, Value.bool.injEq, List.map_cons, List.map_nil, forall_const, Nat.reduceLT, Nat.lt_add_one, imp_self, true_and, and_true, and_self, ob_some, get_mk, lk_cons, ↓reduceIte, Nat.reduceEqDiff, ne_eq, not_true_eq_false, not_false_eq_true, Nat.one_ne_zero, Nat.zero_ne_one, Nat.succ_ne_self, Nat.reduceAdd, Bool.false_eq_true, false_implies, implies_true, reduceCtorEq, blA]
    rfl
  have b2 := decide_eq_false a2
  simp -implicitDefEqProofs only [go_sem, ↓reduceIte, Nat.reduceEqDiff, Nat.reduceAdd, Nat.reduceMul, Nat.reduceLT, Nat.reduceLeDiff, Nat.reduceSub, Int.reduceToNat, Int.reduceLE, Int.reduceLT, reduceCtorEq, Int.reduceEq, Int.reduceGT, Int.reduceGE, Int.reduceNeg, b2, b3, sp0, sp1, sp2, sp3, sp6]
  refine at_call trsize rsizeS ?_
  by_cases a1 : partB c = false
  · have hP : ¬ makeP ver c s := by unfold makeP; rw [a1]; simp
    rw [show makeL ver c s = [] from if_neg hP, show makeV ver c s 1 = .tup [blA 0 0 0 ⟨#[]⟩ ⟨#[]⟩ 1 0 0, .v (.int .i64 1)] from if_neg hP]
    clear hP
    simp -implicitDefEqProofs only [go_sem, ↓reduceIte, Nat.reduceEqDiff, Nat.reduceAdd, Nat.reduceMul, Nat.reduceLT, Nat.reduceLeDiff, Nat.reduceSub, Int.reduceToNat, Int.reduceLE, Int.reduceLT, reduceCtorEq, Int.reduceEq, Int.reduceGT, Int.reduceGE, Int.reduceNeg, a1, sp6]
    refine sub_mk [(1, 0)] rfl rfl rfl ?_
    simp only [tmSub, hpSub, objSub, eqTm, eqHp, rn, lk, SV.ren, SV.renC, SV.renB, SV.renA, ren_ints, ren_strs, ren_pl, ren_svs, SV.v.injEq, Value.int.injEq, Body.ints.injEq, SV.ptr.injEq, SV.sl.injEq, Value.string.injEq, Value.bool.injEq, List.map_cons, List.map_nil, forall_const, Nat.reduceLT, Nat.lt_add_one, imp_self, true_and, and_true, and_self, ob_some, get_mk, lk_cons, ↓reduceIte, Nat.reduceEqDiff, ne_eq, not_true_eq_false, not_false_eq_true, Nat.one_ne_zero, Nat.zero_ne_one, Nat.succ_ne_self, Nat.reduceAdd, Bool.false_eq_true, false_implies, implies_true, reduceCtorEq, blA]
    rfl
  have b1 : partB c = true := by simpa using a1
  have hc := partB_bound b1
  obtain ⟨c, rfl⟩ : ∃ k : Nat, c = k := ⟨c.toNat, by omega⟩
  simp -implicitDefEqProofs only [go_sem, ↓reduceIte, Nat.reduceEqDiff, Nat.reduceAdd, Nat.reduceMul, Nat.reduceLT, Nat.reduceLeDiff, Nat.reduceSub, Int.reduceToNat, Int.reduceLE, Int.reduceLT, reduceCtorEq, Int.reduceEq, Int.reduceGT, Int.reduceGE, Int.reduceNeg, b1]
  have hcp : 0 < c := by omega
  have hK : cK c s ≤ 128 := cK_le (by omega) (by omega)
  refine loop_fam (fun (j : Nat) => j ≤ cK c s)
    (fun j => ⟨[(1, .v (.int .i64 c)), (2, .v (.string s)), (6, .ptr 1 0), (8, .ptr 3 0), (9, .v (.int .i64 (j * c : Nat)))], ⟨[(1, some ⟨true, .sv [.v (.int .i64 0), .v (.int .i64 0), .v (.int .i64 0), .v (.string ⟨#[]⟩), .v (.string ⟨#[]⟩), .sl 0 0 0 1]⟩), (3, some ⟨true, .sv [.v (.int .i64 ver), .v (.int .i64 s.size), .v (.int .i64 c), .v (.string (sha (bts s))), .v (.string ⟨#[]⟩), .sl 4 0 j 1]⟩), (4, some ⟨true, .strs (cks c s j)⟩)], x⟩, 5⟩)
    (fun j => cK c s - j) 0 (Nat.zero_le _) ?_ ?_
  · refine sub_mk [(4, 0)] rfl rfl rfl ?_
    simp only [tmSub, hpSub, objSub, eqTm, eqHp, rn, lk, SV.ren, SV.renC, SV.renB, SV.renA, ren_ints, ren_strs, ren_pl, ren_svs, SV.v.injEq, Value.int.injEq, Body.ints.injEq, SV.ptr.injEq, SV.sl.injEq, Value.string.injEq, Value.bool.injEq, List.map_cons, List.map_nil, forall_const, Nat.reduceLT, Nat.lt_add_one, imp_self, true_and, and_true, and_self, ob_some, get_mk, lk_cons, ↓reduceIte, Nat.reduceEqDiff, ne_eq, not_true_eq_false, not_false_eq_true, Nat.one_ne_zero, Nat.zero_ne_one, Nat.succ_ne_self, Nat.reduceAdd, Bool.false_eq_true, false_implies, implies_true, reduceCtorEq, Nat.zero_mul]
    exact ⟨rfl, rfl⟩
  · intro j hj
    simp -implicitDefEqProofs only [go_sem, ↓reduceIte, Nat.reduceEqDiff, Nat.reduceAdd, Nat.reduceMul, Nat.reduceLT, Nat.reduceLeDiff, Nat.reduceSub, Int.reduceToNat, Int.reduceLE, Int.reduceLT, reduceCtorEq, Int.reduceEq, Int.reduceGT, Int.reduceGE, Int.reduceNeg]
    refine condK_bb (fun d => ?_) (fun d => ?_)
    · have d1 : j * c < s.size := by have := of_decide_eq_true d; omega
      have w2 : IntKind.i64.wrap (((j * c : Nat) : Int) + (c : Int)) = (((j + 1) * c : Nat) : Int) := by rw [Nat.succ_mul, wrap_i64 (by omega) (by omega)]; omega
      have w1 : min ((((j + 1) * c : Nat)) : Int) ((s.size : Nat) : Int) = ((min (j * c + c) s.size : Nat) : Int) := by rw [Nat.succ_mul]; omega
      have z1 : (s.extract (j * c) (min (j * c + c) s.size)).size ≤ 1073741820 := by rw [ByteArray.size_extract]; omega
      have hj1 : j < cK c s := (lt_cK hcp).2 d1
      have e2 : lf (s.extract (j * c) (min (j * c + c) s.size)) = ckl c s j := rfl
      have e3 : (cks c s j).take j = cks c s j := List.take_of_length_le (by rw [cks_len]; exact Nat.le_refl _)
      have e4 : cks c s j ++ [ckl c s j] = cks c s (j + 1) := cks_succ.symm
      simp -implicitDefEqProofs only [go_sem, ↓reduceIte, Nat.reduceEqDiff, Nat.reduceAdd, Nat.reduceMul, Nat.reduceLT, Nat.reduceLeDiff, Nat.reduceSub, Int.reduceToNat, Int.reduceLE, Int.reduceLT, reduceCtorEq, Int.reduceEq, Int.reduceGT, Int.reduceGE, Int.reduceNeg, d, w2, w1]
      refine ⟨by omega, ?_⟩
      refine at_call trefLeaf (rleafS z1) ?_
      simp -implicitDefEqProofs only [go_sem, ↓reduceIte, Nat.reduceEqDiff, Nat.reduceAdd, Nat.reduceMul, Nat.reduceLT, Nat.reduceLeDiff, Nat.reduceSub, Int.reduceToNat, Int.reduceLE, Int.reduceLT, reduceCtorEq, Int.reduceEq, Int.reduceGT, Int.reduceGE, Int.reduceNeg, e2, sp5, e3]
      refine ⟨by omega, by omega, by rw [cks_len]; exact Nat.le_refl _, app_kill ?_⟩
      simp -implicitDefEqProofs only [go_sem, ↓reduceIte, Nat.reduceEqDiff, Nat.reduceAdd, Nat.reduceMul, Nat.reduceLT, Nat.reduceLeDiff, Nat.reduceSub, Int.reduceToNat, Int.reduceLE, Int.reduceLT, reduceCtorEq, Int.reduceEq, Int.reduceGT, Int.reduceGE, Int.reduceNeg, e2, sp5, e3, e4, w2]
      refine kLoop_mk (j + 1) (by omega) (by omega) ?_
      refine sub_mk [(4, 6)] rfl rfl rfl ?_
      simp only [tmSub, hpSub, objSub, eqTm, eqHp, rn, lk, SV.ren, SV.renC, SV.renB, SV.renA, ren_ints, ren_strs, ren_pl, ren_svs, SV.v.injEq, Value.int.injEq, Body.ints.injEq, SV.ptr.injEq, SV.sl.injEq, Value.string.injEq, Value.bool.injEq, List.map_cons, List.map_nil, forall_const, Nat.reduceLT, Nat.lt_add_one, imp_self, true_and, and_true, and_self, ob_some, get_mk, lk_cons, ↓reduceIte, Nat.reduceEqDiff, ne_eq, not_true_eq_false, not_false_eq_true, Nat.one_ne_zero, Nat.zero_ne_one, Nat.succ_ne_self, Nat.reduceAdd, Bool.false_eq_true, false_implies, implies_true, reduceCtorEq, w2]
    · have d1 : s.size ≤ j * c := by have := of_decide_eq_false d; omega
      have ej : j = cK c s := by
        have := lt_cK (c := c) (j := j) (s := s) hcp
        omega
      subst ej
      simp -implicitDefEqProofs only [go_sem, ↓reduceIte, Nat.reduceEqDiff, Nat.reduceAdd, Nat.reduceMul, Nat.reduceLT, Nat.reduceLeDiff, Nat.reduceSub, Int.reduceToNat, Int.reduceLE, Int.reduceLT, reduceCtorEq, Int.reduceEq, Int.reduceGT, Int.reduceGE, Int.reduceNeg, d]
      refine at_call trefRoot (rrootS (i := 4) (o := 0) (by rfl) (by rw [cks_len]; omega) (by omega) (by rw [List.drop_zero]; exact szB_take cks_szB)) ?_
      have et : (cks c s (cK c s)).take (cK c s) = cks c s (cK c s) := List.take_of_length_le (by rw [cks_len]; exact Nat.le_refl _)
      simp -implicitDefEqProofs only [go_sem, ↓reduceIte, Nat.reduceEqDiff, Nat.reduceAdd, Nat.reduceMul, Nat.reduceLT, Nat.reduceLeDiff, Nat.reduceSub, Int.reduceToNat, Int.reduceLE, Int.reduceLT, reduceCtorEq, Int.reduceEq, Int.reduceGT, Int.reduceGE, Int.reduceNeg, sp4, et, List.drop_zero]
      refine at_call trBCheck (rcheckS (i := 4) (o := 0) (m := cK c s) (ss := cks c s (cK c s)) (by rfl) (by rw [cks_len]; omega) (by omega) (by rw [List.drop_zero]; exact szB_take cks_szB)) ?_
      rw [List.drop_zero, et]
      by_cases hp : ckP ver s.size c (sha (bts s)) (root (cks c s (cK c s))) (cks c s (cK c s))
      · have hP : makeP ver (c : Int) s := ⟨b1, by rw [Int.toNat_natCast]; exact hp⟩
        have hE : ckE ver s.size c (sha (bts s)) (root (cks c s (cK c s))) (cks c s (cK c s)) = 0 := if_pos hp
        have hL' : makeL ver c s = cks c s (cK c s) := by unfold makeL; rw [if_pos hP, Int.toNat_natCast]
        have hV : makeV ver c s 1 = .tup [blA ver s.size c (sha (bts s)) (root (cks c s (cK c s))) 1 0 (cK c s), .v (.int .i64 0)] := by unfold makeV; rw [if_pos hP, Int.toNat_natCast]
        rw [hE, hL', hV]
        clear hE hL' hV hP hp
        simp -implicitDefEqProofs only [go_sem, ↓reduceIte, Nat.reduceEqDiff, Nat.reduceAdd, Nat.reduceMul, Nat.reduceLT, Nat.reduceLeDiff, Nat.reduceSub, Int.reduceToNat, Int.reduceLE, Int.reduceLT, reduceCtorEq, Int.reduceEq, Int.reduceGT, Int.reduceGE, Int.reduceNeg, sp6]
        refine sub_mk [(1, 4)] rfl rfl rfl ?_
        simp only [tmSub, hpSub, objSub, eqTm, eqHp, rn, lk, SV.ren, SV.renC, SV.renB, SV.renA, ren_ints, ren_strs, ren_pl, ren_svs, SV.v.injEq, Value.int.injEq, Body.ints.injEq, SV.ptr.injEq, SV.sl.injEq, Value.string.injEq, Value.bool.injEq, List.map_cons, List.map_nil, forall_const, Nat.reduceLT, Nat.lt_add_one, imp_self, true_and, and_true, and_self, ob_some, get_mk, lk_cons, ↓reduceIte, Nat.reduceEqDiff, ne_eq, not_true_eq_false, not_false_eq_true, Nat.one_ne_zero, Nat.zero_ne_one, Nat.succ_ne_self, Nat.reduceAdd, Bool.false_eq_true, false_implies, implies_true, reduceCtorEq, blA]
      · have hP : ¬ makeP ver (c : Int) s := fun e => hp (by have := e.2; rwa [Int.toNat_natCast] at this)
        have hE : ckE ver s.size c (sha (bts s)) (root (cks c s (cK c s))) (cks c s (cK c s)) = 1 := if_neg hp
        have hL' : makeL ver c s = [] := if_neg hP
        have hV : makeV ver c s 1 = .tup [blA 0 0 0 ⟨#[]⟩ ⟨#[]⟩ 1 0 0, .v (.int .i64 1)] := if_neg hP
        rw [hE, hL', hV]
        clear hE hL' hV hP hp
        simp -implicitDefEqProofs only [go_sem, ↓reduceIte, Nat.reduceEqDiff, Nat.reduceAdd, Nat.reduceMul, Nat.reduceLT, Nat.reduceLeDiff, Nat.reduceSub, Int.reduceToNat, Int.reduceLE, Int.reduceLT, reduceCtorEq, Int.reduceEq, Int.reduceGT, Int.reduceGE, Int.reduceNeg, sp6]
        refine sub_mk [(1, 0)] rfl rfl rfl ?_
        simp only [tmSub, hpSub, objSub, eqTm, eqHp, rn, lk, SV.ren, SV.renC, SV.renB, SV.renA, ren_ints, ren_strs, ren_pl, ren_svs, SV.v.injEq, Value.int.injEq, Body.ints.injEq, SV.ptr.injEq, SV.sl.injEq, Value.string.injEq, Value.bool.injEq, List.map_cons, List.map_nil, forall_const, Nat.reduceLT, Nat.lt_add_one, imp_self, true_and, and_true, and_self, ob_some, get_mk, lk_cons, ↓reduceIte, Nat.reduceEqDiff, ne_eq, not_true_eq_false, not_false_eq_true, Nat.one_ne_zero, Nat.zero_ne_one, Nat.succ_ne_self, Nat.reduceAdd, Bool.false_eq_true, false_implies, implies_true, reduceCtorEq, blA]
        rfl
end Go.Sx

/- strings.Join. -/
set_option linter.unusedVariables false
set_option linter.unusedSimpArgs false
set_option maxRecDepth 100000
namespace Go.Proofs
open Go.Shelf Go.RowKit Go.Sx
def layJoin_ren : Go.Shelf.Ren := ⟨fun | 156 => 45 | 165 => 68 | 166 => 69 | 169 => 70 | 240 => 82 | 241 => 83 | 276 => 87 | 277 => 88 | n => n, fun | 31 => 22 | 9 => 9 | 3 => 3 | 4 => 4 | 0 => 0 | 20 => 20 | 72 => 85 | 76 => 88 | 70 => 83 | 37 => 43 | 75 => 87 | 127 => 106 | 164 => 109 | 5 => 5 | 80 => 65 | n => n, fun n => n⟩
theorem layJoin : Lays.n156 Try.prog layJoin_ren where
  mixed := by kernel_rfl
  f156 := Try.func45.trans (congrArg some (by kernel_rfl))
  f165 := Try.func68.trans (congrArg some (by kernel_rfl))
  f166 := Try.func69.trans (congrArg some (by kernel_rfl))
  f169 := Try.func70.trans (congrArg some (by kernel_rfl))
  f240 := Try.func82.trans (congrArg some (by kernel_rfl))
  f241 := Try.func83.trans (congrArg some (by kernel_rfl))
  f276 := Try.func87.trans (congrArg some (by kernel_rfl))
  f277 := Try.func88.trans (congrArg some (by kernel_rfl))
  t0 := Try.underlying0
  a0 := Try.isAgg0
  z0 := Try.sizeOf0
  v0 := Try.zeroValue0
  t3 := Try.underlying3
  a3 := Try.isAgg3
  z3 := Try.sizeOf3
  v3 := Try.zeroValue3
  t4 := Try.underlying4
  a4 := Try.isAgg4
  z4 := Try.sizeOf4
  v4 := Try.zeroValue4
  t9 := Try.underlying9
  a9 := Try.isAgg9
  z9 := Try.sizeOf9
  v9 := Try.zeroValue9
  t20 := Try.underlying20
  a20 := Try.isAgg20
  z20 := Try.sizeOf20
  v20 := Try.zeroValue20
  t31 := Try.underlying22
  a31 := Try.isAgg22
  z31 := Try.sizeOf22
  v31 := Try.zeroValue22
  t37 := Try.underlying43
  a37 := Try.isAgg43
  z37 := Try.sizeOf43
  v37 := Try.zeroValue43
  t70 := Try.underlying83
  a70 := Try.isAgg83
  z70 := Try.sizeOf83
  v70 := Try.zeroValue83
  t72 := Try.underlying85
  a72 := Try.isAgg85
  z72 := Try.sizeOf85
  v72 := Try.zeroValue85
  t75 := Try.underlying87
  a75 := Try.isAgg87
  z75 := Try.sizeOf87
  v75 := Try.zeroValue87
  t76 := Try.underlying88
  a76 := Try.isAgg88
  z76 := Try.sizeOf88
  v76 := Try.zeroValue88
  t127 := Try.underlying106
  a127 := Try.isAgg106
  z127 := Try.sizeOf106
  v127 := Try.zeroValue106
  t164 := Try.underlying109
  a164 := Try.isAgg109
  z164 := Try.sizeOf109
  v164 := Try.zeroValue109
theorem layJoin_extra : Builder.Extra Try.prog layJoin_ren where
  sizeBuilder := by kernel_rfl
  liesBuilder := by kernel_rfl
  t5 := Try.underlying5
  a5 := Try.isAgg5
  z5 := Try.sizeOf5
  v5 := Try.zeroValue5
  infoByte := by kernel_rfl
  cellsByte := by kernel_rfl
  sizeByte := by kernel_rfl
  neB5 := by decide
theorem joinS {i o m : Nat} {ss : List ByteArray} {sep : ByteArray} {H : Hp} {n : Nat} (hr : Go.Sx.rowAt H i (Body.strs []) = some (Body.strs ss)) (hom : o + m ≤ ss.length) (hm : m ≤ 140737488355328)
    (hlen : (Lib.join (((ss.drop o).take m).map (·.data.toList)) sep.data.toList).length ≤ 140737488355328) :
    SpecAt Try.prog 45 [.sl i o m 1, .v (.string sep)] H n (.v (.string ⟨(Lib.join (((ss.drop o).take m).map (·.data.toList)) sep.data.toList).toArray⟩)) H n := by
  intro F w0 w ρ ys hH hz hl
  have hsl : ((ss.drop o).take m).length = m := by rw [List.length_take, List.length_drop]; omega
  match ys, hz with
  | [y, z], ⟨h1, h2, _⟩ =>
    have h2 : z = .string sep := h2
    subst h2
    have h1 : slrel (ρ i) o m 1 y := h1
    by_cases hm0 : m = 0
    · subst hm0
      have hy : ∃ a c, y = .slice a 0 c := by
        unfold slrel at h1
        split at h1
        · obtain ⟨a, h⟩ := h1.2.form; exact ⟨a, 0, h⟩
        · obtain ⟨c, a, _, _, _, h⟩ := h1; exact ⟨_, c, h⟩
      obtain ⟨a, c, rfl⟩ := hy
      refine (Any.strings_Join_none layJoin layJoin_extra a c sep w).mono ?_
      rintro e w' ⟨rfl, rfl⟩
      exact ⟨_, ρ, rfl, rfl, rfl, hH, Ext.refl _ _, Nat.le_refl _⟩
    · by_cases hi : i = 0
      · subst hi
        unfold Go.Sx.rowAt at hr
        rw [if_pos rfl] at hr
        cases hr
        simp at hom; omega
      · unfold Go.Sx.rowAt at hr
        rw [if_neg hi] at hr
        obtain ⟨s, hs, hsb⟩ := Option.map_eq_some_iff.1 hr
        have hrow := ((hH.obj i s hs).row (fun es => by rw [hsb]; simp)).1
        unfold slrel at h1
        split at h1
        · omega
        · rename_i b hb
          obtain ⟨c, a, k1, k2, k3, rfl⟩ := h1
          have ka := k3 (by omega)
          subst ka
          simp only [RowOK, hb] at hrow
          obtain ⟨cs, T, fr, e1, e2, e3, e4, e5⟩ := hrow
          have := Any.strings_Join layJoin layJoin_extra b ((ρ i).off + o) c ((ss.drop o).take m) sep w (fun j x hx => by
            have hj : j < m := by rw [← hsl]; exact (List.getElem?_eq_some_iff.1 hx).1
            rw [List.getElem?_take, if_pos hj, List.getElem?_drop] at hx
            obtain ⟨y, q1, q2⟩ := e4 (o + j) (.v (.string x)) (by rw [hsb]; simp [Body.cells, hx])
            have q2 : y = .string x := q2
            rw [cell_of e1, Nat.add_assoc, q1, q2]) (hH.live i s b hs hb) (by omega) (by omega) hlen
          rw [hsl] at this
          refine this.mono ?_
          rintro e w' ⟨rfl, hb'⟩
          exact ⟨_, ρ, rfl, rfl, rfl, hH.below hb', Ext.refl _ _, Nat.le_refl _⟩
end Go.Proofs

/- Bills: the leaf and the bytes. -/
set_option linter.unusedVariables false
set_option linter.unusedSimpArgs false
set_option maxRecDepth 100000
namespace Go.Sx
attribute [local go_sem ↓] bind_mk intsB_mk strsB_mk svB_mk fnVC ob_some vc_skip vc_exit vc_ret vc_seq vc_block kSeq_normal kSeq_exit kSeq_ret kBlock_normal kBlock_exit kBlock_ret vc_reg vc_regD vc_cond condK_true condK_false vc_loop kLoop_exit kLoop_ret kRoll_normal kRoll_exit kRoll_ret vcOps_nil vcOps_cons gd_bool gd_undef put_some put_none vcT_fin vcT_pure vcT_act vcT_acts vcT_stop stab_none stab_some stabM_nil stabM_cons stabO_ld stabO_ldn stabO_slP stabO_b2s fldOf_ai fldOf_agg fldOf_ait fldOf_aggt intsOf_nil intsOf_cons strsOf_nil strsOf_cons c_omap ob_if lk_nil lk_cons ev_t ev_k z_mov z_pick z_bin z_binB z_binP z_un z_r2s z_conv z_s2b z_b2s z_alloc z_bld z_bldI z_rowI z_rowS z_ld z_ldn z_st z_stn asN_ptr asN_fn z_nilck z_fld z_fadr z_idxA z_idxP z_idxS z_idxV z_slS z_slL z_slP z_mk z_lenS z_lenL z_app appC_ints appC_pl appC_sv appC_strs isS_strs loose_ints loose_pl loose_sv z_slM z_callv callvK_fn callvK_f callvK_yl vc_rangeF rfEnd_eq rfGo_none rfGo_ret rfGo_exit yGo_mk yEnd_n yEnd_r yEnd_e yRdy_mk yMid_n putPs_nil putPs_cons leaf_v leaf_ptr leaf_sl leaf_yl leaf_mp z_appS z_appZ z_cpyS z_mkfn reps_int reps_str z_rowV z_slnil nilK_zero z_cpy z_call asT_tup z_extT z_box boxOf_ai boxOf_agg boxOf_int boxOf_str boxOf_bool boxOf_ptr boxOf_sl sbin_int sbin_str sbinB_mk sbinP_nn sbinP_pn sbinP_np i_add i_sub i_mul i_quo i_rem i_and i_or i_xor i_andNot i_shl i_shr i_eql i_neq i_lss i_leq i_gtr i_geq st_add st_eql st_neq st_lss st_leq st_gtr st_geq bo_eql bo_neq pt_eql pt_neq un_neg un_xor un_not asI_mk asB_mk asS_mk asP_mk asSl_mk asBy_mk bnd_none bnd_some get_mk hput_mk hdel_mk kill_eq wrOf_eq rowOf_eq rsvs_0 rsvs_1 rsvs_2 rsvs_3 rsv_t rsv_c1 rsv_cn nt_v nt_ptr nt_sl nt_agg nt_ai get_ints get_strs get_pl get_sv getN_ints getN_sv set_ints set_strs set_sv setN_ints setN_sv part_ints part_strs part_sv cat_ints cat_strs cat_sv over_ints over_strs over_sv ones_ints ones_strs evs_nil evs_cons condK_eqt condK_eqf det_callP V_ns V_nn V_gs V_gn obC_mk fresh_ev setN_plagg setN_intsv setN_svai setN_svagg over_intsv set_pl setN_pl setN_plai getN_pl getN_strs part_pl cat_pl over_pl over_plints z_mm
attribute [local go_sem] initTm ne_eq not_true_eq_false not_false_eq_true true_and and_true List.length_cons List.length_nil Int.toNat_natCast Nat.add_zero Nat.zero_add Nat.mul_one List.getElem?_cons_zero List.drop_zero List.take_length List.take_succ_cons List.take_zero List.take_nil List.drop_succ_cons Option.map_some Nat.le_refl implies_true List.getElem?_cons_succ decide_true decide_false Bool.not_true Bool.not_false beq_self_eq_true Nat.succ_ne_self Nat.one_ne_zero Nat.zero_ne_one vk_mk hk_mk nk_mk tok_eq plsOf_map intsOf_map bodyOf_pl bodyOf_ints bodyOf_strs bodyOf_sv part_aggv part_agg part_ai part_int part_str part_bool part_sl part_ptr part_nil numsOf_map u_int u_str u_bool u_pnil u_sl u_ptr u_oci u_ocs evq_nil evq_cons fillS_nil fillS_cons u_ocb ones_pl cells_sv cells_ints cells_strs cells_pl smms_nil smms_cons smm_min smm_max plsOf_nil List.nil_append List.all_cons List.all_nil Bool.and_self Bool.true_and Bool.and_true zws_len zw_len zi_len List.set_cons_zero List.set_cons_succ List.flatMap_cons List.flatMap_nil List.append_nil
open Go.Proofs
variable {H : Hp} {n : Nat} {x : Nat → Option SO}

theorem tx_app (l m : List Int) : tx (l ++ m) = tx l ++ tx m := by
  unfold tx
  rw [List.map_append]
  apply ByteArray.ext
  simp
theorem catb_32 : ∀ {l : List ByteArray}, (∀ h ∈ l, h.size = 32) → (catb l).length = l.length * 32
  | [], _ => rfl
  | a :: l, h => by
    have h1 := h a (List.mem_cons_self ..)
    have ih := catb_32 (l := l) (fun s hs => h s (List.mem_cons_of_mem _ hs))
    have e : catb (a :: l) = bts a ++ catb l := by simp [catb]
    rw [e, List.length_append, ih, bts_len, h1, List.length_cons]; omega
theorem any_32 {l : List ByteArray} (h : l.any odd32 = false) : ∀ s ∈ l, s.size = 32 := fun s hs => by
  have := List.any_eq_false.1 h s hs
  unfold odd32 at this
  simpa using this
theorem ckP.all32 {ver sz ch : Int} {h t : ByteArray} {l : List ByteArray} (hp : ckP ver sz ch h t l) : (∀ s ∈ l, s.size = 32) ∧ l.length ≤ 128 := by
  have hb := hp.bounds
  have hc := cnt_bound hb.1 hb.2.1 hb.2.2.1 hb.2.2.2
  obtain ⟨_, _, _, _, _, _, _, hl⟩ := hp
  rcases hl with rfl | ⟨h1, _, h3⟩
  · exact ⟨fun s hs => (by cases hs), by simp⟩
  · exact ⟨any_32 h3, by omega⟩
theorem join_tx (l : List ByteArray) : (⟨(Lib.join (l.map (·.data.toList)) (⟨#[]⟩ : ByteArray).data.toList).toArray⟩ : ByteArray) = tx (catb l) := by
  cases l with
  | nil => rfl
  | cons a r =>
    rw [List.map_cons, Lib.join_cons]
    have e : catb (a :: r) = bts a ++ catb r := by simp [catb]
    rw [e, tx_app, tx_bts]
    have e2 : ∀ r : List ByteArray, tx (catb r) = ⟨(Lib.joinTail (⟨#[]⟩ : ByteArray).data.toList (r.map (·.data.toList))).toArray⟩ := by
      intro r
      induction r with
      | nil => rfl
      | cons b r ih =>
        have e : catb (b :: r) = bts b ++ catb r := by simp [catb]
        rw [e, tx_app, tx_bts, ih]
        apply ByteArray.ext
        simp [Lib.joinTail]
    rw [e2]
    apply ByteArray.ext
    simp
theorem join0S {i o m : Nat} {ss : List ByteArray} (hr : rowAt H i (.strs []) = some (.strs ss)) (hom : o + m ≤ ss.length) (hm : m ≤ 140737488355328) (hlen : (catb ((ss.drop o).take m)).length ≤ 140737488355328) :
    SpecAt Try.prog 45 [.sl i o m 1, .v (.string ⟨#[]⟩)] H n (.v (.string (tx (catb ((ss.drop o).take m))))) H n := by
  have := joinS (n := n) (sep := ⟨#[]⟩) hr hom hm (by
    have := congrArg ByteArray.size (join_tx ((ss.drop o).take m))
    rw [tx_sz] at this
    rw [← this] at hlen
    exact hlen)
  rwa [join_tx] at this
/-- A bill's leaf. -/
def leafL (ver sz ch : Int) (h t : ByteArray) : List Int := be ver.toNat 1 ++ be sz.toNat 4 ++ be ch.toNat 2 ++ bts h ++ bts t
def leafT (ver sz ch : Int) (h t : ByteArray) : ByteArray := tx (leafL ver sz ch h t)
def leafV (ver sz ch : Int) (h t : ByteArray) (l : List ByteArray) : SV := if ckP ver sz ch h t l then .tup [.v (.string (leafT ver sz ch h t)), .v (.int .i64 0)] else .tup [.v (.string ⟨#[]⟩), .v (.int .i64 1)]
def bytesV (ver sz ch : Int) (h t : ByteArray) (l : List ByteArray) : SV := if ckP ver sz ch h t l then .tup [.v (.string (leafT ver sz ch h t ++ tx (catb l))), .v (.int .i64 0)] else .tup [.v (.string ⟨#[]⟩), .v (.int .i64 1)]
theorem leafV_ren {ver sz ch : Int} {h t : ByteArray} {l : List ByteArray} {π : List (Nat × Nat)} : (leafV ver sz ch h t l).ren π = leafV ver sz ch h t l := by unfold leafV; split <;> rfl
theorem bytesV_ren {ver sz ch : Int} {h t : ByteArray} {l : List ByteArray} {π : List (Nat × Nat)} : (bytesV ver sz ch h t l).ren π = bytesV ver sz ch h t l := by unfold bytesV; split <;> rfl
theorem leafT_size {ver sz ch : Int} {h t : ByteArray} (hh : h.size = 32) (ht : t.size = 32) : (leafT ver sz ch h t).size = 71 := by
  unfold leafT leafL
  simp only [tx_sz, List.length_append, be_len, bts_len, hh, ht]
theorem leafBW {ver sz ch : Int} {h t : ByteArray} {o m : Nat} {ss : List ByteArray} (hom : o + m ≤ ss.length) (hm : m ≤ 1048576) (hz : szB ((ss.drop o).take m)) :
    fnVC CT mBLeaf [blA ver sz ch h t 1 o m] ⟨[(1, some ⟨false, .strs ss⟩)], x⟩ 2 fun v H' n' => Sub 2 ⟨[(0, leafV ver sz ch h t ((ss.drop o).take m))], ⟨[], x⟩, 2⟩ ⟨[(0, v)], H', n'⟩ := by
  unfold mBLeaf
  simp -implicitDefEqProofs only [↓fnVC, initTm]
  simp -implicitDefEqProofs only [go_sem, ↓reduceIte, Nat.reduceEqDiff, Nat.reduceAdd, Nat.reduceMul, Nat.reduceLT, Nat.reduceLeDiff, Nat.reduceSub, Int.reduceToNat, Int.reduceLE, Int.reduceLT, reduceCtorEq, Int.reduceEq, Int.reduceGT, Int.reduceGE, Int.reduceNeg, blA]
  refine at_call tBCheck (checkS (i := 1) (by rfl) hom hm hz) ?_
  unfold leafV ckE
  by_cases hp : ckP ver sz ch h t ((ss.drop o).take m)
  · rw [if_pos hp, if_pos hp]
    have hb := hp.bounds
    have hpc := hp
    obtain ⟨p1, p2, p3, p4, p5, p6, p7, p8⟩ := hpc
    clear p8 p5
    obtain ⟨ver, rfl⟩ : ∃ k : Nat, ver = k := ⟨ver.toNat, by omega⟩
    obtain ⟨sz, rfl⟩ : ∃ k : Nat, sz = k := ⟨sz.toNat, by omega⟩
    obtain ⟨ch, rfl⟩ : ∃ k : Nat, ch = k := ⟨ch.toNat, by omega⟩
    simp -implicitDefEqProofs only [go_sem, ↓reduceIte, Nat.reduceEqDiff, Nat.reduceAdd, Nat.reduceMul, Nat.reduceLT, Nat.reduceLeDiff, Nat.reduceSub, Int.reduceToNat, Int.reduceLE, Int.reduceLT, reduceCtorEq, Int.reduceEq, Int.reduceGT, Int.reduceGE, Int.reduceNeg]
    refine in_call mixT tWByte ?_
    unfold mWByte
    simp -implicitDefEqProofs only [↓fnVC, initTm]
    simp -implicitDefEqProofs only [go_sem, ↓reduceIte, Nat.reduceEqDiff, Nat.reduceAdd, Nat.reduceMul, Nat.reduceLT, Nat.reduceLeDiff, Nat.reduceSub, Int.reduceToNat, Int.reduceLE, Int.reduceLT, reduceCtorEq, Int.reduceEq, Int.reduceGT, Int.reduceGE, Int.reduceNeg]
    refine at_call tWNumber (wNum0S (i := 3) (y := ver) (k := 1) (bad := false) (by rfl) (by decide) (by decide) (by decide) (by omega) (fun _ => by omega)) ?_
    simp -implicitDefEqProofs only [go_sem, ↓reduceIte, Nat.reduceEqDiff, Nat.reduceAdd, Nat.reduceMul, Nat.reduceLT, Nat.reduceLeDiff, Nat.reduceSub, Int.reduceToNat, Int.reduceLE, Int.reduceLT, reduceCtorEq, Int.reduceEq, Int.reduceGT, Int.reduceGE, Int.reduceNeg]
    refine in_call mixT tWFour ?_
    unfold mWFour
    simp -implicitDefEqProofs only [↓fnVC, initTm]
    simp -implicitDefEqProofs only [go_sem, ↓reduceIte, Nat.reduceEqDiff, Nat.reduceAdd, Nat.reduceMul, Nat.reduceLT, Nat.reduceLeDiff, Nat.reduceSub, Int.reduceToNat, Int.reduceLE, Int.reduceLT, reduceCtorEq, Int.reduceEq, Int.reduceGT, Int.reduceGE, Int.reduceNeg]
    refine at_call tWNumber (wNumS (i := 3) (r := 4) (y := sz) (k := 4) (bs := be ver 1) (bad := false) (by rfl) (by rfl) (by decide) (by decide) (by decide) (by decide) (by decide) (by omega) (fun _ => by omega) (by rw [be_len]; decide)) ?_
    simp -implicitDefEqProofs only [go_sem, ↓reduceIte, Nat.reduceEqDiff, Nat.reduceAdd, Nat.reduceMul, Nat.reduceLT, Nat.reduceLeDiff, Nat.reduceSub, Int.reduceToNat, Int.reduceLE, Int.reduceLT, reduceCtorEq, Int.reduceEq, Int.reduceGT, Int.reduceGE, Int.reduceNeg]
    refine in_call mixT tWTwo ?_
    unfold mWTwo
    simp -implicitDefEqProofs only [↓fnVC, initTm]
    simp -implicitDefEqProofs only [go_sem, ↓reduceIte, Nat.reduceEqDiff, Nat.reduceAdd, Nat.reduceMul, Nat.reduceLT, Nat.reduceLeDiff, Nat.reduceSub, Int.reduceToNat, Int.reduceLE, Int.reduceLT, reduceCtorEq, Int.reduceEq, Int.reduceGT, Int.reduceGE, Int.reduceNeg]
    refine at_call tWNumber (wNumS (i := 3) (r := 5) (y := ch) (k := 2) (bs := be ver 1 ++ be sz 4) (bad := false) (by rfl) (by rfl) (by decide) (by decide) (by decide) (by decide) (by decide) (by omega) (fun _ => by omega) (by rw [List.length_append, be_len, be_len]; decide)) ?_
    simp -implicitDefEqProofs only [go_sem, ↓reduceIte, Nat.reduceEqDiff, Nat.reduceAdd, Nat.reduceMul, Nat.reduceLT, Nat.reduceLeDiff, Nat.reduceSub, Int.reduceToNat, Int.reduceLE, Int.reduceLT, reduceCtorEq, Int.reduceEq, Int.reduceGT, Int.reduceGE, Int.reduceNeg]
    refine at_call tWHash (wHashS (i := 3) (r := 6) (h := h) (bs := be ver 1 ++ be sz 4 ++ be ch 2) (bad := false) (by rfl) (by rfl) (by decide) (by decide) (by decide) (by decide) (by simp only [List.length_append, be_len]; decide) (by omega)) ?_
    simp -implicitDefEqProofs only [go_sem, ↓reduceIte, Nat.reduceEqDiff, Nat.reduceAdd, Nat.reduceMul, Nat.reduceLT, Nat.reduceLeDiff, Nat.reduceSub, Int.reduceToNat, Int.reduceLE, Int.reduceLT, reduceCtorEq, Int.reduceEq, Int.reduceGT, Int.reduceGE, Int.reduceNeg]
    refine at_call tWHash (wHashS (i := 3) (r := 7) (h := t) (bs := be ver 1 ++ be sz 4 ++ be ch 2 ++ bts h) (bad := (false || decide (h.size ≠ 32))) (by rfl) (by rfl) (by decide) (by decide) (by decide) (by decide) (by simp only [List.length_append, be_len, bts_len, p6]; decide) (by omega)) ?_
    simp -implicitDefEqProofs only [go_sem, ↓reduceIte, Nat.reduceEqDiff, Nat.reduceAdd, Nat.reduceMul, Nat.reduceLT, Nat.reduceLeDiff, Nat.reduceSub, Int.reduceToNat, Int.reduceLE, Int.reduceLT, reduceCtorEq, Int.reduceEq, Int.reduceGT, Int.reduceGE, Int.reduceNeg]
    refine at_call tWBytes (wBytesS (i := 3) (r := 8) (bs := be ver 1 ++ be sz 4 ++ be ch 2 ++ bts h ++ bts t) (bad := (false || decide (h.size ≠ 32) || decide (t.size ≠ 32))) (by rfl) (by rfl) (by decide) rfl) ?_
    have e0 : (false || decide (h.size ≠ 32) || decide (t.size ≠ 32)) = false := by rw [p6, p7]; rfl
    rw [e0, if_neg Bool.false_ne_true]
    simp -implicitDefEqProofs only [go_sem, ↓reduceIte, Nat.reduceEqDiff, Nat.reduceAdd, Nat.reduceMul, Nat.reduceLT, Nat.reduceLeDiff, Nat.reduceSub, Int.reduceToNat, Int.reduceLE, Int.reduceLT, reduceCtorEq, Int.reduceEq, Int.reduceGT, Int.reduceGE, Int.reduceNeg]
    exact sub_val rfl (by decide) (by decide) rfl
  · rw [if_neg hp, if_neg hp]
    simp -implicitDefEqProofs only [go_sem, ↓reduceIte, Nat.reduceEqDiff, Nat.reduceAdd, Nat.reduceMul, Nat.reduceLT, Nat.reduceLeDiff, Nat.reduceSub, Int.reduceToNat, Int.reduceLE, Int.reduceLT, reduceCtorEq, Int.reduceEq, Int.reduceGT, Int.reduceGE, Int.reduceNeg]
    refine sub_val rfl (by decide) (by decide) rfl
theorem rleafBW {ver sz ch : Int} {h t : ByteArray} {o m : Nat} {ss : List ByteArray} (hom : o + m ≤ ss.length) (hm : m ≤ 1048576) (hz : szB ((ss.drop o).take m)) :
    fnVC CT mrBLeaf [blA ver sz ch h t 1 o m] ⟨[(1, some ⟨false, .strs ss⟩)], x⟩ 2 fun v H' n' => Sub 2 ⟨[(0, leafV ver sz ch h t ((ss.drop o).take m))], ⟨[], x⟩, 2⟩ ⟨[(0, v)], H', n'⟩ := by
  unfold mrBLeaf
  simp -implicitDefEqProofs only [↓fnVC, initTm]
  simp -implicitDefEqProofs only [go_sem, ↓reduceIte, Nat.reduceEqDiff, Nat.reduceAdd, Nat.reduceMul, Nat.reduceLT, Nat.reduceLeDiff, Nat.reduceSub, Int.reduceToNat, Int.reduceLE, Int.reduceLT, reduceCtorEq, Int.reduceEq, Int.reduceGT, Int.reduceGE, Int.reduceNeg, blA]
  refine at_call trBCheck (rcheckS (i := 1) (by rfl) hom hm hz) ?_
  unfold leafV ckE
  by_cases hp : ckP ver sz ch h t ((ss.drop o).take m)
  · rw [if_pos hp, if_pos hp]
    have hb := hp.bounds
    have hpc := hp
    obtain ⟨p1, p2, p3, p4, p5, p6, p7, p8⟩ := hpc
    clear p8 p5
    obtain ⟨ver, rfl⟩ : ∃ k : Nat, ver = k := ⟨ver.toNat, by omega⟩
    obtain ⟨sz, rfl⟩ : ∃ k : Nat, sz = k := ⟨sz.toNat, by omega⟩
    obtain ⟨ch, rfl⟩ : ∃ k : Nat, ch = k := ⟨ch.toNat, by omega⟩
    simp -implicitDefEqProofs only [go_sem, ↓reduceIte, Nat.reduceEqDiff, Nat.reduceAdd, Nat.reduceMul, Nat.reduceLT, Nat.reduceLeDiff, Nat.reduceSub, Int.reduceToNat, Int.reduceLE, Int.reduceLT, reduceCtorEq, Int.reduceEq, Int.reduceGT, Int.reduceGE, Int.reduceNeg]
    refine at_call trWNumber (rwNum0S (i := 3) (y := ver) (k := 1) (bad := false) (by rfl) (by decide) (by decide) (by decide) (by decide) (by omega) (fun _ => by omega)) ?_
    simp -implicitDefEqProofs only [go_sem, ↓reduceIte, Nat.reduceEqDiff, Nat.reduceAdd, Nat.reduceMul, Nat.reduceLT, Nat.reduceLeDiff, Nat.reduceSub, Int.reduceToNat, Int.reduceLE, Int.reduceLT, reduceCtorEq, Int.reduceEq, Int.reduceGT, Int.reduceGE, Int.reduceNeg]
    refine at_call trWNumber (rwNumS (i := 3) (r := 4) (y := sz) (k := 4) (bs := be ver 1) (bad := false) (by rfl) (by rfl) (by decide) (by decide) (by decide) (by decide) (by decide) (by decide) (by omega) (fun _ => by omega) (by rw [be_len]; decide)) ?_
    simp -implicitDefEqProofs only [go_sem, ↓reduceIte, Nat.reduceEqDiff, Nat.reduceAdd, Nat.reduceMul, Nat.reduceLT, Nat.reduceLeDiff, Nat.reduceSub, Int.reduceToNat, Int.reduceLE, Int.reduceLT, reduceCtorEq, Int.reduceEq, Int.reduceGT, Int.reduceGE, Int.reduceNeg]
    refine at_call trWNumber (rwNumS (i := 3) (r := 5) (y := ch) (k := 2) (bs := be ver 1 ++ be sz 4) (bad := false) (by rfl) (by rfl) (by decide) (by decide) (by decide) (by decide) (by decide) (by decide) (by omega) (fun _ => by omega) (by rw [List.length_append, be_len, be_len]; decide)) ?_
    simp -implicitDefEqProofs only [go_sem, ↓reduceIte, Nat.reduceEqDiff, Nat.reduceAdd, Nat.reduceMul, Nat.reduceLT, Nat.reduceLeDiff, Nat.reduceSub, Int.reduceToNat, Int.reduceLE, Int.reduceLT, reduceCtorEq, Int.reduceEq, Int.reduceGT, Int.reduceGE, Int.reduceNeg]
    refine at_call trWHash (rwHashS (i := 3) (r := 6) (h := h) (bs := be ver 1 ++ be sz 4 ++ be ch 2) (bad := false) (by rfl) (by rfl) (by decide) (by decide) (by decide) (by decide) (by simp only [List.length_append, be_len]; decide) p6) ?_
    simp -implicitDefEqProofs only [go_sem, ↓reduceIte, Nat.reduceEqDiff, Nat.reduceAdd, Nat.reduceMul, Nat.reduceLT, Nat.reduceLeDiff, Nat.reduceSub, Int.reduceToNat, Int.reduceLE, Int.reduceLT, reduceCtorEq, Int.reduceEq, Int.reduceGT, Int.reduceGE, Int.reduceNeg]
    refine at_call trWHash (rwHashS (i := 3) (r := 7) (h := t) (bs := be ver 1 ++ be sz 4 ++ be ch 2 ++ bts h) (bad := false) (by rfl) (by rfl) (by decide) (by decide) (by decide) (by decide) (by simp only [List.length_append, be_len, bts_len, p6]; decide) p7) ?_
    simp -implicitDefEqProofs only [go_sem, ↓reduceIte, Nat.reduceEqDiff, Nat.reduceAdd, Nat.reduceMul, Nat.reduceLT, Nat.reduceLeDiff, Nat.reduceSub, Int.reduceToNat, Int.reduceLE, Int.reduceLT, reduceCtorEq, Int.reduceEq, Int.reduceGT, Int.reduceGE, Int.reduceNeg]
    refine at_call trWBytes (rwBytesS (i := 3) (r := 8) (bs := be ver 1 ++ be sz 4 ++ be ch 2 ++ bts h ++ bts t) (bad := false) (by rfl) (by rfl) (by decide) rfl) ?_
    rw [if_neg Bool.false_ne_true]
    simp -implicitDefEqProofs only [go_sem, ↓reduceIte, Nat.reduceEqDiff, Nat.reduceAdd, Nat.reduceMul, Nat.reduceLT, Nat.reduceLeDiff, Nat.reduceSub, Int.reduceToNat, Int.reduceLE, Int.reduceLT, reduceCtorEq, Int.reduceEq, Int.reduceGT, Int.reduceGE, Int.reduceNeg]
    exact sub_val rfl (by decide) (by decide) rfl
  · rw [if_neg hp, if_neg hp]
    simp -implicitDefEqProofs only [go_sem, ↓reduceIte, Nat.reduceEqDiff, Nat.reduceAdd, Nat.reduceMul, Nat.reduceLT, Nat.reduceLeDiff, Nat.reduceSub, Int.reduceToNat, Int.reduceLE, Int.reduceLT, reduceCtorEq, Int.reduceEq, Int.reduceGT, Int.reduceGE, Int.reduceNeg]
    refine sub_val rfl (by decide) (by decide) rfl
theorem leafBS {ver sz ch : Int} {h t : ByteArray} {i o m : Nat} {ss : List ByteArray} (hr : rowAt H i (.strs []) = some (.strs ss)) (hom : o + m ≤ ss.length) (hm : m ≤ 1048576) (hz : szB ((ss.drop o).take m)) :
    SpecAt Try.prog nBLeaf [blA ver sz ch h t i o m] H n (leafV ver sz ch h t ((ss.drop o).take m)) H n :=
  lift_bl (post := []) hr leafV_ren (okT.spec tBLeaf (leafBW hom hm hz))
theorem rleafBS {ver sz ch : Int} {h t : ByteArray} {i o m : Nat} {ss : List ByteArray} (hr : rowAt H i (.strs []) = some (.strs ss)) (hom : o + m ≤ ss.length) (hm : m ≤ 1048576) (hz : szB ((ss.drop o).take m)) :
    SpecAt Try.prog nrBLeaf [blA ver sz ch h t i o m] H n (leafV ver sz ch h t ((ss.drop o).take m)) H n :=
  lift_bl (post := []) hr leafV_ren (okT.spec trBLeaf (rleafBW hom hm hz))
theorem bytesW {ver sz ch : Int} {h t : ByteArray} {o m : Nat} {ss : List ByteArray} (hom : o + m ≤ ss.length) (hm : m ≤ 1048576) (hz : szB ((ss.drop o).take m)) :
    fnVC CT mBBytes [blA ver sz ch h t 1 o m] ⟨[(1, some ⟨false, .strs ss⟩)], x⟩ 2 fun v H' n' => Sub 2 ⟨[(0, bytesV ver sz ch h t ((ss.drop o).take m))], ⟨[], x⟩, 2⟩ ⟨[(0, v)], H', n'⟩ := by
  unfold mBBytes
  simp -implicitDefEqProofs only [↓fnVC, initTm]
  simp -implicitDefEqProofs only [go_sem, ↓reduceIte, Nat.reduceEqDiff, Nat.reduceAdd, Nat.reduceMul, Nat.reduceLT, Nat.reduceLeDiff, Nat.reduceSub, Int.reduceToNat, Int.reduceLE, Int.reduceLT, reduceCtorEq, Int.reduceEq, Int.reduceGT, Int.reduceGE, Int.reduceNeg, blA]
  refine at_call tBLeaf (leafBS (i := 1) (by rfl) hom hm hz) ?_
  unfold leafV bytesV
  by_cases hp : ckP ver sz ch h t ((ss.drop o).take m)
  · rw [if_pos hp, if_pos hp]
    have ha := hp.all32
    have hc := catb_32 ha.1
    simp -implicitDefEqProofs only [go_sem, ↓reduceIte, Nat.reduceEqDiff, Nat.reduceAdd, Nat.reduceMul, Nat.reduceLT, Nat.reduceLeDiff, Nat.reduceSub, Int.reduceToNat, Int.reduceLE, Int.reduceLT, reduceCtorEq, Int.reduceEq, Int.reduceGT, Int.reduceGE, Int.reduceNeg]
    refine at_ext (enters_mk Try.func45 rfl rfl) (join0S (i := 1) (by rfl) hom (by omega) (by omega)) ?_
    have e1 : (leafT ver sz ch h t).size = 71 := leafT_size hp.2.2.2.2.2.1 hp.2.2.2.2.2.2.1
    have e2 : (tx (catb ((ss.drop o).take m))).size = ((ss.drop o).take m).length * 32 := by rw [tx_sz, hc]
    simp -implicitDefEqProofs only [go_sem, ↓reduceIte, Nat.reduceEqDiff, Nat.reduceAdd, Nat.reduceMul, Nat.reduceLT, Nat.reduceLeDiff, Nat.reduceSub, Int.reduceToNat, Int.reduceLE, Int.reduceLT, reduceCtorEq, Int.reduceEq, Int.reduceGT, Int.reduceGE, Int.reduceNeg]
    refine ⟨by omega, ?_⟩
    exact sub_val rfl (by decide) (by decide) rfl
  · rw [if_neg hp, if_neg hp]
    simp -implicitDefEqProofs only [go_sem, ↓reduceIte, Nat.reduceEqDiff, Nat.reduceAdd, Nat.reduceMul, Nat.reduceLT, Nat.reduceLeDiff, Nat.reduceSub, Int.reduceToNat, Int.reduceLE, Int.reduceLT, reduceCtorEq, Int.reduceEq, Int.reduceGT, Int.reduceGE, Int.reduceNeg]
    exact sub_val rfl (by decide) (by decide) rfl
theorem rbytesW {ver sz ch : Int} {h t : ByteArray} {o m : Nat} {ss : List ByteArray} (hom : o + m ≤ ss.length) (hm : m ≤ 1048576) (hz : szB ((ss.drop o).take m)) :
    fnVC CT mrBBytes [blA ver sz ch h t 1 o m] ⟨[(1, some ⟨false, .strs ss⟩)], x⟩ 2 fun v H' n' => Sub 2 ⟨[(0, bytesV ver sz ch h t ((ss.drop o).take m))], ⟨[], x⟩, 2⟩ ⟨[(0, v)], H', n'⟩ := by
  unfold mrBBytes
  simp -implicitDefEqProofs only [↓fnVC, initTm]
  simp -implicitDefEqProofs only [go_sem, ↓reduceIte, Nat.reduceEqDiff, Nat.reduceAdd, Nat.reduceMul, Nat.reduceLT, Nat.reduceLeDiff, Nat.reduceSub, Int.reduceToNat, Int.reduceLE, Int.reduceLT, reduceCtorEq, Int.reduceEq, Int.reduceGT, Int.reduceGE, Int.reduceNeg, blA]
  refine at_call trBLeaf (rleafBS (i := 1) (by rfl) hom hm hz) ?_
  have hlen : ((ss.drop o).take m).length = m := by rw [List.length_take, List.length_drop]; omega
  unfold leafV bytesV
  by_cases hp : ckP ver sz ch h t ((ss.drop o).take m)
  · rw [if_pos hp, if_pos hp]
    have ha := hp.all32
    have e1 : (leafT ver sz ch h t).size = 71 := leafT_size hp.2.2.2.2.2.1 hp.2.2.2.2.2.2.1
    simp -implicitDefEqProofs only [go_sem, ↓reduceIte, Nat.reduceEqDiff, Nat.reduceAdd, Nat.reduceMul, Nat.reduceLT, Nat.reduceLeDiff, Nat.reduceSub, Int.reduceToNat, Int.reduceLE, Int.reduceLT, reduceCtorEq, Int.reduceEq, Int.reduceGT, Int.reduceGE, Int.reduceNeg]
    refine loop_fam (fun (j : Nat) => j ≤ m) (fun j => ⟨[(1, .ptr 2 0), (4, .v (.string (leafT ver sz ch h t ++ tx (catb ((ss.drop o).take j))))), (5, .v (.int .i64 0)), (6, .v (.int .i64 j))], ⟨[(1, some ⟨false, .strs ss⟩), (2, some ⟨true, .sv [.v (.int .i64 ver), .v (.int .i64 sz), .v (.int .i64 ch), .v (.string h), .v (.string t), .sl 1 o m 1]⟩)], x⟩, 3⟩) (fun j => m - j) 0 (Nat.zero_le _) ?_ ?_
    · refine sub_mk [] rfl rfl rfl ?_
      have e0 : leafT ver sz ch h t ++ tx (catb ((ss.drop o).take 0)) = leafT ver sz ch h t := by
        apply ByteArray.ext
        simp [catb, tx]
      rw [e0]
      simp only [tmSub, hpSub, objSub, eqTm, eqHp, rn, lk, SV.ren, SV.renC, SV.renB, SV.renA, ren_ints, ren_strs, ren_pl, ren_svs, SV.v.injEq, Value.int.injEq, Body.ints.injEq, SV.ptr.injEq, SV.sl.injEq, Value.string.injEq, Value.bool.injEq, List.map_cons, List.map_nil, forall_const, Nat.reduceLT, Nat.lt_add_one, imp_self, true_and, and_true, and_self, ob_some, get_mk, lk_cons, ↓reduceIte, Nat.reduceEqDiff, ne_eq, not_true_eq_false, not_false_eq_true, Nat.one_ne_zero, Nat.zero_ne_one, Nat.succ_ne_self, Nat.reduceAdd, Bool.false_eq_true, false_implies, implies_true, reduceCtorEq]
      rfl
    · intro j hj
      simp -implicitDefEqProofs only [go_sem, ↓reduceIte, Nat.reduceEqDiff, Nat.reduceAdd, Nat.reduceMul, Nat.reduceLT, Nat.reduceLeDiff, Nat.reduceSub, Int.reduceToNat, Int.reduceLE, Int.reduceLT, reduceCtorEq, Int.reduceEq, Int.reduceGT, Int.reduceGE, Int.reduceNeg]
      refine condK_bb (fun c => ?_) (fun c => ?_)
      · have c1 : j < m := by have := of_decide_eq_true c; omega
        have w4 : IntKind.i64.wrap ((j : Int) + 1) = ((j + 1 : Nat) : Int) := by rw [wrap_i64 (by omega) (by omega)]; omega
        have htk : (ss.drop o).take (j + 1) = (ss.drop o).take j ++ [ss.getD (o + j) ByteArray.empty] := by
          rw [List.take_succ_eq_append_getElem (by rw [List.length_drop]; omega), List.getElem_drop, List.getD_eq_getElem?_getD, List.getElem?_eq_getElem (by omega)]; rfl
        have hst : leafT ver sz ch h t ++ tx (catb ((ss.drop o).take j)) ++ ss.getD (o + j) ByteArray.empty = leafT ver sz ch h t ++ tx (catb ((ss.drop o).take (j + 1))) := by
          rw [htk, catb_snoc, tx_app, tx_bts, ByteArray.append_assoc]
        have hsz : ∀ k, k ≤ m → (tx (catb ((ss.drop o).take k))).size ≤ 32 * k := by
          intro k hk
          rw [tx_sz, catb_32 (fun s hs => ha.1 s (by rw [← Nat.min_eq_left hk, ← List.take_take] at hs; exact List.mem_of_mem_take hs)), List.length_take]
          omega
        have h3 := hsz j (by omega)
        have h4 := hsz (j + 1) (by omega)
        have h5 := congrArg ByteArray.size hst
        simp only [ByteArray.size_append] at h5
        simp -implicitDefEqProofs only [go_sem, ↓reduceIte, Nat.reduceEqDiff, Nat.reduceAdd, Nat.reduceMul, Nat.reduceLT, Nat.reduceLeDiff, Nat.reduceSub, Int.reduceToNat, Int.reduceLE, Int.reduceLT, reduceCtorEq, Int.reduceEq, Int.reduceGT, Int.reduceGE, Int.reduceNeg, c, w4, hst]
        refine ⟨⟨by omega, by omega⟩, by omega, by omega, ?_⟩
        refine kLoop_mk (j + 1) (by omega) (by omega) ?_
        refine sub_mk [] rfl rfl rfl ?_
        simp only [tmSub, hpSub, objSub, eqTm, eqHp, rn, lk, SV.ren, SV.renC, SV.renB, SV.renA, ren_ints, ren_strs, ren_pl, ren_svs, SV.v.injEq, Value.int.injEq, Body.ints.injEq, SV.ptr.injEq, SV.sl.injEq, Value.string.injEq, Value.bool.injEq, List.map_cons, List.map_nil, forall_const, Nat.reduceLT, Nat.lt_add_one, imp_self, true_and, and_true, and_self, ob_some, get_mk, lk_cons, ↓reduceIte, Nat.reduceEqDiff, ne_eq, not_true_eq_false, not_false_eq_true, Nat.one_ne_zero, Nat.zero_ne_one, Nat.succ_ne_self, Nat.reduceAdd, Bool.false_eq_true, false_implies, implies_true, reduceCtorEq]
      · have c1 : j = m := by have := of_decide_eq_false c; omega
        subst c1
        simp -implicitDefEqProofs only [go_sem, ↓reduceIte, Nat.reduceEqDiff, Nat.reduceAdd, Nat.reduceMul, Nat.reduceLT, Nat.reduceLeDiff, Nat.reduceSub, Int.reduceToNat, Int.reduceLE, Int.reduceLT, reduceCtorEq, Int.reduceEq, Int.reduceGT, Int.reduceGE, Int.reduceNeg, c]
        exact sub_val rfl (by decide) (by decide) rfl
  · rw [if_neg hp, if_neg hp]
    simp -implicitDefEqProofs only [go_sem, ↓reduceIte, Nat.reduceEqDiff, Nat.reduceAdd, Nat.reduceMul, Nat.reduceLT, Nat.reduceLeDiff, Nat.reduceSub, Int.reduceToNat, Int.reduceLE, Int.reduceLT, reduceCtorEq, Int.reduceEq, Int.reduceGT, Int.reduceGE, Int.reduceNeg]
    refine loop_fam (fun (_ : Unit) => True) (fun _ => ⟨[(1, .ptr 2 0), (4, .v (.string ⟨#[]⟩)), (5, .v (.int .i64 1)), (6, .v (.int .i64 0))], ⟨[(1, some ⟨false, .strs ss⟩), (2, some ⟨true, .sv [.v (.int .i64 ver), .v (.int .i64 sz), .v (.int .i64 ch), .v (.string h), .v (.string t), .sl 1 o m 1]⟩)], x⟩, 3⟩) (fun _ => 0) () trivial ?_ ?_
    · refine sub_mk [] rfl rfl rfl ?_
      simp only [tmSub, hpSub, objSub, eqTm, eqHp, rn, lk, SV.ren, SV.renC, SV.renB, SV.renA, ren_ints, ren_strs, ren_pl, ren_svs, SV.v.injEq, Value.int.injEq, Body.ints.injEq, SV.ptr.injEq, SV.sl.injEq, Value.string.injEq, Value.bool.injEq, List.map_cons, List.map_nil, forall_const, Nat.reduceLT, Nat.lt_add_one, imp_self, true_and, and_true, and_self, ob_some, get_mk, lk_cons, ↓reduceIte, Nat.reduceEqDiff, ne_eq, not_true_eq_false, not_false_eq_true, Nat.one_ne_zero, Nat.zero_ne_one, Nat.succ_ne_self, Nat.reduceAdd, Bool.false_eq_true, false_implies, implies_true, reduceCtorEq]
    · intro _ _
      by_cases h0 : 0 < m
      · have c0 : decide ((0 : Int) < (m : Int)) = true := decide_eq_true (by omega)
        simp -implicitDefEqProofs only [go_sem, ↓reduceIte, Nat.reduceEqDiff, Nat.reduceAdd, Nat.reduceMul, Nat.reduceLT, Nat.reduceLeDiff, Nat.reduceSub, Int.reduceToNat, Int.reduceLE, Int.reduceLT, reduceCtorEq, Int.reduceEq, Int.reduceGT, Int.reduceGE, Int.reduceNeg, c0]
        exact sub_val rfl (by decide) (by decide) rfl
      · have c0 : decide ((0 : Int) < (m : Int)) = false := decide_eq_false (by omega)
        simp -implicitDefEqProofs only [go_sem, ↓reduceIte, Nat.reduceEqDiff, Nat.reduceAdd, Nat.reduceMul, Nat.reduceLT, Nat.reduceLeDiff, Nat.reduceSub, Int.reduceToNat, Int.reduceLE, Int.reduceLT, reduceCtorEq, Int.reduceEq, Int.reduceGT, Int.reduceGE, Int.reduceNeg, c0]
        exact sub_val rfl (by decide) (by decide) rfl
theorem bytesBS {ver sz ch : Int} {h t : ByteArray} {i o m : Nat} {ss : List ByteArray} (hr : rowAt H i (.strs []) = some (.strs ss)) (hom : o + m ≤ ss.length) (hm : m ≤ 1048576) (hz : szB ((ss.drop o).take m)) :
    SpecAt Try.prog nBBytes [blA ver sz ch h t i o m] H n (bytesV ver sz ch h t ((ss.drop o).take m)) H n :=
  lift_bl (post := []) hr bytesV_ren (okT.spec tBBytes (bytesW hom hm hz))
theorem rbytesBS {ver sz ch : Int} {h t : ByteArray} {i o m : Nat} {ss : List ByteArray} (hr : rowAt H i (.strs []) = some (.strs ss)) (hom : o + m ≤ ss.length) (hm : m ≤ 1048576) (hz : szB ((ss.drop o).take m)) :
    SpecAt Try.prog nrBBytes [blA ver sz ch h t i o m] H n (bytesV ver sz ch h t ((ss.drop o).take m)) H n :=
  lift_bl (post := []) hr bytesV_ren (okT.spec trBBytes (rbytesW hom hm hz))
end Go.Sx

/- Bills: two that are the same; the example; what fits. -/
set_option linter.unusedVariables false
set_option linter.unusedSimpArgs false
set_option maxRecDepth 100000
namespace Go.Sx
attribute [local go_sem ↓] bind_mk intsB_mk strsB_mk svB_mk fnVC ob_some vc_skip vc_exit vc_ret vc_seq vc_block kSeq_normal kSeq_exit kSeq_ret kBlock_normal kBlock_exit kBlock_ret vc_reg vc_regD vc_cond condK_true condK_false vc_loop kLoop_exit kLoop_ret kRoll_normal kRoll_exit kRoll_ret vcOps_nil vcOps_cons gd_bool gd_undef put_some put_none vcT_fin vcT_pure vcT_act vcT_acts vcT_stop stab_none stab_some stabM_nil stabM_cons stabO_ld stabO_ldn stabO_slP stabO_b2s fldOf_ai fldOf_agg fldOf_ait fldOf_aggt intsOf_nil intsOf_cons strsOf_nil strsOf_cons c_omap ob_if lk_nil lk_cons ev_t ev_k z_mov z_pick z_bin z_binB z_binP z_un z_r2s z_conv z_s2b z_b2s z_alloc z_bld z_bldI z_rowI z_rowS z_ld z_ldn z_st z_stn asN_ptr asN_fn z_nilck z_fld z_fadr z_idxA z_idxP z_idxS z_idxV z_slS z_slL z_slP z_mk z_lenS z_lenL z_app appC_ints appC_pl appC_sv appC_strs isS_strs loose_ints loose_pl loose_sv z_slM z_callv callvK_fn callvK_f callvK_yl vc_rangeF rfEnd_eq rfGo_none rfGo_ret rfGo_exit yGo_mk yEnd_n yEnd_r yEnd_e yRdy_mk yMid_n putPs_nil putPs_cons leaf_v leaf_ptr leaf_sl leaf_yl leaf_mp z_appS z_appZ z_cpyS z_mkfn reps_int reps_str z_rowV z_slnil nilK_zero z_cpy z_call asT_tup z_extT z_box boxOf_ai boxOf_agg boxOf_int boxOf_str boxOf_bool boxOf_ptr boxOf_sl sbin_int sbin_str sbinB_mk sbinP_nn sbinP_pn sbinP_np i_add i_sub i_mul i_quo i_rem i_and i_or i_xor i_andNot i_shl i_shr i_eql i_neq i_lss i_leq i_gtr i_geq st_add st_eql st_neq st_lss st_leq st_gtr st_geq bo_eql bo_neq pt_eql pt_neq un_neg un_xor un_not asI_mk asB_mk asS_mk asP_mk asSl_mk asBy_mk bnd_none bnd_some get_mk hput_mk hdel_mk kill_eq wrOf_eq rowOf_eq rsvs_0 rsvs_1 rsvs_2 rsvs_3 rsv_t rsv_c1 rsv_cn nt_v nt_ptr nt_sl nt_agg nt_ai get_ints get_strs get_pl get_sv getN_ints getN_sv set_ints set_strs set_sv setN_ints setN_sv part_ints part_strs part_sv cat_ints cat_strs cat_sv over_ints over_strs over_sv ones_ints ones_strs evs_nil evs_cons condK_eqt condK_eqf det_callP V_ns V_nn V_gs V_gn obC_mk fresh_ev setN_plagg setN_intsv setN_svai setN_svagg over_intsv set_pl setN_pl setN_plai getN_pl getN_strs part_pl cat_pl over_pl over_plints z_mm
attribute [local go_sem] initTm ne_eq not_true_eq_false not_false_eq_true true_and and_true List.length_cons List.length_nil Int.toNat_natCast Nat.add_zero Nat.zero_add Nat.mul_one List.getElem?_cons_zero List.drop_zero List.take_length List.take_succ_cons List.take_zero List.take_nil List.drop_succ_cons Option.map_some Nat.le_refl implies_true List.getElem?_cons_succ decide_true decide_false Bool.not_true Bool.not_false beq_self_eq_true Nat.succ_ne_self Nat.one_ne_zero Nat.zero_ne_one vk_mk hk_mk nk_mk tok_eq plsOf_map intsOf_map bodyOf_pl bodyOf_ints bodyOf_strs bodyOf_sv part_aggv part_agg part_ai part_int part_str part_bool part_sl part_ptr part_nil numsOf_map u_int u_str u_bool u_pnil u_sl u_ptr u_oci u_ocs evq_nil evq_cons fillS_nil fillS_cons u_ocb ones_pl cells_sv cells_ints cells_strs cells_pl smms_nil smms_cons smm_min smm_max plsOf_nil List.nil_append List.all_cons List.all_nil Bool.and_self Bool.true_and Bool.and_true zws_len zw_len zi_len List.set_cons_zero List.set_cons_succ List.flatMap_cons List.flatMap_nil List.append_nil
open Go.Proofs
variable {H : Hp} {n : Nat} {x : Nat → Option SO}

theorem sameS {a b l : Nat} {ss : List ByteArray} (h1 : rowAt H a (.strs []) = some (.strs ss)) (h2 : rowAt H b (.strs []) = some (.strs ss)) (hl : l = ss.length) (hb : l ≤ 1048576) :
    SpecAt Try.prog nSameTexts [.sl a 0 l 1, .sl b 0 l 1] H n (.v (.bool true)) H n := by
  have := lift_ro (n := n) (okT.spec tSameTexts (sameW (x := H.x) (o := 0) (o' := 0) (l := l) (ss := ss) (tt := ss) (by omega) (by omega) (fun _ _ => rfl) hb)) [(1, a), (2, b)] rfl rfl rfl (by omega) rfl rfl
    ⟨rowAt_sub h1 rfl ⟨rfl, fun _ h => (by cases h)⟩ rfl, rowAt_sub h2 rfl ⟨rfl, fun _ h => (by cases h)⟩ rfl, trivial⟩ rfl rfl rfl
  exact this
theorem sameBS {a b l : Nat} {ver sz ch : Int} {h t : ByteArray} {ss : List ByteArray} (h1 : rowAt H a (.strs []) = some (.strs ss)) (h2 : rowAt H b (.strs []) = some (.strs ss)) (hl : l = ss.length) (hb : l ≤ 1048576) :
    SpecAt Try.prog nrBSame [blA ver sz ch h t a 0 l, blA ver sz ch h t b 0 l] H n (.v (.bool true)) H n := by
  have := lift_ro (n := n) (okT.spec trBSame (args := [blA ver sz ch h t 1 0 l, blA ver sz ch h t 2 0 l]) (H := ⟨[(1, some ⟨false, .strs ss⟩), (2, some ⟨false, .strs ss⟩)], H.x⟩) (n := 3) (v := .v (.bool true)) (H' := ⟨[], H.x⟩) (n' := 3) (by
    unfold mrBSame
    have g : ∀ z : Int, decide (z = z) = true := fun z => decide_eq_true rfl
    simp -implicitDefEqProofs only [↓fnVC, initTm]
    simp -implicitDefEqProofs only [go_sem, ↓reduceIte, Nat.reduceEqDiff, Nat.reduceAdd, Nat.reduceMul, Nat.reduceLT, Nat.reduceLeDiff, Nat.reduceSub, Int.reduceToNat, Int.reduceLE, Int.reduceLT, reduceCtorEq, Int.reduceEq, Int.reduceGT, Int.reduceGE, Int.reduceNeg, blA, g, seq_self]
    refine at_call tSameTexts (sameS (a := 1) (b := 2) (ss := ss) (by rfl) (by rfl) hl hb) ?_
    simp -implicitDefEqProofs only [go_sem, ↓reduceIte, Nat.reduceEqDiff, Nat.reduceAdd, Nat.reduceMul, Nat.reduceLT, Nat.reduceLeDiff, Nat.reduceSub, Int.reduceToNat, Int.reduceLE, Int.reduceLT, reduceCtorEq, Int.reduceEq, Int.reduceGT, Int.reduceGE, Int.reduceNeg]
    exact sub_val rfl (by decide) (by decide) rfl)) [(1, a), (2, b)] rfl rfl rfl (by omega) rfl rfl
    ⟨rowAt_sub h1 rfl ⟨rfl, fun _ h => (by cases h)⟩ rfl, rowAt_sub h2 rfl ⟨rfl, fun _ h => (by cases h)⟩ rfl, trivial⟩ rfl rfl rfl
  exact this
theorem root_32 {l : List ByteArray} (h : ∀ s ∈ l, s.size = 32) : (root l).size = 32 := by
  match l, h with
  | [], _ => rw [root_nil]; exact sha_size _
  | [a], h => rw [root_one]; exact h a (by simp)
  | a :: b :: r, _ => rw [root_step (by simp)]; exact nd_size
theorem cnt_cK {c : Nat} {s : ByteArray} (hc : 1 ≤ c) : cnt s.size c = (cK c s : Nat) := by
  unfold cnt cK
  rw [show (s.size : Int) + c - 1 = ((s.size + c - 1 : Nat) : Int) by omega]
  rfl
theorem makeP_iff {ver c : Int} {s : ByteArray} : makeP ver c s ↔ (1 ≤ ver ∧ ver ≤ 255 ∧ 1 ≤ s.size ∧ s.size ≤ 8192 ∧ partB c = true) := by
  unfold makeP ckP
  constructor
  · rintro ⟨h1, h2, h3, h4, h5, _⟩
    exact ⟨h2, h3, by omega, by omega, h1⟩
  · rintro ⟨h1, h2, h3, h4, h5⟩
    have hc := partB_bound h5
    obtain ⟨c, rfl⟩ : ∃ k : Nat, c = k := ⟨c.toNat, by omega⟩
    rw [Int.toNat_natCast]
    refine ⟨h5, h1, h2, by omega, by omega, h5, sha_size _, root_32 cks_32, .inr ⟨?_, rfl, ?_⟩⟩
    · rw [cks_len, cnt_cK (by omega)]
    · exact List.any_eq_false.2 fun s hs => by unfold odd32; rw [cks_32 s hs]; decide
/-- What Make answers, as a bill. -/
theorem makeV_form (ver c : Int) (s : ByteArray) : ∃ (V S C : Int) (h t : ByteArray) (e : Int), (∀ i, makeV ver c s i = .tup [blA V S C h t i 0 (makeL ver c s).length, .v (.int .i64 e)]) ∧ (makeL ver c s).length ≤ 128 ∧ (∀ q ∈ makeL ver c s, q.size = 32) ∧
    (makeP ver c s → e = 0 ∧ V = ver ∧ S = s.size ∧ C = c ∧ h = sha (bts s) ∧ t = root (makeL ver c s) ∧ ckP V S C h t (makeL ver c s) ∧ (makeL ver c s).length = cK c.toNat s) ∧ (¬ makeP ver c s → e = 1 ∧ makeL ver c s = []) := by
  by_cases hP : makeP ver c s
  · have hL : makeL ver c s = cks c.toNat s (cK c.toNat s) := if_pos hP
    have hi := makeP_iff.1 hP
    have hc := partB_bound hi.2.2.2.2
    rw [hL]
    refine ⟨ver, s.size, c, sha (bts s), root (cks c.toNat s (cK c.toNat s)), 0, fun i => ?_, ?_, cks_32, fun _ => ⟨rfl, rfl, rfl, rfl, rfl, rfl, hP.2, cks_len⟩, fun h => absurd hP h⟩
    · unfold makeV; rw [if_pos hP, cks_len]
    · rw [cks_len]; exact cK_le (by omega) hi.2.2.2.1
  · have hL : makeL ver c s = [] := if_neg hP
    rw [hL]
    exact ⟨0, 0, 0, ⟨#[]⟩, ⟨#[]⟩, 1, fun i => if_neg hP, by simp, fun q hq => (by cases hq), fun h => absurd h hP, fun _ => ⟨rfl, rfl⟩⟩
theorem makeS {ver c : Int} {s : ByteArray} (hn : n + 1 ≤ 1000) :
    SpecAt Try.prog nBMake [.v (.int .i64 ver), .v (.int .i64 c), .v (.string s)] H n (makeV ver c s n) ⟨(n, some ⟨true, .strs (makeL ver c s)⟩) :: H.l, H.x⟩ (n + 1) := by
  obtain ⟨V, S, C, h, t, e, hV, _⟩ := makeV_form ver c s
  have h0 := okT.spec tBMake (makeW (x := H.x) (ver := ver) (c := c) (s := s))
  rw [hV] at h0 ⊢
  exact lift (n := n) h0 [] rfl rfl rfl (by omega) rfl rfl trivial rfl rfl (by omega)
theorem rmakeS {ver c : Int} {s : ByteArray} (hn : n + 1 ≤ 1000) (hs : s.size ≤ 1073741824) (hc0 : c < 9223372036854775808 ∧ -9223372036854775808 ≤ c) :
    SpecAt Try.prog nrBMake [.v (.int .i64 ver), .v (.int .i64 c), .v (.string s)] H n (makeV ver c s n) ⟨(n, some ⟨true, .strs (makeL ver c s)⟩) :: H.l, H.x⟩ (n + 1) := by
  obtain ⟨V, S, C, h, t, e, hV, _⟩ := makeV_form ver c s
  have h0 := okT.spec trBMake (rmakeW (x := H.x) (ver := ver) (c := c) (s := s) hs hc0)
  rw [hV] at h0 ⊢
  exact lift (n := n) h0 [] rfl rfl rfl (by omega) rfl rfl trivial rfl rfl (by omega)
theorem billsS : SpecAt Try.prog nbills [] H n (.v (.bool true)) H n := lift_pure (okT.spec tbills (by
  unfold mbills
  simp -implicitDefEqProofs only [↓fnVC, initTm]
  have g0 : partB 64 = true := by decide
  simp -implicitDefEqProofs only [go_sem, ↓reduceIte, Nat.reduceEqDiff, Nat.reduceAdd, Nat.reduceMul, Nat.reduceLT, Nat.reduceLeDiff, Nat.reduceSub, Int.reduceToNat, Int.reduceLE, Int.reduceLT, reduceCtorEq, Int.reduceEq, Int.reduceGT, Int.reduceGE, Int.reduceNeg]
  refine ⟨by decide, by rw [List.length_replicate]; omega, ?_⟩
  have hI : (tx ((List.replicate 100 (0 : Int)).take 100)).size = 100 := by rw [tx_sz, List.length_take, List.length_replicate]; rfl
  generalize tx ((List.replicate 100 (0 : Int)).take 100) = I at hI ⊢
  have hP : makeP 3 64 I := makeP_iff.2 ⟨by decide, by decide, by omega, by omega, g0⟩
  obtain ⟨V, S, C, h, t, e, hV, hk, h32, hT, _⟩ := makeV_form 3 64 I
  obtain ⟨rfl, rfl, rfl, rfl, ht, _, hck, hlen⟩ := hT hP
  refine at_call tBMake (makeS (by decide)) ?_
  rw [hV]
  have hlen2 : (makeL 3 64 I).length = 2 := by rw [hlen]; unfold cK; rw [hI]; rfl
  rw [hlen2]
  have hI2 : ((I.size : Nat) : Int) = 100 := by rw [hI]; rfl
  rw [hI2] at hck ⊢
  have hsz : szB (((makeL 3 64 I).drop 0).take 2) := fun q hq => by rw [h32 q (List.mem_of_mem_take hq)]; decide
  have htk : ((makeL 3 64 I).drop 0).take 2 = makeL 3 64 I := by rw [List.drop_zero, List.take_of_length_le (by omega)]
  generalize makeL 3 64 I = L at hlen2 hck h32 hsz htk ⊢
  have hv : cntV 3 100 64 h t L = 2 := by unfold cntV; rw [if_pos hck]; rfl
  have hcA : cutA 3 100 64 h t L 1 = 64 := by unfold cutA; rw [hv]; rfl
  have hcZ : cutZ 3 100 64 h t L 1 = 100 := by unfold cutZ; rw [hv]; rfl
  have hlf : leafV 3 100 64 h t L = .tup [.v (.string (leafT 3 100 64 h t)), .v (.int .i64 0)] := if_pos hck
  have hls : ((leafT 3 100 64 h t).size : Int) = 71 := by rw [leafT_size hck.2.2.2.2.2.1 hck.2.2.2.2.2.2.1]; rfl
  simp -implicitDefEqProofs only [go_sem, ↓reduceIte, Nat.reduceEqDiff, Nat.reduceAdd, Nat.reduceMul, Nat.reduceLT, Nat.reduceLeDiff, Nat.reduceSub, Int.reduceToNat, Int.reduceLE, Int.reduceLT, reduceCtorEq, Int.reduceEq, Int.reduceGT, Int.reduceGE, Int.reduceNeg, blA, sp6]
  refine at_call tBCut (cutBS (i := 2) (o := 0) (m := 2) (ss := L) (by rfl) (by omega) (by decide) hsz) ?_
  rw [htk, hcA, hcZ]
  simp -implicitDefEqProofs only [go_sem, ↓reduceIte, Nat.reduceEqDiff, Nat.reduceAdd, Nat.reduceMul, Nat.reduceLT, Nat.reduceLeDiff, Nat.reduceSub, Int.reduceToNat, Int.reduceLE, Int.reduceLT, reduceCtorEq, Int.reduceEq, Int.reduceGT, Int.reduceGE, Int.reduceNeg, blA, sp6]
  refine at_call tBLeaf (leafBS (i := 2) (o := 0) (m := 2) (ss := L) (by rfl) (by omega) (by decide) hsz) ?_
  rw [htk, hlf]
  have g2 : decide (((2 : Nat) : Int) = 2) = true := rfl
  simp -implicitDefEqProofs only [go_sem, ↓reduceIte, Nat.reduceEqDiff, Nat.reduceAdd, Nat.reduceMul, Nat.reduceLT, Nat.reduceLeDiff, Nat.reduceSub, Int.reduceToNat, Int.reduceLE, Int.reduceLT, reduceCtorEq, Int.reduceEq, Int.reduceGT, Int.reduceGE, Int.reduceNeg, blA, sp6, hls, g2]
  refine at_call tBCount (countBS (i := 2) (o := 0) (m := 2) (ss := L) (by rfl) (by omega) (by decide) hsz) ?_
  rw [htk, hv]
  simp -implicitDefEqProofs only [go_sem, ↓reduceIte, Nat.reduceEqDiff, Nat.reduceAdd, Nat.reduceMul, Nat.reduceLT, Nat.reduceLeDiff, Nat.reduceSub, Int.reduceToNat, Int.reduceLE, Int.reduceLT, reduceCtorEq, Int.reduceEq, Int.reduceGT, Int.reduceGE, Int.reduceNeg, blA, sp6]
  exact sub_val rfl (by decide) (by decide) rfl)) rfl
/-- The law of what fits. -/
theorem billFitsW {ver sz ch i : Int} {h t s : ByteArray} {m : Nat} {ss : List ByteArray} (hm : m ≤ ss.length) (hm2 : m ≤ 1048576) (hz : szB ss) :
    fnVC CT mBillFits [blA ver sz ch h t 1 0 m, .v (.int .i64 i), .v (.string s)] ⟨[(1, some ⟨false, .strs ss⟩)], x⟩ 2 fun v H' n' => Sub 2 ⟨[(0, .v (.bool true))], ⟨[], x⟩, 2⟩ ⟨[(0, v)], H', n'⟩ := by
  unfold mBillFits
  have hM1 : min (m : Int) 300 = ((min m 300 : Nat) : Int) := by omega
  simp -implicitDefEqProofs only [↓fnVC, initTm]
  simp -implicitDefEqProofs only [go_sem, ↓reduceIte, Nat.reduceEqDiff, Nat.reduceAdd, Nat.reduceMul, Nat.reduceLT, Nat.reduceLeDiff, Nat.reduceSub, Int.reduceToNat, Int.reduceLE, Int.reduceLT, reduceCtorEq, Int.reduceEq, Int.reduceGT, Int.reduceGE, Int.reduceNeg, blA]
  refine at_call tbills billsS ?_
  simp -implicitDefEqProofs only [go_sem, ↓reduceIte, Nat.reduceEqDiff, Nat.reduceAdd, Nat.reduceMul, Nat.reduceLT, Nat.reduceLeDiff, Nat.reduceSub, Int.reduceToNat, Int.reduceLE, Int.reduceLT, reduceCtorEq, Int.reduceEq, Int.reduceGT, Int.reduceGE, Int.reduceNeg, hM1, sp5]
  generalize hk : min m 300 = k
  have hkm : k ≤ m ∧ k ≤ 300 := by omega
  have g : ∀ z : Int, decide (z = z) = true := fun z => decide_eq_true rfl
  refine ⟨⟨by omega, by omega⟩, ?_⟩
  refine at_call tBFits (fitsS (i := 1) (o := 0) (ss := ss) (by rfl) (by omega) (by omega) (szB_take (szB_drop hz))) ?_
  simp -implicitDefEqProofs only [go_sem, ↓reduceIte, Nat.reduceEqDiff, Nat.reduceAdd, Nat.reduceMul, Nat.reduceLT, Nat.reduceLeDiff, Nat.reduceSub, Int.reduceToNat, Int.reduceLE, Int.reduceLT, reduceCtorEq, Int.reduceEq, Int.reduceGT, Int.reduceGE, Int.reduceNeg, sp5]
  refine at_call trBFits (rfitsS (i := 1) (o := 0) (ss := ss) (by rfl) (by omega) (by omega) (szB_take (szB_drop hz))) ?_
  simp -implicitDefEqProofs only [go_sem, ↓reduceIte, Nat.reduceEqDiff, Nat.reduceAdd, Nat.reduceMul, Nat.reduceLT, Nat.reduceLeDiff, Nat.reduceSub, Int.reduceToNat, Int.reduceLE, Int.reduceLT, reduceCtorEq, Int.reduceEq, Int.reduceGT, Int.reduceGE, Int.reduceNeg, sp5, g]
  refine at_call tBWhole (wholeS (i := 1) (o := 0) (ss := ss) (by rfl) (by omega) (by omega) (szB_take (szB_drop hz))) ?_
  simp -implicitDefEqProofs only [go_sem, ↓reduceIte, Nat.reduceEqDiff, Nat.reduceAdd, Nat.reduceMul, Nat.reduceLT, Nat.reduceLeDiff, Nat.reduceSub, Int.reduceToNat, Int.reduceLE, Int.reduceLT, reduceCtorEq, Int.reduceEq, Int.reduceGT, Int.reduceGE, Int.reduceNeg, sp5]
  refine at_call trBWhole (rwholeS (i := 1) (o := 0) (ss := ss) (by rfl) (by omega) (by omega) (szB_take (szB_drop hz))) ?_
  simp -implicitDefEqProofs only [go_sem, ↓reduceIte, Nat.reduceEqDiff, Nat.reduceAdd, Nat.reduceMul, Nat.reduceLT, Nat.reduceLeDiff, Nat.reduceSub, Int.reduceToNat, Int.reduceLE, Int.reduceLT, reduceCtorEq, Int.reduceEq, Int.reduceGT, Int.reduceGE, Int.reduceNeg, g]
  exact sub_val rfl (by decide) (by decide) rfl
end Go.Sx

/- Bills: one that came in. -/
set_option linter.unusedVariables false
set_option linter.unusedSimpArgs false
set_option maxRecDepth 100000
namespace Go.Sx
open Go.Proofs Go.ChangeShapes Go.WideShapes Go.ChangeAt Go.RowKit
variable {H : Type} {enc : TypeId × Value → H} {W : World}

theorem bill_cells {b0 : Nat} {v : Value} {d : DataW H} {ps : List MemPlace} (hval : Value.okWide Try.prog W .any b0 24 v) (h : DataW.Trod enc Try.prog W 0 (fun _ => true) true 24 v d ps) :
    ∃ (M N C : Int) (kv : Value) (old rt : ByteArray) (y : DataW H) (qs : List MemPlace), v = .agg #[.int .i64 M, .int .i64 N, .int .i64 C, .string old, .string rt, kv] ∧ (Lit.int .i64 M).wf = true ∧ (Lit.int .i64 N).wf = true ∧ (Lit.int .i64 C).wf = true ∧
      Value.okWide Try.prog W .any b0 22 kv ∧ DataW.Trod enc Try.prog W 0 (fun _ => true) true 22 kv y qs ∧ d = .agg [.lit (.int .i64 M), .lit (.int .i64 N), .lit (.int .i64 C), .lit (.string old.data.toList), .lit (.string rt.data.toList), y] := by
  obtain ⟨cs, rfl, hsz⟩ := okWide_struct Try.underlying24 hval
  obtain ⟨fuel, h⟩ := h
  have hcells : (Value.agg cs).cells = cs := rfl
  rw [hcells] at h
  obtain ⟨xs, n, rfl, hx, hl, hxl, hf⟩ := DataW.trod_struct Try.underlying24 h
  have h0 := hf 0 { name := "Version", type := 3, offset := 0, embedded := false, tag := "", pkgPath := "", byteOffset := 0 } rfl
  have h1 := hf 1 { name := "Size", type := 3, offset := 1, embedded := false, tag := "", pkgPath := "", byteOffset := 8 } rfl
  have h2 := hf 2 { name := "Chunk", type := 3, offset := 2, embedded := false, tag := "", pkgPath := "", byteOffset := 16 } rfl
  have h3 := hf 3 { name := "Hash", type := 9, offset := 3, embedded := false, tag := "", pkgPath := "", byteOffset := 24 } rfl
  have h4 := hf 4 { name := "Tree", type := 9, offset := 4, embedded := false, tag := "", pkgPath := "", byteOffset := 40 } rfl
  have h5 := hf 5 { name := "Chunks", type := 22, offset := 5, embedded := false, tag := "", pkgPath := "", byteOffset := 56 } rfl
  have c3 : Try.prog.cellsOf 3 = 1 := by kernel_rfl
  have c9 : Try.prog.cellsOf 9 = 1 := by kernel_rfl
  have c22 : Try.prog.cellsOf 22 = 1 := by kernel_rfl
  have c24 : Try.prog.cellsOf 24 = 6 := by kernel_rfl
  rw [c24] at hl
  obtain ⟨cl, hcl⟩ : ∃ cl, cs.toList = cl := ⟨_, rfl⟩
  rw [hcl] at hl h0 h1 h2 h3 h4 h5
  match cl, hl with
  | [a, b, c, d', e, f], _ =>
    match xs, hxl with
    | [y0, y1, y2, y3, y4, y5], _ =>
      simp only [c3, c9, c22, List.drop_succ_cons, List.drop_zero, List.take_succ_cons, List.take_zero, List.getElem?_cons_succ, List.getElem?_cons_zero] at h0 h1 h2 h3 h4 h5
      obtain ⟨M, e0, rfl, hM⟩ := DataW.trod_int Try.underlying3 h0
      obtain ⟨N, e1, rfl, hN⟩ := DataW.trod_int Try.underlying3 h1
      obtain ⟨C, e2, rfl, hC⟩ := DataW.trod_int Try.underlying3 h2
      obtain ⟨old, e3, rfl, _⟩ := DataW.trod_string Try.underlying9 h3
      obtain ⟨rt, e4, rfl, _⟩ := DataW.trod_string Try.underlying9 h4
      simp only [List.cons.injEq, and_true] at e0 e1 e2 e3 e4
      subst e0; subst e1; subst e2; subst e3; subst e4
      obtain rfl : cs = #[.int .i64 M, .int .i64 N, .int .i64 C, .string old, .string rt, f] := by
        cases cs; simp only at hcl; rw [hcl]
      have hkv : Value.okWide Try.prog W .any b0 22 f := by
        simp only [Value.okWide, Try.underlying24] at hval
        obtain ⟨cs', e, hsz, ts, hts, _, hrow⟩ := hval
        cases e
        have ht : Try.prog.cellTypes Try.prog.depth 24 = some [3, 3, 3, 9, 9, 22] := by kernel_rfl
        rw [ht] at hts
        cases hts
        obtain ⟨u, hu, hc⟩ := hrow 5 f rfl
        cases hu
        simp only [Value.okWide, Try.underlying22]
        exact hc
      obtain ⟨a0, len, cap, rfl⟩ := okWide_slice Try.underlying22 hkv
      have hx1 := (Prod.mk.injEq ..).mp hx
      exact ⟨M, N, C, _, old, rt, y5.1, y5.2, rfl, hM, hN, hC, hkv, ⟨n, h5⟩, hx1.1⟩
end Go.Sx
