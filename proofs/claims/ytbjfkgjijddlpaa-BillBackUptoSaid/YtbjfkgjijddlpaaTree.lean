/- Trees, at this program. -/
import Derived.Test.YtbjfkgjijddlpaaLB
import Derived.Test.YtbjfkgjijddlpaaMir15

set_option linter.unusedVariables false
set_option linter.unusedSimpArgs false
set_option maxRecDepth 100000
namespace Go.Sx
attribute [local go_sem ↓] bind_mk intsB_mk strsB_mk svB_mk fnVC ob_some vc_skip vc_exit vc_ret vc_seq vc_block kSeq_normal kSeq_exit kSeq_ret kBlock_normal kBlock_exit kBlock_ret vc_reg vc_regD vc_cond condK_true condK_false vc_loop kLoop_exit kLoop_ret kRoll_normal kRoll_exit kRoll_ret vcOps_nil vcOps_cons gd_bool gd_undef put_some put_none vcT_fin vcT_pure vcT_act vcT_acts vcT_stop stab_none stab_some stabM_nil stabM_cons stabO_ld stabO_ldn stabO_slP stabO_b2s fldOf_ai fldOf_agg fldOf_ait fldOf_aggt intsOf_nil intsOf_cons strsOf_nil strsOf_cons c_omap ob_if lk_nil lk_cons ev_t ev_k z_mov z_pick z_bin z_binB z_binP z_un z_r2s z_conv z_s2b z_b2s z_alloc z_bld z_bldI z_rowI z_rowS z_ld z_ldn z_st z_stn asN_ptr asN_fn z_nilck z_fld z_fadr z_idxA z_idxP z_idxS z_idxV z_slS z_slL z_slP z_mk z_lenS z_lenL z_app appC_ints appC_pl appC_sv appC_strs isS_strs loose_ints loose_pl loose_sv z_slM z_callv callvK_fn callvK_f callvK_yl vc_rangeF rfEnd_eq rfGo_none rfGo_ret rfGo_exit yGo_mk yEnd_n yEnd_r yEnd_e yRdy_mk yMid_n putPs_nil putPs_cons leaf_v leaf_ptr leaf_sl leaf_yl leaf_mp z_appS z_appZ z_cpyS z_mkfn reps_int reps_str z_rowV z_slnil nilK_zero z_cpy z_call asT_tup z_extT z_box boxOf_ai boxOf_agg boxOf_int boxOf_str boxOf_bool boxOf_ptr boxOf_sl sbin_int sbin_str sbinB_mk sbinP_nn sbinP_pn sbinP_np i_add i_sub i_mul i_quo i_rem i_and i_or i_xor i_andNot i_shl i_shr i_eql i_neq i_lss i_leq i_gtr i_geq st_add st_eql st_neq st_lss st_leq st_gtr st_geq bo_eql bo_neq pt_eql pt_neq un_neg un_xor un_not asI_mk asB_mk asS_mk asP_mk asSl_mk asBy_mk bnd_none bnd_some get_mk hput_mk hdel_mk kill_eq wrOf_eq rowOf_eq rsvs_0 rsvs_1 rsvs_2 rsvs_3 rsv_t rsv_c1 rsv_cn nt_v nt_ptr nt_sl nt_agg nt_ai get_ints get_strs get_pl get_sv getN_ints getN_sv set_ints set_strs set_sv setN_ints setN_sv part_ints part_strs part_sv cat_ints cat_strs cat_sv over_ints over_strs over_sv ones_ints ones_strs evs_nil evs_cons condK_eqt condK_eqf det_callP V_ns V_nn V_gs V_gn obC_mk fresh_ev setN_plagg setN_intsv setN_svai setN_svagg over_intsv set_pl setN_pl setN_plai getN_pl getN_strs part_pl cat_pl over_pl over_plints z_mm
attribute [local go_sem] initTm ne_eq not_true_eq_false not_false_eq_true true_and and_true List.length_cons List.length_nil Int.toNat_natCast Nat.add_zero Nat.zero_add Nat.mul_one List.getElem?_cons_zero List.drop_zero List.take_length List.take_succ_cons List.take_zero List.take_nil List.drop_succ_cons Option.map_some Nat.le_refl implies_true List.getElem?_cons_succ decide_true decide_false Bool.not_true Bool.not_false beq_self_eq_true Nat.succ_ne_self Nat.one_ne_zero Nat.zero_ne_one vk_mk hk_mk nk_mk tok_eq plsOf_map intsOf_map bodyOf_pl bodyOf_ints bodyOf_strs bodyOf_sv part_aggv part_agg part_ai part_int part_str part_bool part_sl part_ptr part_nil numsOf_map u_int u_str u_bool u_pnil u_sl u_ptr u_oci u_ocs evq_nil evq_cons fillS_nil fillS_cons u_ocb ones_pl cells_sv cells_ints cells_strs cells_pl smms_nil smms_cons smm_min smm_max plsOf_nil List.nil_append List.all_cons List.all_nil Bool.and_self Bool.true_and Bool.and_true zws_len zw_len zi_len List.set_cons_zero List.set_cons_succ List.flatMap_cons List.flatMap_nil List.append_nil
open Go.Proofs
/-! Trees: powers of two. -/
variable {H : Hp} {n : Nat} {x : Nat → Option SO}

/-- The greatest power of two below n. -/
def pw (n : Nat) : Nat := 2 ^ Nat.log2 (n - 1)
theorem pw_le {n : Nat} (h : 2 ≤ n) : pw n ≤ n - 1 := Nat.log2_self_le (by omega)
theorem lt_pw {n : Nat} (h : 2 ≤ n) : n - 1 < 2 * pw n := by
  have := Nat.lt_log2_self (n := n - 1)
  rw [Nat.pow_succ] at this; unfold pw; omega
theorem pw_pos {n : Nat} : 1 ≤ pw n := Nat.one_le_two_pow
theorem pw_uniq {n e : Nat} (h1 : 2 ^ e ≤ n - 1) (h2 : n - 1 < 2 * 2 ^ e) : pw n = 2 ^ e := by
  have h0 : n - 1 ≠ 0 := by have := Nat.one_le_two_pow (n := e); omega
  unfold pw
  rw [(Nat.log2_eq_iff h0).2 ⟨h1, by rw [Nat.pow_succ]; omega⟩]
theorem ishr_u {y s : Nat} (hs : s < 64) (hy : y < 18446744073709551616) : ishr .u64 (y : Int) (s : Nat) = ((y / 2 ^ s : Nat) : Int) := by
  unfold ishr
  have hm : min ((s : Nat) : Int).toNat IntKind.u64.bits = s := by show min ((s : Nat) : Int).toNat 64 = s; omega
  rw [hm, Int.fdiv_eq_ediv_of_nonneg _ (Int.le_of_lt (Int.pow_pos (by decide)))]
  push_cast
  rfl
/-! Trees: leaves, nodes, roots. -/
variable {H : Hp} {n : Nat} {x : Nat → Option SO}

theorem powerS {y : Nat} (h0 : 2 ≤ y) (hy : y < 9223372036854775808) : SpecAt Try.prog npower [.v (.int .i64 y)] H n (.v (.int .i64 (pw y : Nat))) H n := lift_pure (okT.spec tpower (by
  unfold mpower
  simp -implicitDefEqProofs only [↓fnVC, initTm]
  simp -implicitDefEqProofs only [go_sem, ↓reduceIte, Nat.reduceEqDiff, Nat.reduceAdd, Nat.reduceMul, Nat.reduceLT, Nat.reduceLeDiff, Nat.reduceSub, Int.reduceToNat, Int.reduceLE, Int.reduceLT, reduceCtorEq, Int.reduceEq, Int.reduceGT, Int.reduceGE, Int.reduceNeg]
  refine loop_fam (fun e : Nat => 2 ^ e ≤ y - 1) (fun e => ⟨[(0, .v (.int .i64 y)), (3, .v (.int .i64 (2 ^ e : Nat)))], ⟨[], H.x⟩, 1⟩) (fun e => y - 2 ^ e) 0 (by simp; omega) ?_ ?_
  · refine sub_mk [] rfl rfl rfl ?_
    simp only [tmSub, hpSub, objSub, eqTm, eqHp, rn, lk, SV.ren, SV.renC, SV.renB, SV.renA, ren_ints, ren_strs, ren_pl, ren_svs, SV.v.injEq, Value.int.injEq, Body.ints.injEq, SV.ptr.injEq, SV.sl.injEq, Value.string.injEq, Value.bool.injEq, List.map_cons, List.map_nil, forall_const, Nat.reduceLT, Nat.lt_add_one, imp_self, true_and, and_true, and_self, ob_some, get_mk, lk_cons, ↓reduceIte, Nat.reduceEqDiff, ne_eq, not_true_eq_false, not_false_eq_true, Nat.one_ne_zero, Nat.zero_ne_one, Nat.succ_ne_self, Nat.reduceAdd, Bool.false_eq_true, false_implies, implies_true, reduceCtorEq]
    simp
  · intro e he
    have hp := Nat.two_pow_pos e
    have e1 : IntKind.i64.wrap ((y : Int) - ((2 ^ e : Nat) : Int)) = ((y - 2 ^ e : Nat) : Int) := by
      generalize 2 ^ e = q at *
      rw [wrap_i64 (by omega) (by omega)]; omega
    simp -implicitDefEqProofs only [go_sem, ↓reduceIte, Nat.reduceEqDiff, Nat.reduceAdd, Nat.reduceMul, Nat.reduceLT, Nat.reduceLeDiff, Nat.reduceSub, Int.reduceToNat, Int.reduceLE, Int.reduceLT, reduceCtorEq, Int.reduceEq, Int.reduceGT, Int.reduceGE, Int.reduceNeg, e1]
    refine condK_bb (fun c => ?_) (fun c => ?_)
    · have c1 := of_decide_eq_true c
      have e2 : IntKind.i64.wrap (2 * ((2 ^ e : Nat) : Int)) = ((2 ^ (e + 1) : Nat) : Int) := by
        rw [Nat.pow_succ]
        generalize 2 ^ e = q at *
        rw [wrap_i64 (by omega) (by omega)]; omega
      simp -implicitDefEqProofs only [go_sem, ↓reduceIte, Nat.reduceEqDiff, Nat.reduceAdd, Nat.reduceMul, Nat.reduceLT, Nat.reduceLeDiff, Nat.reduceSub, Int.reduceToNat, Int.reduceLE, Int.reduceLT, reduceCtorEq, Int.reduceEq, Int.reduceGT, Int.reduceGE, Int.reduceNeg, c, e2]
      refine kLoop_mk (e + 1) (by rw [Nat.pow_succ]; generalize 2 ^ e = q at *; omega) (by rw [Nat.pow_succ]; generalize 2 ^ e = q at *; omega) ?_
      refine sub_mk [] rfl rfl rfl ?_
      simp only [tmSub, hpSub, objSub, eqTm, eqHp, rn, lk, SV.ren, SV.renC, SV.renB, SV.renA, ren_ints, ren_strs, ren_pl, ren_svs, SV.v.injEq, Value.int.injEq, Body.ints.injEq, SV.ptr.injEq, SV.sl.injEq, Value.string.injEq, Value.bool.injEq, List.map_cons, List.map_nil, forall_const, Nat.reduceLT, Nat.lt_add_one, imp_self, true_and, and_true, and_self, ob_some, get_mk, lk_cons, ↓reduceIte, Nat.reduceEqDiff, ne_eq, not_true_eq_false, not_false_eq_true, Nat.one_ne_zero, Nat.zero_ne_one, Nat.succ_ne_self, Nat.reduceAdd, Bool.false_eq_true, false_implies, implies_true, reduceCtorEq, e2]
    · have c1 := of_decide_eq_false c
      simp -implicitDefEqProofs only [go_sem, ↓reduceIte, Nat.reduceEqDiff, Nat.reduceAdd, Nat.reduceMul, Nat.reduceLT, Nat.reduceLeDiff, Nat.reduceSub, Int.reduceToNat, Int.reduceLE, Int.reduceLT, reduceCtorEq, Int.reduceEq, Int.reduceGT, Int.reduceGE, Int.reduceNeg, c]
      refine sub_val rfl (by decide) (by decide) ?_
      rw [pw_uniq (e := e) he (by generalize 2 ^ e = q at *; omega)])) rfl
/-! ### The hash of a list -/
def ndB (a b : ByteArray) : List Int := 1 :: (bts a ++ bts b)
def nd (a b : ByteArray) : ByteArray := sha (ndB a b)
def lf (s : ByteArray) : ByteArray := sha (0 :: bts s)
def root (l : List ByteArray) : ByteArray :=
  if h : 2 ≤ l.length then nd (root (l.take (pw l.length))) (root (l.drop (pw l.length))) else match l with | [] => sha [] | a :: _ => a
termination_by l.length
decreasing_by
  · have := pw_le h; rw [List.length_take]; omega
  · have := pw_pos (n := l.length); rw [List.length_drop]; omega
theorem root_nil : root [] = sha [] := by rw [root, dif_neg (by decide)]
theorem root_one {a : ByteArray} : root [a] = a := by rw [root, dif_neg (by simp)]
theorem root_step {l : List ByteArray} (h : 2 ≤ l.length) : root l = nd (root (l.take (pw l.length))) (root (l.drop (pw l.length))) := by rw [root, dif_pos h]
abbrev szB (l : List ByteArray) : Prop := ∀ s ∈ l, s.size ≤ 536870000
theorem nd_size {a b : ByteArray} : (nd a b).size = 32 := sha_size _
theorem root_size {l : List ByteArray} (h : szB l) : (root l).size ≤ 536870000 := by
  by_cases h2 : 2 ≤ l.length
  · rw [root_step h2, nd_size]; decide
  · match l, h with
    | [], _ => rw [root_nil, sha_size]; decide
    | [a], h => rw [root_one]; exact h a (by simp)
    | _ :: _ :: _, _ => simp at h2
theorem szB_take {l : List ByteArray} {k : Nat} (h : szB l) : szB (l.take k) := fun s hs => h s (List.mem_of_mem_take hs)
theorem szB_drop {l : List ByteArray} {k : Nat} (h : szB l) : szB (l.drop k) := fun s hs => h s (List.mem_of_mem_drop hs)
theorem catb_lf (s : ByteArray) : catb [⟨#[0]⟩, s] = 0 :: bts s := by simp [catb, bts]
theorem catb_nd (a b : ByteArray) : catb [⟨#[1]⟩, a, b] = ndB a b := by simp [catb, bts, ndB]
theorem leafS {s : ByteArray} (hs : s.size ≤ 1073741820) : SpecAt Try.prog nLeaf [.v (.string s)] H n (.v (.string (lf s))) H n := lift_pure (okT.spec tLeaf (by
  unfold mLeaf
  simp -implicitDefEqProofs only [↓fnVC, initTm]
  simp -implicitDefEqProofs only [go_sem, ↓reduceIte, Nat.reduceEqDiff, Nat.reduceAdd, Nat.reduceMul, Nat.reduceLT, Nat.reduceLeDiff, Nat.reduceSub, Int.reduceToNat, Int.reduceLE, Int.reduceLT, reduceCtorEq, Int.reduceEq, Int.reduceGT, Int.reduceGE, Int.reduceNeg]
  refine at_call t9 (sumS (ss := [⟨#[0]⟩, s]) (o := 0) (m := 2) rfl (by show 0 + 2 ≤ 2; decide) (by decide) (by show (catb [⟨#[0]⟩, s]).length ≤ _; rw [catb_lf, List.length_cons, bts_len]; omega)) ?_
  have h0 : sha (catb [⟨#[0]⟩, s]) = lf s := by rw [catb_lf]; rfl
  simp -implicitDefEqProofs only [go_sem, ↓reduceIte, Nat.reduceEqDiff, Nat.reduceAdd, Nat.reduceMul, Nat.reduceLT, Nat.reduceLeDiff, Nat.reduceSub, Int.reduceToNat, Int.reduceLE, Int.reduceLT, reduceCtorEq, Int.reduceEq, Int.reduceGT, Int.reduceGE, Int.reduceNeg, h0]
  exact sub_val rfl (by decide) (by decide) rfl)) rfl
theorem rleafS {s : ByteArray} (hs : s.size ≤ 1073741820) : SpecAt Try.prog nrefLeaf [.v (.string s)] H n (.v (.string (lf s))) H n := lift_pure (okT.spec trefLeaf (by
  unfold mrefLeaf
  simp -implicitDefEqProofs only [↓fnVC, initTm]
  simp -implicitDefEqProofs only [go_sem, ↓reduceIte, Nat.reduceEqDiff, Nat.reduceAdd, Nat.reduceMul, Nat.reduceLT, Nat.reduceLeDiff, Nat.reduceSub, Int.reduceToNat, Int.reduceLE, Int.reduceLT, reduceCtorEq, Int.reduceEq, Int.reduceGT, Int.reduceGE, Int.reduceNeg]
  refine at_call t11 (rsumS (ss := [⟨#[0]⟩, s]) (o := 0) (m := 2) rfl (by show 0 + 2 ≤ 2; decide) (by decide) (by show (catb [⟨#[0]⟩, s]).length ≤ _; rw [catb_lf, List.length_cons, bts_len]; omega)) ?_
  have h0 : sha (catb [⟨#[0]⟩, s]) = lf s := by rw [catb_lf]; rfl
  simp -implicitDefEqProofs only [go_sem, ↓reduceIte, Nat.reduceEqDiff, Nat.reduceAdd, Nat.reduceMul, Nat.reduceLT, Nat.reduceLeDiff, Nat.reduceSub, Int.reduceToNat, Int.reduceLE, Int.reduceLT, reduceCtorEq, Int.reduceEq, Int.reduceGT, Int.reduceGE, Int.reduceNeg, h0]
  exact sub_val rfl (by decide) (by decide) rfl)) rfl
theorem nodeS {a b : ByteArray} (ha : a.size ≤ 536870000) (hb : b.size ≤ 536870000) : SpecAt Try.prog nNode [.v (.string a), .v (.string b)] H n (.v (.string (nd a b))) H n := lift_pure (okT.spec tNode (by
  unfold mNode
  simp -implicitDefEqProofs only [↓fnVC, initTm]
  simp -implicitDefEqProofs only [go_sem, ↓reduceIte, Nat.reduceEqDiff, Nat.reduceAdd, Nat.reduceMul, Nat.reduceLT, Nat.reduceLeDiff, Nat.reduceSub, Int.reduceToNat, Int.reduceLE, Int.reduceLT, reduceCtorEq, Int.reduceEq, Int.reduceGT, Int.reduceGE, Int.reduceNeg]
  refine at_call t9 (sumS (ss := [⟨#[1]⟩, a, b]) (o := 0) (m := 3) rfl (by show 0 + 3 ≤ 3; decide) (by decide) (by show (catb [⟨#[1]⟩, a, b]).length ≤ _; rw [catb_nd, ndB, List.length_cons, List.length_append, bts_len, bts_len]; omega)) ?_
  have h0 : sha (catb [⟨#[1]⟩, a, b]) = nd a b := by rw [catb_nd]; rfl
  simp -implicitDefEqProofs only [go_sem, ↓reduceIte, Nat.reduceEqDiff, Nat.reduceAdd, Nat.reduceMul, Nat.reduceLT, Nat.reduceLeDiff, Nat.reduceSub, Int.reduceToNat, Int.reduceLE, Int.reduceLT, reduceCtorEq, Int.reduceEq, Int.reduceGT, Int.reduceGE, Int.reduceNeg, h0]
  exact sub_val rfl (by decide) (by decide) rfl)) rfl
theorem rnodeS {a b : ByteArray} (ha : a.size ≤ 536870000) (hb : b.size ≤ 536870000) : SpecAt Try.prog nrefNode [.v (.string a), .v (.string b)] H n (.v (.string (nd a b))) H n := lift_pure (okT.spec trefNode (by
  unfold mrefNode
  simp -implicitDefEqProofs only [↓fnVC, initTm]
  simp -implicitDefEqProofs only [go_sem, ↓reduceIte, Nat.reduceEqDiff, Nat.reduceAdd, Nat.reduceMul, Nat.reduceLT, Nat.reduceLeDiff, Nat.reduceSub, Int.reduceToNat, Int.reduceLE, Int.reduceLT, reduceCtorEq, Int.reduceEq, Int.reduceGT, Int.reduceGE, Int.reduceNeg]
  refine at_call t11 (rsumS (ss := [⟨#[1]⟩, a, b]) (o := 0) (m := 3) rfl (by show 0 + 3 ≤ 3; decide) (by decide) (by show (catb [⟨#[1]⟩, a, b]).length ≤ _; rw [catb_nd, ndB, List.length_cons, List.length_append, bts_len, bts_len]; omega)) ?_
  have h0 : sha (catb [⟨#[1]⟩, a, b]) = nd a b := by rw [catb_nd]; rfl
  simp -implicitDefEqProofs only [go_sem, ↓reduceIte, Nat.reduceEqDiff, Nat.reduceAdd, Nat.reduceMul, Nat.reduceLT, Nat.reduceLeDiff, Nat.reduceSub, Int.reduceToNat, Int.reduceLE, Int.reduceLT, reduceCtorEq, Int.reduceEq, Int.reduceGT, Int.reduceGE, Int.reduceNeg, h0]
  exact sub_val rfl (by decide) (by decide) rfl)) rfl
theorem take_drop_take {l : List ByteArray} {o m k : Nat} (h : k ≤ m) : ((l.drop o).take m).take k = (l.drop o).take k := by rw [List.take_take, Nat.min_eq_left h]
theorem drop_drop_take {l : List ByteArray} {o m k : Nat} : ((l.drop o).take m).drop k = (l.drop (o + k)).take (m - k) := by rw [List.drop_take, List.drop_drop]
theorem seg_len {l : List ByteArray} {o m : Nat} (h : o + m ≤ l.length) : ((l.drop o).take m).length = m := by rw [List.length_take, List.length_drop]; omega
/-- The document's root, by its recursion. -/
theorem rrootS : ∀ {m i o : Nat} {ss : List ByteArray} {H : Hp} {n : Nat}, rowAt H i (.strs []) = some (.strs ss) → o + m ≤ ss.length → m ≤ 1099511627776 → szB ((ss.drop o).take m) →
    SpecAt Try.prog nrefRoot [.sl i o m 1] H n (.v (.string (root ((ss.drop o).take m)))) H n := by
  intro m
  induction m using Nat.strongRecOn with
  | _ m ih =>
    intro i o ss H n hr hom hm hsz
    refine lift_read (pre := []) hr ⟨rfl, fun _ h => (by cases h)⟩ (fun _ => rfl) rfl ?_
    show SpecAt Try.prog nrefRoot [.sl 1 o m 1] ⟨[(1, some ⟨false, .strs ss⟩)], H.x⟩ 2 (.v (.string (root ((ss.drop o).take m)))) ⟨[], H.x⟩ 2
    refine okT.spec trefRoot ?_
    have hl := seg_len hom
    unfold mrefRoot
    simp -implicitDefEqProofs only [↓fnVC, initTm]
    simp -implicitDefEqProofs only [go_sem, ↓reduceIte, Nat.reduceEqDiff, Nat.reduceAdd, Nat.reduceMul, Nat.reduceLT, Nat.reduceLeDiff, Nat.reduceSub, Int.reduceToNat, Int.reduceLE, Int.reduceLT, reduceCtorEq, Int.reduceEq, Int.reduceGT, Int.reduceGE, Int.reduceNeg]
    refine condK_bb (fun c => ?_) (fun c => ?_)
    · have c1 : m = 0 := by have := of_decide_eq_true c; omega
      subst c1
      simp -implicitDefEqProofs only [go_sem, ↓reduceIte, Nat.reduceEqDiff, Nat.reduceAdd, Nat.reduceMul, Nat.reduceLT, Nat.reduceLeDiff, Nat.reduceSub, Int.reduceToNat, Int.reduceLE, Int.reduceLT, reduceCtorEq, Int.reduceEq, Int.reduceGT, Int.reduceGE, Int.reduceNeg, c]
      refine at_call t11 (rsumS (ss := []) (o := 0) (m := 0) rfl (by decide) (by decide) (by decide)) ?_
      simp -implicitDefEqProofs only [go_sem, ↓reduceIte, Nat.reduceEqDiff, Nat.reduceAdd, Nat.reduceMul, Nat.reduceLT, Nat.reduceLeDiff, Nat.reduceSub, Int.reduceToNat, Int.reduceLE, Int.reduceLT, reduceCtorEq, Int.reduceEq, Int.reduceGT, Int.reduceGE, Int.reduceNeg]
      refine sub_val rfl (by decide) (by decide) ?_
      rw [root_nil]; rfl
    · have c1 : m ≠ 0 := by have := of_decide_eq_false c; omega
      simp -implicitDefEqProofs only [go_sem, ↓reduceIte, Nat.reduceEqDiff, Nat.reduceAdd, Nat.reduceMul, Nat.reduceLT, Nat.reduceLeDiff, Nat.reduceSub, Int.reduceToNat, Int.reduceLE, Int.reduceLT, reduceCtorEq, Int.reduceEq, Int.reduceGT, Int.reduceGE, Int.reduceNeg, c]
      refine condK_bb (fun d => ?_) (fun d => ?_)
      · have d1 : m = 1 := by have := of_decide_eq_true d; omega
        subst d1
        simp -implicitDefEqProofs only [go_sem, ↓reduceIte, Nat.reduceEqDiff, Nat.reduceAdd, Nat.reduceMul, Nat.reduceLT, Nat.reduceLeDiff, Nat.reduceSub, Int.reduceToNat, Int.reduceLE, Int.reduceLT, reduceCtorEq, Int.reduceEq, Int.reduceGT, Int.reduceGE, Int.reduceNeg, d]
        refine ⟨by decide, by omega, ?_⟩
        refine sub_val rfl (by decide) (by decide) ?_
        have e1 : (ss.drop o).take 1 = [ss.getD o ByteArray.empty] := by
          rw [List.drop_eq_getElem_cons (by omega : o < ss.length), List.take_succ_cons, List.take_zero, List.getD_eq_getElem?_getD, List.getElem?_eq_getElem (by omega)]; rfl
        rw [e1, root_one]
      · have d1 : 2 ≤ m := by have := of_decide_eq_false d; omega
        have hp := pw_le d1
        have hp1 := pw_pos (n := m)
        simp -implicitDefEqProofs only [go_sem, ↓reduceIte, Nat.reduceEqDiff, Nat.reduceAdd, Nat.reduceMul, Nat.reduceLT, Nat.reduceLeDiff, Nat.reduceSub, Int.reduceToNat, Int.reduceLE, Int.reduceLT, reduceCtorEq, Int.reduceEq, Int.reduceGT, Int.reduceGE, Int.reduceNeg, d]
        refine at_call tpower (powerS d1 (by omega)) ?_
        have z1 : szB ((ss.drop o).take (pw m)) := take_drop_take (show pw m ≤ m by omega) ▸ szB_take hsz
        have z2 : szB ((ss.drop (o + pw m)).take (m - pw m)) := drop_drop_take ▸ szB_drop hsz
        have e0 : root ((ss.drop o).take m) = nd (root ((ss.drop o).take (pw m))) (root ((ss.drop (o + pw m)).take (m - pw m))) := by
          rw [root_step (by rw [hl]; exact d1), hl, take_drop_take (by omega), drop_drop_take]
        simp -implicitDefEqProofs only [go_sem, ↓reduceIte, Nat.reduceEqDiff, Nat.reduceAdd, Nat.reduceMul, Nat.reduceLT, Nat.reduceLeDiff, Nat.reduceSub, Int.reduceToNat, Int.reduceLE, Int.reduceLT, reduceCtorEq, Int.reduceEq, Int.reduceGT, Int.reduceGE, Int.reduceNeg]
        refine ⟨⟨by omega, by omega⟩, ⟨by omega, by omega, by omega⟩, ?_⟩
        refine at_call trefRoot (ih (pw m) (by omega) (i := 1) (o := o) (ss := ss) (by rfl) (by omega) (by omega) z1) ?_
        simp -implicitDefEqProofs only [go_sem, ↓reduceIte, Nat.reduceEqDiff, Nat.reduceAdd, Nat.reduceMul, Nat.reduceLT, Nat.reduceLeDiff, Nat.reduceSub, Int.reduceToNat, Int.reduceLE, Int.reduceLT, reduceCtorEq, Int.reduceEq, Int.reduceGT, Int.reduceGE, Int.reduceNeg]
        refine at_call trefRoot (ih (m - pw m) (by omega) (i := 1) (o := o + pw m) (ss := ss) (by rfl) (by omega) (by omega) z2) ?_
        simp -implicitDefEqProofs only [go_sem, ↓reduceIte, Nat.reduceEqDiff, Nat.reduceAdd, Nat.reduceMul, Nat.reduceLT, Nat.reduceLeDiff, Nat.reduceSub, Int.reduceToNat, Int.reduceLE, Int.reduceLT, reduceCtorEq, Int.reduceEq, Int.reduceGT, Int.reduceGE, Int.reduceNeg]
        refine at_call trefNode (rnodeS (root_size z1) (root_size z2)) ?_
        simp -implicitDefEqProofs only [go_sem, ↓reduceIte, Nat.reduceEqDiff, Nat.reduceAdd, Nat.reduceMul, Nat.reduceLT, Nat.reduceLeDiff, Nat.reduceSub, Int.reduceToNat, Int.reduceLE, Int.reduceLT, reduceCtorEq, Int.reduceEq, Int.reduceGT, Int.reduceGE, Int.reduceNeg]
        exact sub_val rfl (by decide) (by decide) (by rw [e0])
/-! Trees: the program's root, row by row. -/
variable {H : Hp} {n : Nat} {x : Nat → Option SO}

/-- The row above. -/
def pairs : List ByteArray → List ByteArray
  | a :: b :: l => nd a b :: pairs l
  | l => l
theorem pairs_len : ∀ l : List ByteArray, (pairs l).length = (l.length + 1) / 2
  | [] => rfl
  | [_] => by simp [pairs]
  | a :: b :: l => by simp only [pairs, List.length_cons, pairs_len l]; omega
theorem pairs_get : ∀ (l : List ByteArray) (j : Nat), 2 * j + 1 < l.length → (pairs l)[j]? = some (nd (l.getD (2 * j) .empty) (l.getD (2 * j + 1) .empty))
  | a :: b :: l, 0, _ => rfl
  | a :: b :: l, j + 1, h => by
    have := pairs_get l j (by simp at h; omega)
    rw [pairs, List.getElem?_cons_succ, this]
    rfl
  | [], j, h => by simp at h
  | [_], j, h => by simp at h
theorem pairs_last : ∀ (l : List ByteArray) (j : Nat), 2 * j + 1 = l.length → (pairs l)[j]? = some (l.getD (2 * j) .empty)
  | [a], 0, _ => rfl
  | a :: b :: l, j + 1, h => by
    have := pairs_last l j (by simp at h; omega)
    rw [pairs, List.getElem?_cons_succ, this]
    rfl
  | a :: b :: l, 0, h => by simp at h
  | [], j, h => by simp at h
  | [_], j + 1, h => by simp at h
theorem pairs_szB : ∀ {l : List ByteArray}, szB l → szB (pairs l)
  | [], h => h
  | [_], h => h
  | a :: b :: l, h => by
    have ih := pairs_szB (l := l) fun s hs => h s (by simp [hs])
    intro s hs
    rw [pairs, List.mem_cons] at hs
    rcases hs with rfl | hs
    · rw [nd_size]; decide
    · exact ih s hs
theorem pairs_app : ∀ (l r : List ByteArray), l.length % 2 = 0 → pairs (l ++ r) = pairs l ++ pairs r
  | [], r, _ => rfl
  | [_], r, h => by simp at h
  | a :: b :: l, r, h => by
    have := pairs_app l r (by simp at h; omega)
    simp only [List.cons_append, pairs, this]
theorem pw_two : pw 2 = 1 := by decide
theorem pw_half {n : Nat} (h : 3 ≤ n) : pw n = 2 * pw ((n + 1) / 2) := by
  have h1 := pw_le (n := (n + 1) / 2) (by omega)
  have h2 := lt_pw (n := (n + 1) / 2) (by omega)
  have h3 : pw ((n + 1) / 2) = 2 ^ Nat.log2 ((n + 1) / 2 - 1) := rfl
  rw [h3] at h1 h2 ⊢
  rw [pw_uniq (e := Nat.log2 ((n + 1) / 2 - 1) + 1) (by rw [Nat.pow_succ]; omega) (by rw [Nat.pow_succ]; omega), Nat.pow_succ]; omega
theorem root_pairs : ∀ {k : Nat} {l : List ByteArray}, l.length = k → root (pairs l) = root l := by
  intro k
  induction k using Nat.strongRecOn with
  | _ k ih =>
    intro l hl
    match l, hl with
    | [], _ => rfl
    | [_], _ => rfl
    | [a, b], _ =>
      rw [root_step (l := [a, b]) (Nat.le_refl 2)]
      show root [nd a b] = nd (root (List.take (pw 2) [a, b])) (root (List.drop (pw 2) [a, b]))
      rw [pw_two, List.take_succ_cons, List.take_zero, List.drop_succ_cons, List.drop_zero, root_one, root_one, root_one]
    | a :: b :: c :: r, hl =>
      have h3 : 3 ≤ (a :: b :: c :: r).length := by simp
      generalize a :: b :: c :: r = l at hl h3
      have hh := pw_half h3
      have hp := pw_le (n := l.length) (by omega)
      have hq := pw_pos (n := (l.length + 1) / 2)
      have e1 : pairs l = pairs (l.take (pw l.length)) ++ pairs (l.drop (pw l.length)) := by
        conv => lhs; rw [← List.take_append_drop (pw l.length) l]
        exact pairs_app _ _ (by rw [List.length_take]; omega)
      have e2 : (pairs (l.take (pw l.length))).length = pw ((l.length + 1) / 2) := by rw [pairs_len, List.length_take]; omega
      rw [root_step (l := l) (by omega), root_step (l := pairs l) (by rw [pairs_len]; omega), pairs_len, ← e2, e1, List.take_left, List.drop_left, ih (pw l.length) (by omega) (l := l.take (pw l.length)) (by rw [List.length_take]; omega), ih (l.length - pw l.length) (by omega) (l := l.drop (pw l.length)) (by rw [List.length_drop])]
theorem nilK_of {i m : Nat} {T S : Prop} {s : SO} (hi : i ≠ 0) (hg : H.get i = some s) (hT : m = 0 → s.b.cells = [] → T) (hS : S) : nilK H i m T S := by
  unfold nilK
  rw [if_neg hi, hg]
  exact ⟨hT, hS⟩
theorem cloneS {o m : Nat} {ss : List ByteArray} (h0 : 0 < m) (hom : o + m ≤ ss.length) (hm : m ≤ 1099511627776) :
    fnVC CT mCloneS [.sl 1 o m 1] ⟨[(1, some ⟨false, .strs ss⟩)], x⟩ 2 fun v H' n' => Sub 2 ⟨[(0, .sl 2 0 m 1)], ⟨[(2, some ⟨true, .strs ((ss.drop o).take m)⟩)], x⟩, 3⟩ ⟨[(0, v)], H', n'⟩ := by
  unfold mCloneS
  simp -implicitDefEqProofs only [↓fnVC, initTm]
  simp -implicitDefEqProofs only [go_sem, ↓reduceIte, Nat.reduceEqDiff, Nat.reduceAdd, Nat.reduceMul, Nat.reduceLT, Nat.reduceLeDiff, Nat.reduceSub, Int.reduceToNat, Int.reduceLE, Int.reduceLT, reduceCtorEq, Int.reduceEq, Int.reduceGT, Int.reduceGE, Int.reduceNeg]
  refine nilK_of (by decide) rfl (fun h => by omega) ?_
  simp -implicitDefEqProofs only [go_sem, ↓reduceIte, Nat.reduceEqDiff, Nat.reduceAdd, Nat.reduceMul, Nat.reduceLT, Nat.reduceLeDiff, Nat.reduceSub, Int.reduceToNat, Int.reduceLE, Int.reduceLT, reduceCtorEq, Int.reduceEq, Int.reduceGT, Int.reduceGE, Int.reduceNeg]
  refine ⟨by omega, by omega, hom, app_kill ?_⟩
  simp -implicitDefEqProofs only [go_sem, ↓reduceIte, Nat.reduceEqDiff, Nat.reduceAdd, Nat.reduceMul, Nat.reduceLT, Nat.reduceLeDiff, Nat.reduceSub, Int.reduceToNat, Int.reduceLE, Int.reduceLT, reduceCtorEq, Int.reduceEq, Int.reduceGT, Int.reduceGE, Int.reduceNeg]
  refine sub_mk [(2, 3)] rfl rfl rfl ?_
  simp only [tmSub, hpSub, objSub, eqTm, eqHp, rn, lk, SV.ren, SV.renC, SV.renB, SV.renA, ren_ints, ren_strs, ren_pl, ren_svs, SV.v.injEq, Value.int.injEq, Body.ints.injEq, SV.ptr.injEq, SV.sl.injEq, Value.string.injEq, Value.bool.injEq, List.map_cons, List.map_nil, forall_const, Nat.reduceLT, Nat.lt_add_one, imp_self, true_and, and_true, and_self, ob_some, get_mk, lk_cons, ↓reduceIte, Nat.reduceEqDiff, ne_eq, not_true_eq_false, not_false_eq_true, Nat.one_ne_zero, Nat.zero_ne_one, Nat.succ_ne_self, Nat.reduceAdd, Bool.false_eq_true, false_implies, implies_true, reduceCtorEq]
def rowj (l row : List ByteArray) (j : Nat) : List ByteArray := (pairs l).take j ++ row.drop j
theorem rowj_take {l row : List ByteArray} {j : Nat} (h : j ≤ (pairs l).length) : (rowj l row j).take j = (pairs l).take j := by
  have h1 : ((pairs l).take j).length = j := by rw [List.length_take]; omega
  unfold rowj
  rw [List.take_append_of_le_length (by omega), List.take_of_length_le (by omega)]
theorem rowj_get {row : List ByteArray} {c j t : Nat} (hj : j ≤ t) (hjc : j ≤ (c + 1) / 2) (ht : t < c) (hc : c ≤ row.length) : (rowj (row.take c) row j).getD t .empty = (row.take c).getD t .empty := by
  have h1 : ((pairs (row.take c)).take j).length = j := by rw [List.length_take, pairs_len, List.length_take]; omega
  unfold rowj
  rw [List.getD_eq_getElem?_getD, List.getD_eq_getElem?_getD, List.getElem?_append_right (by omega), h1, List.getElem?_drop, List.getElem?_take, if_pos ht, show j + (t - j) = t by omega]
theorem rowj_step {l row : List ByteArray} {j : Nat} {v : ByteArray} (h : (pairs l)[j]? = some v) : splice (rowj l row j) j [v] = rowj l row (j + 1) := by
  have hj : j < (pairs l).length := (List.getElem?_eq_some_iff.1 h).1
  have h1 : ((pairs l).take j).length = j := by rw [List.length_take]; omega
  unfold splice
  rw [rowj_take (by omega)]
  unfold rowj
  rw [List.take_add_one, h, List.drop_append, h1, List.drop_eq_nil_of_le (by rw [h1]; simp), List.drop_drop]
  simp only [List.length_singleton, List.nil_append, Option.toList_some, show j + (j + 1 - j) = j + 1 by omega]
theorem rootW {o m : Nat} {ss : List ByteArray} (hom : o + m ≤ ss.length) (hm : m ≤ 1099511627776) (hsz : szB ((ss.drop o).take m)) :
    fnVC CT mRoot [.sl 1 o m 1] ⟨[(1, some ⟨false, .strs ss⟩)], x⟩ 2 fun v H' n' => Sub 2 ⟨[(0, .v (.string (root ((ss.drop o).take m))))], ⟨[], x⟩, 2⟩ ⟨[(0, v)], H', n'⟩ := by
  unfold mRoot
  have hl := seg_len hom
  simp -implicitDefEqProofs only [↓fnVC, initTm]
  simp -implicitDefEqProofs only [go_sem, ↓reduceIte, Nat.reduceEqDiff, Nat.reduceAdd, Nat.reduceMul, Nat.reduceLT, Nat.reduceLeDiff, Nat.reduceSub, Int.reduceToNat, Int.reduceLE, Int.reduceLT, reduceCtorEq, Int.reduceEq, Int.reduceGT, Int.reduceGE, Int.reduceNeg]
  refine condK_bb (fun c => ?_) (fun c => ?_)
  · have c1 : m = 0 := by have := of_decide_eq_true c; omega
    subst c1
    simp -implicitDefEqProofs only [go_sem, ↓reduceIte, Nat.reduceEqDiff, Nat.reduceAdd, Nat.reduceMul, Nat.reduceLT, Nat.reduceLeDiff, Nat.reduceSub, Int.reduceToNat, Int.reduceLE, Int.reduceLT, reduceCtorEq, Int.reduceEq, Int.reduceGT, Int.reduceGE, Int.reduceNeg, c]
    refine at_call t9 (sumS (ss := []) (o := 0) (m := 0) rfl (by decide) (by decide) (by decide)) ?_
    simp -implicitDefEqProofs only [go_sem, ↓reduceIte, Nat.reduceEqDiff, Nat.reduceAdd, Nat.reduceMul, Nat.reduceLT, Nat.reduceLeDiff, Nat.reduceSub, Int.reduceToNat, Int.reduceLE, Int.reduceLT, reduceCtorEq, Int.reduceEq, Int.reduceGT, Int.reduceGE, Int.reduceNeg]
    refine sub_val rfl (by decide) (by decide) ?_
    rw [root_nil]; rfl
  · have c1 : m ≠ 0 := by have := of_decide_eq_false c; omega
    simp -implicitDefEqProofs only [go_sem, ↓reduceIte, Nat.reduceEqDiff, Nat.reduceAdd, Nat.reduceMul, Nat.reduceLT, Nat.reduceLeDiff, Nat.reduceSub, Int.reduceToNat, Int.reduceLE, Int.reduceLT, reduceCtorEq, Int.reduceEq, Int.reduceGT, Int.reduceGE, Int.reduceNeg, c]
    refine in_call mixT tCloneS ?_
    unfold mCloneS
    simp -implicitDefEqProofs only [↓fnVC, initTm]
    simp -implicitDefEqProofs only [go_sem, ↓reduceIte, Nat.reduceEqDiff, Nat.reduceAdd, Nat.reduceMul, Nat.reduceLT, Nat.reduceLeDiff, Nat.reduceSub, Int.reduceToNat, Int.reduceLE, Int.reduceLT, reduceCtorEq, Int.reduceEq, Int.reduceGT, Int.reduceGE, Int.reduceNeg]
    refine nilK_of (by decide) rfl (fun h => by omega) ?_
    simp -implicitDefEqProofs only [go_sem, ↓reduceIte, Nat.reduceEqDiff, Nat.reduceAdd, Nat.reduceMul, Nat.reduceLT, Nat.reduceLeDiff, Nat.reduceSub, Int.reduceToNat, Int.reduceLE, Int.reduceLT, reduceCtorEq, Int.reduceEq, Int.reduceGT, Int.reduceGE, Int.reduceNeg]
    refine ⟨by omega, by omega, hom, app_kill ?_⟩
    simp -implicitDefEqProofs only [go_sem, ↓reduceIte, Nat.reduceEqDiff, Nat.reduceAdd, Nat.reduceMul, Nat.reduceLT, Nat.reduceLeDiff, Nat.reduceSub, Int.reduceToNat, Int.reduceLE, Int.reduceLT, reduceCtorEq, Int.reduceEq, Int.reduceGT, Int.reduceGE, Int.reduceNeg]
    generalize (ss.drop o).take m = l0 at hl hsz ⊢
    refine loop_fam (fun (p : Nat × List ByteArray) => 1 ≤ p.1 ∧ p.1 ≤ m ∧ p.1 ≤ p.2.length ∧ szB (p.2.take p.1) ∧ root (p.2.take p.1) = root l0)
      (fun p => ⟨[(0, .sl 2 0 p.1 1)], ⟨[(2, some ⟨true, .strs p.2⟩)], x⟩, 3⟩) (fun p => p.1) (m, l0) ⟨by omega, Nat.le_refl _, by show m ≤ l0.length; omega, by show szB (l0.take m); rw [List.take_of_length_le (by omega)]; exact hsz, by show root (l0.take m) = _; rw [List.take_of_length_le (by omega)]⟩ ?_ ?_
    · refine sub_mk [(2, 3)] rfl rfl rfl ?_
      simp only [tmSub, hpSub, objSub, eqTm, eqHp, rn, lk, SV.ren, SV.renC, SV.renB, SV.renA, ren_ints, ren_strs, ren_pl, ren_svs, SV.v.injEq, Value.int.injEq, Body.ints.injEq, SV.ptr.injEq, SV.sl.injEq, Value.string.injEq, Value.bool.injEq, List.map_cons, List.map_nil, forall_const, Nat.reduceLT, Nat.lt_add_one, imp_self, true_and, and_true, and_self, ob_some, get_mk, lk_cons, ↓reduceIte, Nat.reduceEqDiff, ne_eq, not_true_eq_false, not_false_eq_true, Nat.one_ne_zero, Nat.zero_ne_one, Nat.succ_ne_self, Nat.reduceAdd, Bool.false_eq_true, false_implies, implies_true, reduceCtorEq]
    · rintro ⟨c, row⟩ ⟨hc1, hcm, hcl, hcz, hcr⟩
      simp only at hc1 hcm hcl hcz hcr
      simp -implicitDefEqProofs only [go_sem, ↓reduceIte, Nat.reduceEqDiff, Nat.reduceAdd, Nat.reduceMul, Nat.reduceLT, Nat.reduceLeDiff, Nat.reduceSub, Int.reduceToNat, Int.reduceLE, Int.reduceLT, reduceCtorEq, Int.reduceEq, Int.reduceGT, Int.reduceGE, Int.reduceNeg]
      refine condK_bb (fun d => ?_) (fun d => ?_)
      · have d1 : 2 ≤ c := by have := of_decide_eq_true d; omega
        have hlc : (row.take c).length = c := by rw [List.length_take]; omega
        have hpl : (pairs (row.take c)).length = (c + 1) / 2 := by rw [pairs_len, hlc]
        have hjl : ∀ j, j ≤ (c + 1) / 2 → (rowj (row.take c) row j).length = row.length := fun j hj => by
          unfold rowj; rw [List.length_append, List.length_take, List.length_drop]; omega
        simp -implicitDefEqProofs only [go_sem, ↓reduceIte, Nat.reduceEqDiff, Nat.reduceAdd, Nat.reduceMul, Nat.reduceLT, Nat.reduceLeDiff, Nat.reduceSub, Int.reduceToNat, Int.reduceLE, Int.reduceLT, reduceCtorEq, Int.reduceEq, Int.reduceGT, Int.reduceGE, Int.reduceNeg, d]
        refine ⟨by omega, ?_⟩
        refine loop_fam (fun j : Nat => j ≤ c / 2) (fun j => ⟨[(0, .sl 2 0 c 1), (3, .sl 2 0 j 1), (4, .v (.int .i64 (2 * j : Nat)))], ⟨[(2, some ⟨true, .strs (rowj (row.take c) row j)⟩)], x⟩, 3⟩) (fun j => c - j) 0 (Nat.zero_le _) ?_ ?_
        · refine sub_mk [] rfl rfl rfl ?_
          simp only [tmSub, hpSub, objSub, eqTm, eqHp, rn, lk, SV.ren, SV.renC, SV.renB, SV.renA, ren_ints, ren_strs, ren_pl, ren_svs, SV.v.injEq, Value.int.injEq, Body.ints.injEq, SV.ptr.injEq, SV.sl.injEq, Value.string.injEq, Value.bool.injEq, List.map_cons, List.map_nil, forall_const, Nat.reduceLT, Nat.lt_add_one, imp_self, true_and, and_true, and_self, ob_some, get_mk, lk_cons, ↓reduceIte, Nat.reduceEqDiff, ne_eq, not_true_eq_false, not_false_eq_true, Nat.one_ne_zero, Nat.zero_ne_one, Nat.succ_ne_self, Nat.reduceAdd, Bool.false_eq_true, false_implies, implies_true, reduceCtorEq]
          exact ⟨rfl, rfl⟩
        · intro j hj
          have w1 : IntKind.i64.wrap (((2 * j : Nat) : Int) + 1) = ((2 * j + 1 : Nat) : Int) := by rw [wrap_i64 (by omega) (by omega)]; omega
          simp -implicitDefEqProofs only [go_sem, ↓reduceIte, Nat.reduceEqDiff, Nat.reduceAdd, Nat.reduceMul, Nat.reduceLT, Nat.reduceLeDiff, Nat.reduceSub, Int.reduceToNat, Int.reduceLE, Int.reduceLT, reduceCtorEq, Int.reduceEq, Int.reduceGT, Int.reduceGE, Int.reduceNeg, w1]
          refine condK_bb (fun f => ?_) (fun f => ?_)
          · have f1 : 2 * j + 1 < c := by have := of_decide_eq_true f; omega
            have g1 : (rowj (row.take c) row j).getD (2 * j) .empty = (row.take c).getD (2 * j) .empty := rowj_get (by omega) (by omega) (by omega) (by omega)
            have g2 : (rowj (row.take c) row j).getD (2 * j + 1) .empty = (row.take c).getD (2 * j + 1) .empty := rowj_get (by omega) (by omega) (by omega) (by omega)
            have z0 : ∀ t, t < c → ((row.take c).getD t .empty).size ≤ 536870000 := fun t ht => by
              rw [List.getD_eq_getElem?_getD, List.getElem?_eq_getElem (by omega)]; exact hcz _ (List.getElem_mem _)
            simp -implicitDefEqProofs only [go_sem, ↓reduceIte, Nat.reduceEqDiff, Nat.reduceAdd, Nat.reduceMul, Nat.reduceLT, Nat.reduceLeDiff, Nat.reduceSub, Int.reduceToNat, Int.reduceLE, Int.reduceLT, reduceCtorEq, Int.reduceEq, Int.reduceGT, Int.reduceGE, Int.reduceNeg, f, w1]
            have hj2 := hjl j (by omega)
            refine ⟨⟨by omega, by omega⟩, by omega, ⟨by omega, by omega⟩, by omega, ?_⟩
            rw [g1, g2]
            refine at_call tNode (nodeS (z0 _ (by omega)) (z0 _ (by omega))) ?_
            simp -implicitDefEqProofs only [go_sem, ↓reduceIte, Nat.reduceEqDiff, Nat.reduceAdd, Nat.reduceMul, Nat.reduceLT, Nat.reduceLeDiff, Nat.reduceSub, Int.reduceToNat, Int.reduceLE, Int.reduceLT, reduceCtorEq, Int.reduceEq, Int.reduceGT, Int.reduceGE, Int.reduceNeg, g1, g2]
            refine ⟨by omega, by omega, by omega, app_in ?_⟩
            simp -implicitDefEqProofs only [go_sem, ↓reduceIte, Nat.reduceEqDiff, Nat.reduceAdd, Nat.reduceMul, Nat.reduceLT, Nat.reduceLeDiff, Nat.reduceSub, Int.reduceToNat, Int.reduceLE, Int.reduceLT, reduceCtorEq, Int.reduceEq, Int.reduceGT, Int.reduceGE, Int.reduceNeg]
            refine ⟨by rw [List.length_map, hj2]; omega, by omega, ?_⟩
            have g3 : splice (rowj (row.take c) row j) j [nd ((row.take c).getD (2 * j) .empty) ((row.take c).getD (2 * j + 1) .empty)] = rowj (row.take c) row (j + 1) := rowj_step (pairs_get _ _ (by omega))
            have w2 : IntKind.i64.wrap (((2 * j : Nat) : Int) + 2) = ((2 * (j + 1) : Nat) : Int) := by rw [wrap_i64 (by omega) (by omega)]; omega
            simp -implicitDefEqProofs only [go_sem, ↓reduceIte, Nat.reduceEqDiff, Nat.reduceAdd, Nat.reduceMul, Nat.reduceLT, Nat.reduceLeDiff, Nat.reduceSub, Int.reduceToNat, Int.reduceLE, Int.reduceLT, reduceCtorEq, Int.reduceEq, Int.reduceGT, Int.reduceGE, Int.reduceNeg, g3, w2]
            refine kLoop_mk (j + 1) (by omega) (by omega) ?_
            refine sub_mk [] rfl rfl rfl ?_
            simp only [tmSub, hpSub, objSub, eqTm, eqHp, rn, lk, SV.ren, SV.renC, SV.renB, SV.renA, ren_ints, ren_strs, ren_pl, ren_svs, SV.v.injEq, Value.int.injEq, Body.ints.injEq, SV.ptr.injEq, SV.sl.injEq, Value.string.injEq, Value.bool.injEq, List.map_cons, List.map_nil, forall_const, Nat.reduceLT, Nat.lt_add_one, imp_self, true_and, and_true, and_self, ob_some, get_mk, lk_cons, ↓reduceIte, Nat.reduceEqDiff, ne_eq, not_true_eq_false, not_false_eq_true, Nat.one_ne_zero, Nat.zero_ne_one, Nat.succ_ne_self, Nat.reduceAdd, Bool.false_eq_true, false_implies, implies_true, reduceCtorEq, w2, g3]
          · have f1 : c ≤ 2 * j + 1 := by have := of_decide_eq_false f; omega
            simp -implicitDefEqProofs only [go_sem, ↓reduceIte, Nat.reduceEqDiff, Nat.reduceAdd, Nat.reduceMul, Nat.reduceLT, Nat.reduceLeDiff, Nat.reduceSub, Int.reduceToNat, Int.reduceLE, Int.reduceLT, reduceCtorEq, Int.reduceEq, Int.reduceGT, Int.reduceGE, Int.reduceNeg, f, w1]
            refine condK_bb (fun e => ?_) (fun e => ?_)
            · have e1 : c = 2 * j + 1 := by
                have : ¬ (c : Int).tmod 2 = 0 := by simpa using e
                rw [Int.tmod_eq_emod_of_nonneg (by omega)] at this; omega
              have w2 : IntKind.i64.wrap ((c : Int) - 1) = ((2 * j : Nat) : Int) := by rw [wrap_i64 (by omega) (by omega)]; omega
              have g1 : (rowj (row.take c) row j).getD (2 * j) .empty = (row.take c).getD (2 * j) .empty := rowj_get (by omega) (by omega) (by omega) (by omega)
              have hj2 := hjl j (by omega)
              simp -implicitDefEqProofs only [go_sem, ↓reduceIte, Nat.reduceEqDiff, Nat.reduceAdd, Nat.reduceMul, Nat.reduceLT, Nat.reduceLeDiff, Nat.reduceSub, Int.reduceToNat, Int.reduceLE, Int.reduceLT, reduceCtorEq, Int.reduceEq, Int.reduceGT, Int.reduceGE, Int.reduceNeg, e, w2]
              refine ⟨⟨by omega, by omega⟩, by omega, ?_⟩
              rw [g1]
              simp -implicitDefEqProofs only [go_sem, ↓reduceIte, Nat.reduceEqDiff, Nat.reduceAdd, Nat.reduceMul, Nat.reduceLT, Nat.reduceLeDiff, Nat.reduceSub, Int.reduceToNat, Int.reduceLE, Int.reduceLT, reduceCtorEq, Int.reduceEq, Int.reduceGT, Int.reduceGE, Int.reduceNeg]
              refine ⟨by omega, by omega, by omega, app_in ?_⟩
              have g3 : splice (rowj (row.take c) row j) j [(row.take c).getD (2 * j) .empty] = rowj (row.take c) row (j + 1) := rowj_step (pairs_last _ _ (by omega))
              simp -implicitDefEqProofs only [go_sem, ↓reduceIte, Nat.reduceEqDiff, Nat.reduceAdd, Nat.reduceMul, Nat.reduceLT, Nat.reduceLeDiff, Nat.reduceSub, Int.reduceToNat, Int.reduceLE, Int.reduceLT, reduceCtorEq, Int.reduceEq, Int.reduceGT, Int.reduceGE, Int.reduceNeg, g3]
              refine ⟨by rw [List.length_map, hj2]; omega, by omega, ?_⟩
              have g4 : (rowj (row.take c) row (j + 1)).take (j + 1) = pairs (row.take c) := by rw [rowj_take (by omega), List.take_of_length_le (by omega)]
              refine kLoop_mk (j + 1, rowj (row.take c) row (j + 1)) ⟨by simp, by simp only; omega, by simp only; rw [hjl _ (by omega)]; omega, by simp only; rw [g4]; exact pairs_szB hcz, by simp only; rw [g4, root_pairs rfl]; exact hcr⟩ (by simp only; omega) ?_
              refine sub_mk [] rfl rfl rfl ?_
              simp only [tmSub, hpSub, objSub, eqTm, eqHp, rn, lk, SV.ren, SV.renC, SV.renB, SV.renA, ren_ints, ren_strs, ren_pl, ren_svs, SV.v.injEq, Value.int.injEq, Body.ints.injEq, SV.ptr.injEq, SV.sl.injEq, Value.string.injEq, Value.bool.injEq, List.map_cons, List.map_nil, forall_const, Nat.reduceLT, Nat.lt_add_one, imp_self, true_and, and_true, and_self, ob_some, get_mk, lk_cons, ↓reduceIte, Nat.reduceEqDiff, ne_eq, not_true_eq_false, not_false_eq_true, Nat.one_ne_zero, Nat.zero_ne_one, Nat.succ_ne_self, Nat.reduceAdd, Bool.false_eq_true, false_implies, implies_true, reduceCtorEq]
            · have e1 : c = 2 * j := by
                have : (c : Int).tmod 2 = 0 := by simpa using e
                rw [Int.tmod_eq_emod_of_nonneg (by omega)] at this; omega
              simp -implicitDefEqProofs only [go_sem, ↓reduceIte, Nat.reduceEqDiff, Nat.reduceAdd, Nat.reduceMul, Nat.reduceLT, Nat.reduceLeDiff, Nat.reduceSub, Int.reduceToNat, Int.reduceLE, Int.reduceLT, reduceCtorEq, Int.reduceEq, Int.reduceGT, Int.reduceGE, Int.reduceNeg, e]
              have g4 : (rowj (row.take c) row j).take j = pairs (row.take c) := by rw [rowj_take (by omega), List.take_of_length_le (by omega)]
              refine kLoop_mk (j, rowj (row.take c) row j) ⟨by simp only; omega, by simp only; omega, by simp only; rw [hjl _ (by omega)]; omega, by simp only; rw [g4]; exact pairs_szB hcz, by simp only; rw [g4, root_pairs rfl]; exact hcr⟩ (by simp only; omega) ?_
              refine sub_mk [] rfl rfl rfl ?_
              simp only [tmSub, hpSub, objSub, eqTm, eqHp, rn, lk, SV.ren, SV.renC, SV.renB, SV.renA, ren_ints, ren_strs, ren_pl, ren_svs, SV.v.injEq, Value.int.injEq, Body.ints.injEq, SV.ptr.injEq, SV.sl.injEq, Value.string.injEq, Value.bool.injEq, List.map_cons, List.map_nil, forall_const, Nat.reduceLT, Nat.lt_add_one, imp_self, true_and, and_true, and_self, ob_some, get_mk, lk_cons, ↓reduceIte, Nat.reduceEqDiff, ne_eq, not_true_eq_false, not_false_eq_true, Nat.one_ne_zero, Nat.zero_ne_one, Nat.succ_ne_self, Nat.reduceAdd, Bool.false_eq_true, false_implies, implies_true, reduceCtorEq]
      · have d1 : c = 1 := by have := of_decide_eq_false d; omega
        subst d1
        simp -implicitDefEqProofs only [go_sem, ↓reduceIte, Nat.reduceEqDiff, Nat.reduceAdd, Nat.reduceMul, Nat.reduceLT, Nat.reduceLeDiff, Nat.reduceSub, Int.reduceToNat, Int.reduceLE, Int.reduceLT, reduceCtorEq, Int.reduceEq, Int.reduceGT, Int.reduceGE, Int.reduceNeg, d]
        refine ⟨by decide, by omega, sub_val rfl (by decide) (by decide) ?_⟩
        have e1 : row.take 1 = [row.getD 0 ByteArray.empty] := by
          cases row with
          | nil => simp at hcl
          | cons a r => rfl
        rw [← hcr, e1, root_one]
theorem rootS {m i o : Nat} {ss : List ByteArray} (hr : rowAt H i (.strs []) = some (.strs ss)) (hom : o + m ≤ ss.length) (hm : m ≤ 1099511627776) (hsz : szB ((ss.drop o).take m)) :
    SpecAt Try.prog nRoot [.sl i o m 1] H n (.v (.string (root ((ss.drop o).take m)))) H n :=
  lift_read (pre := []) hr ⟨rfl, fun _ h => (by cases h)⟩ (fun _ => rfl) rfl (okT.spec tRoot (rootW hom hm hsz))
end Go.Sx

/- Trees, at this program. -/
set_option linter.unusedVariables false
set_option linter.unusedSimpArgs false
set_option maxRecDepth 100000
namespace Go.Sx
attribute [local go_sem ↓] bind_mk intsB_mk strsB_mk svB_mk fnVC ob_some vc_skip vc_exit vc_ret vc_seq vc_block kSeq_normal kSeq_exit kSeq_ret kBlock_normal kBlock_exit kBlock_ret vc_reg vc_regD vc_cond condK_true condK_false vc_loop kLoop_exit kLoop_ret kRoll_normal kRoll_exit kRoll_ret vcOps_nil vcOps_cons gd_bool gd_undef put_some put_none vcT_fin vcT_pure vcT_act vcT_acts vcT_stop stab_none stab_some stabM_nil stabM_cons stabO_ld stabO_ldn stabO_slP stabO_b2s fldOf_ai fldOf_agg fldOf_ait fldOf_aggt intsOf_nil intsOf_cons strsOf_nil strsOf_cons c_omap ob_if lk_nil lk_cons ev_t ev_k z_mov z_pick z_bin z_binB z_binP z_un z_r2s z_conv z_s2b z_b2s z_alloc z_bld z_bldI z_rowI z_rowS z_ld z_ldn z_st z_stn asN_ptr asN_fn z_nilck z_fld z_fadr z_idxA z_idxP z_idxS z_idxV z_slS z_slL z_slP z_mk z_lenS z_lenL z_app appC_ints appC_pl appC_sv appC_strs isS_strs loose_ints loose_pl loose_sv z_slM z_callv callvK_fn callvK_f callvK_yl vc_rangeF rfEnd_eq rfGo_none rfGo_ret rfGo_exit yGo_mk yEnd_n yEnd_r yEnd_e yRdy_mk yMid_n putPs_nil putPs_cons leaf_v leaf_ptr leaf_sl leaf_yl leaf_mp z_appS z_appZ z_cpyS z_mkfn reps_int reps_str z_rowV z_slnil nilK_zero z_cpy z_call asT_tup z_extT z_box boxOf_ai boxOf_agg boxOf_int boxOf_str boxOf_bool boxOf_ptr boxOf_sl sbin_int sbin_str sbinB_mk sbinP_nn sbinP_pn sbinP_np i_add i_sub i_mul i_quo i_rem i_and i_or i_xor i_andNot i_shl i_shr i_eql i_neq i_lss i_leq i_gtr i_geq st_add st_eql st_neq st_lss st_leq st_gtr st_geq bo_eql bo_neq pt_eql pt_neq un_neg un_xor un_not asI_mk asB_mk asS_mk asP_mk asSl_mk asBy_mk bnd_none bnd_some get_mk hput_mk hdel_mk kill_eq wrOf_eq rowOf_eq rsvs_0 rsvs_1 rsvs_2 rsvs_3 rsv_t rsv_c1 rsv_cn nt_v nt_ptr nt_sl nt_agg nt_ai get_ints get_strs get_pl get_sv getN_ints getN_sv set_ints set_strs set_sv setN_ints setN_sv part_ints part_strs part_sv cat_ints cat_strs cat_sv over_ints over_strs over_sv ones_ints ones_strs evs_nil evs_cons condK_eqt condK_eqf det_callP V_ns V_nn V_gs V_gn obC_mk fresh_ev setN_plagg setN_intsv setN_svai setN_svagg over_intsv set_pl setN_pl setN_plai getN_pl getN_strs part_pl cat_pl over_pl over_plints z_mm
attribute [local go_sem] initTm ne_eq not_true_eq_false not_false_eq_true true_and and_true List.length_cons List.length_nil Int.toNat_natCast Nat.add_zero Nat.zero_add Nat.mul_one List.getElem?_cons_zero List.drop_zero List.take_length List.take_succ_cons List.take_zero List.take_nil List.drop_succ_cons Option.map_some Nat.le_refl implies_true List.getElem?_cons_succ decide_true decide_false Bool.not_true Bool.not_false beq_self_eq_true Nat.succ_ne_self Nat.one_ne_zero Nat.zero_ne_one vk_mk hk_mk nk_mk tok_eq plsOf_map intsOf_map bodyOf_pl bodyOf_ints bodyOf_strs bodyOf_sv part_aggv part_agg part_ai part_int part_str part_bool part_sl part_ptr part_nil numsOf_map u_int u_str u_bool u_pnil u_sl u_ptr u_oci u_ocs evq_nil evq_cons fillS_nil fillS_cons u_ocb ones_pl cells_sv cells_ints cells_strs cells_pl smms_nil smms_cons smm_min smm_max plsOf_nil List.nil_append List.all_cons List.all_nil Bool.and_self Bool.true_and Bool.and_true zws_len zw_len zi_len List.set_cons_zero List.set_cons_succ List.flatMap_cons List.flatMap_nil List.append_nil
open Go.Proofs
/-! Spans: what lies behind what. -/
variable {H : Hp} {n : Nat} {x : Nat → Option SO}

theorem sub_wr {π : List (Nat × Nat)} {j i : Nat} {o : SO} (hr : rn π j = i) (hi : 0 < i) (h1 : i < 1000) {b : Body} (hg : H.get i = some ⟨true, b⟩) (hb : b = o.b.ren π) : objSub π H j o := by
  unfold objSub
  rw [hr, if_neg (by omega), hg]
  exact ⟨fun _ => h1, fun _ => rfl, hb⟩
theorem sub_ro {π : List (Nat × Nat)} {j i : Nat} {b0 : Body} (hr : rn π j = i) (hi : 0 < i) {s : SO} (hg : H.get i = some s) (hb : s.b = b0.ren π) : objSub π H j ⟨false, b0⟩ := by
  unfold objSub
  rw [hr, if_neg (by omega), hg]
  exact ⟨fun h => (by cases h), fun h => (by cases h), hb⟩
theorem rf_fnT {C : Tab} {tm : List (Nat × SV)} {g : Nat} {caps : List SV} {ps : List Nat} {N : Nat} {ma mb : MC} {K : Ex → St → Prop} (hn : n < 1000) (h : ∀ (L : Loop) (T : List (Nat × SV)), T = tm → C.isL L N ps ma mb → callK (C g) (.yl n :: caps) (H.put n ⟨true, .mp (.loop L .ready none T)⟩) (n + 1) (rfEnd n T K)) : rfK C (.fn g caps) ps N ma mb ⟨tm, H, n⟩ K := ⟨hn, fun L hL => h L tm rfl hL⟩
theorem szB_two {a b : ByteArray} (ha : a.size ≤ 536870000) (hb : b.size ≤ 536870000) : szB [a, b] := by
  intro s hs
  simp only [List.mem_cons, List.not_mem_nil, or_false] at hs
  rcases hs with rfl | rfl <;> assumption
/-! Trees: the document's examples, leaves, lists that are the same. -/
variable {H : Hp} {n : Nat} {x : Nat → Option SO}

theorem seq_self (s : ByteArray) : seq s s = true := by unfold seq; simp
theorem lf_size {s : ByteArray} : (lf s).size = 32 := sha_size _
/-- Two lists that are the same. -/
theorem sameW {o o' l : Nat} {ss tt : List ByteArray} (h1 : o + l ≤ ss.length) (h2 : o' + l ≤ tt.length) (he : ∀ i, i < l → ss.getD (o + i) .empty = tt.getD (o' + i) .empty) (hl : l ≤ 1048576) :
    fnVC CT mSameTexts [.sl 1 o l 1, .sl 2 o' l 1] ⟨[(1, some ⟨false, .strs ss⟩), (2, some ⟨false, .strs tt⟩)], x⟩ 3 fun v H' n' => Sub 3 ⟨[(0, .v (.bool true))], ⟨[], x⟩, 3⟩ ⟨[(0, v)], H', n'⟩ := by
  unfold mSameTexts
  have g0 : decide ((l : Int) = (l : Int)) = true := decide_eq_true rfl
  simp -implicitDefEqProofs only [↓fnVC, initTm]
  simp -implicitDefEqProofs only [go_sem, ↓reduceIte, Nat.reduceEqDiff, Nat.reduceAdd, Nat.reduceMul, Nat.reduceLT, Nat.reduceLeDiff, Nat.reduceSub, Int.reduceToNat, Int.reduceLE, Int.reduceLT, reduceCtorEq, Int.reduceEq, Int.reduceGT, Int.reduceGE, Int.reduceNeg, g0]
  refine loop_fam (fun (i : Nat) => i ≤ l) (fun i => ⟨[(0, .sl 1 o l 1), (1, .sl 2 o' l 1), (5, .v (.int .i64 i))], ⟨[(1, some ⟨false, .strs ss⟩), (2, some ⟨false, .strs tt⟩)], x⟩, 3⟩) (fun i => l - i) 0 (Nat.zero_le _) ?_ ?_
  · refine sub_mk [] rfl rfl rfl ?_
    simp only [tmSub, hpSub, objSub, eqTm, eqHp, rn, lk, SV.ren, SV.renC, SV.renB, SV.renA, ren_ints, ren_strs, ren_pl, ren_svs, SV.v.injEq, Value.int.injEq, Body.ints.injEq, SV.ptr.injEq, SV.sl.injEq, Value.string.injEq, Value.bool.injEq, List.map_cons, List.map_nil, forall_const, Nat.reduceLT, Nat.lt_add_one, imp_self, true_and, and_true, and_self, ob_some, get_mk, lk_cons, ↓reduceIte, Nat.reduceEqDiff, ne_eq, not_true_eq_false, not_false_eq_true, Nat.one_ne_zero, Nat.zero_ne_one, Nat.succ_ne_self, Nat.reduceAdd, Bool.false_eq_true, false_implies, implies_true, reduceCtorEq]
    rfl
  · intro i hi
    simp -implicitDefEqProofs only [go_sem, ↓reduceIte, Nat.reduceEqDiff, Nat.reduceAdd, Nat.reduceMul, Nat.reduceLT, Nat.reduceLeDiff, Nat.reduceSub, Int.reduceToNat, Int.reduceLE, Int.reduceLT, reduceCtorEq, Int.reduceEq, Int.reduceGT, Int.reduceGE, Int.reduceNeg]
    refine condK_bb (fun c => ?_) (fun c => ?_)
    · have c1 : i < l := by have := of_decide_eq_true c; omega
      have w3 : IntKind.i64.wrap ((i : Int) + 1) = ((i + 1 : Nat) : Int) := by rw [wrap_i64 (by omega) (by omega)]; omega
      have hei := he i c1
      have hq : seq (ss.getD (o + i) .empty) (tt.getD (o' + i) .empty) = true := by rw [hei]; exact seq_self _
      simp -implicitDefEqProofs only [go_sem, ↓reduceIte, Nat.reduceEqDiff, Nat.reduceAdd, Nat.reduceMul, Nat.reduceLT, Nat.reduceLeDiff, Nat.reduceSub, Int.reduceToNat, Int.reduceLE, Int.reduceLT, reduceCtorEq, Int.reduceEq, Int.reduceGT, Int.reduceGE, Int.reduceNeg, c, hq]
      refine ⟨⟨by omega, by omega⟩, by omega, ⟨by omega, by omega⟩, by omega, ?_⟩
      refine kLoop_mk (i + 1) (by omega) (by omega) ?_
      refine sub_mk [] rfl rfl rfl ?_
      simp only [tmSub, hpSub, objSub, eqTm, eqHp, rn, lk, SV.ren, SV.renC, SV.renB, SV.renA, ren_ints, ren_strs, ren_pl, ren_svs, SV.v.injEq, Value.int.injEq, Body.ints.injEq, SV.ptr.injEq, SV.sl.injEq, Value.string.injEq, Value.bool.injEq, List.map_cons, List.map_nil, forall_const, Nat.reduceLT, Nat.lt_add_one, imp_self, true_and, and_true, and_self, ob_some, get_mk, lk_cons, ↓reduceIte, Nat.reduceEqDiff, ne_eq, not_true_eq_false, not_false_eq_true, Nat.one_ne_zero, Nat.zero_ne_one, Nat.succ_ne_self, Nat.reduceAdd, Bool.false_eq_true, false_implies, implies_true, reduceCtorEq, w3]
    · have c1 : i = l := by have := of_decide_eq_false c; omega
      simp -implicitDefEqProofs only [go_sem, ↓reduceIte, Nat.reduceEqDiff, Nat.reduceAdd, Nat.reduceMul, Nat.reduceLT, Nat.reduceLeDiff, Nat.reduceSub, Int.reduceToNat, Int.reduceLE, Int.reduceLT, reduceCtorEq, Int.reduceEq, Int.reduceGT, Int.reduceGE, Int.reduceNeg, c]
      exact sub_val rfl (by decide) (by decide) rfl
end Go.Sx
