/- Trees: every leaf, and every beginning, is proved. -/
import Derived.Test.YthphefmkpcocdaaTreeB

set_option linter.unusedVariables false
set_option linter.unusedSimpArgs false
set_option maxRecDepth 100000
namespace Go.Sx
attribute [local go_sem ↓] bind_mk intsB_mk strsB_mk svB_mk fnVC ob_some vc_skip vc_exit vc_ret vc_seq vc_block kSeq_normal kSeq_exit kSeq_ret kBlock_normal kBlock_exit kBlock_ret vc_reg vc_regD vc_cond condK_true condK_false vc_loop kLoop_exit kLoop_ret kRoll_normal kRoll_exit kRoll_ret vcOps_nil vcOps_cons gd_bool gd_undef put_some put_none vcT_fin vcT_pure vcT_act vcT_acts vcT_stop stab_none stab_some stabM_nil stabM_cons stabO_ld stabO_ldn stabO_slP stabO_b2s fldOf_ai fldOf_agg fldOf_ait fldOf_aggt intsOf_nil intsOf_cons strsOf_nil strsOf_cons c_omap ob_if lk_nil lk_cons ev_t ev_k z_mov z_pick z_bin z_binB z_binP z_un z_r2s z_conv z_s2b z_b2s z_alloc z_bld z_bldI z_rowI z_rowS z_ld z_ldn z_st z_stn asN_ptr asN_fn z_nilck z_fld z_fadr z_idxA z_idxP z_idxS z_idxV z_slS z_slL z_slP z_mk z_lenS z_lenL z_app appC_ints appC_pl appC_sv appC_strs isS_strs loose_ints loose_pl loose_sv z_slM z_callv callvK_fn callvK_f callvK_yl vc_rangeF rfEnd_eq rfGo_none rfGo_ret rfGo_exit yGo_mk yEnd_n yEnd_r yEnd_e yRdy_mk yMid_n putPs_nil putPs_cons leaf_v leaf_ptr leaf_sl leaf_yl leaf_mp z_appS z_appZ z_cpyS z_mkfn reps_int reps_str z_rowV z_slnil nilK_zero z_cpy z_call asT_tup z_extT z_box boxOf_ai boxOf_agg boxOf_int boxOf_str boxOf_bool boxOf_ptr boxOf_sl sbin_int sbin_str sbinB_mk sbinP_nn sbinP_pn sbinP_np i_add i_sub i_mul i_quo i_rem i_and i_or i_xor i_andNot i_shl i_shr i_eql i_neq i_lss i_leq i_gtr i_geq st_add st_eql st_neq st_lss st_leq st_gtr st_geq bo_eql bo_neq pt_eql pt_neq un_neg un_xor un_not asI_mk asB_mk asS_mk asP_mk asSl_mk asBy_mk bnd_none bnd_some get_mk hput_mk hdel_mk kill_eq wrOf_eq rowOf_eq rsvs_0 rsvs_1 rsvs_2 rsvs_3 rsv_t rsv_c1 rsv_cn nt_v nt_ptr nt_sl nt_agg nt_ai get_ints get_strs get_pl get_sv getN_ints getN_sv set_ints set_strs set_sv setN_ints setN_sv part_ints part_strs part_sv cat_ints cat_strs cat_sv over_ints over_strs over_sv ones_ints ones_strs evs_nil evs_cons condK_eqt condK_eqf det_callP V_ns V_nn V_gs V_gn obC_mk fresh_ev setN_plagg setN_intsv setN_svai setN_svagg over_intsv set_pl setN_pl setN_plai getN_pl getN_strs part_pl cat_pl over_pl over_plints z_mm
attribute [local go_sem] initTm ne_eq not_true_eq_false not_false_eq_true true_and and_true List.length_cons List.length_nil Int.toNat_natCast Nat.add_zero Nat.zero_add Nat.mul_one List.getElem?_cons_zero List.drop_zero List.take_length List.take_succ_cons List.take_zero List.take_nil List.drop_succ_cons Option.map_some Nat.le_refl implies_true List.getElem?_cons_succ decide_true decide_false Bool.not_true Bool.not_false beq_self_eq_true Nat.succ_ne_self Nat.one_ne_zero Nat.zero_ne_one vk_mk hk_mk nk_mk tok_eq plsOf_map intsOf_map bodyOf_pl bodyOf_ints bodyOf_strs bodyOf_sv part_aggv part_agg part_ai part_int part_str part_bool part_sl part_ptr part_nil numsOf_map u_int u_str u_bool u_pnil u_sl u_ptr u_oci u_ocs evq_nil evq_cons fillS_nil fillS_cons u_ocb ones_pl cells_sv cells_ints cells_strs cells_pl smms_nil smms_cons smm_min smm_max plsOf_nil List.nil_append List.all_cons List.all_nil Bool.and_self Bool.true_and Bool.and_true zws_len zw_len zi_len List.set_cons_zero List.set_cons_succ List.flatMap_cons List.flatMap_nil List.append_nil
open Go.Proofs
variable {H : Hp} {n : Nat} {x : Nat → Option SO}

theorem climb_app : ∀ {bs : List Bool} {h r : ByteArray} {ps qs : List ByteArray}, climb h bs ps = some r → climb h bs (ps ++ qs) = some r
  | [], h, r, ps, qs, hc => hc
  | b :: bs, h, r, [], qs, hc => by cases hc
  | b :: bs, h, r, p :: ps, qs, hc => climb_app (bs := bs) (ps := ps) hc
theorem climb2_app : ∀ {bs : List Bool} {a b : ByteArray} {r : ByteArray × ByteArray} {ps qs : List ByteArray}, climb2 a b bs ps = some r → climb2 a b bs (ps ++ qs) = some r
  | [], a, b, r, ps, qs, hc => hc
  | c :: bs, a, b, r, [], qs, hc => by cases hc
  | c :: bs, a, b, r, p :: ps, qs, hc => climb2_app (bs := bs) (ps := ps) hc
theorem bothR_app {e : Bool} {old : ByteArray} {w : List Bool} {ps qs : List ByteArray} {r : ByteArray × ByteArray} (h : bothR e old w ps = some r) : bothR e old w (ps ++ qs) = some r := by
  unfold bothR at h ⊢
  cases e with
  | true => exact climb2_app h
  | false => cases ps with
    | nil => cases h
    | cons p ps => exact climb2_app h
/-- A leaf's own proof makes the root. -/
theorem incl_ok : ∀ {k : Nat} {l : List ByteArray} {i : Nat}, l.length = k → i < k → (incl l i).length = (ways i k).length ∧ climb (l.getD i .empty) (ways i k).reverse (incl l i) = some (root l) := by
  intro k
  induction k using Nat.strongRecOn with
  | _ k ih =>
    intro l i hl hi
    by_cases h2 : 2 ≤ k
    · have h1 := pw_le h2
      have h3 := pw_pos (n := k)
      by_cases hk : i < pw k
      · obtain ⟨q1, q2⟩ := ih (pw k) (by omega) (l := l.take (pw k)) (i := i) (by rw [List.length_take]; omega) hk
        rw [incl_lt (by omega) (by rw [hl]; exact hk), ways_lt h2 hk, hl]
        refine ⟨by simp [q1], ?_⟩
        rw [List.reverse_cons, climb_snoc]
        have e1 : l.getD i .empty = (l.take (pw k)).getD i .empty := by
          rw [List.getD_eq_getElem?_getD, List.getD_eq_getElem?_getD, List.getElem?_take, if_pos hk]
        rw [e1, climb_app q2, Option.bind_some, List.length_reverse, ← q1, List.getElem?_append_right (Nat.le_refl _), Nat.sub_self]
        simp only [List.getElem?_cons_zero, Option.map_some, Bool.false_eq_true, if_false]
        rw [root_step (l := l) (by omega), hl]
      · obtain ⟨q1, q2⟩ := ih (k - pw k) (by omega) (l := l.drop (pw k)) (i := i - pw k) (by rw [List.length_drop, hl]) (by omega)
        rw [incl_ge (by omega) (by rw [hl]; exact hk), ways_ge h2 hk, hl]
        refine ⟨by simp [q1], ?_⟩
        rw [List.reverse_cons, climb_snoc]
        have e1 : l.getD i .empty = (l.drop (pw k)).getD (i - pw k) .empty := by
          rw [List.getD_eq_getElem?_getD, List.getD_eq_getElem?_getD, List.getElem?_drop, show pw k + (i - pw k) = i by omega]
        rw [e1, climb_app q2, Option.bind_some, List.length_reverse, ← q1, List.getElem?_append_right (Nat.le_refl _), Nat.sub_self]
        simp only [List.getElem?_cons_zero, Option.map_some, if_true]
        rw [root_step (l := l) (by omega), hl]
    · obtain rfl : k = 1 := by omega
      obtain rfl : i = 0 := by omega
      match l, hl with
      | [a], _ =>
        rw [incl_one (by simp), ways_one (by decide), root_one]
        exact ⟨rfl, rfl⟩
theorem root_take_gt {l : List ByteArray} {m : Nat} (h : m ≤ l.length) (h2 : 2 ≤ l.length) (hk : pw l.length < m) : root (l.take m) = nd (root (l.take (pw l.length))) (root ((l.drop (pw l.length)).take (m - pw l.length))) := by
  have h1 := lt_pw h2
  have h3 := pw_pos (n := l.length)
  have hl : (l.take m).length = m := by rw [List.length_take]; omega
  have e1 : pw m = pw l.length := pw_uniq (e := Nat.log2 (l.length - 1)) (by show pw l.length ≤ m - 1; omega) (by show m - 1 < 2 * pw l.length; omega)
  rw [root_step (l := l.take m) (by omega), hl, e1, List.take_take, Nat.min_eq_left (by omega), List.drop_take]
/-- A beginning's own proof makes both roots. -/
theorem part_ok : ∀ {k : Nat} {wh : Bool} {j : Nat} {l : List ByteArray} {old : ByteArray}, l.length = k → 1 ≤ j → j ≤ k → (wh = true → old = root (l.take j)) →
    (part wh j l).length = (cways j k).length + off (wh && !(cways j k).any id) ∧ bothR (wh && !(cways j k).any id) old (cways j k).reverse (part wh j l) = some (root (l.take j), root l) := by
  intro k
  induction k using Nat.strongRecOn with
  | _ k ih =>
    intro wh j l old hl hj hjk ho
    by_cases h : j < k
    · have h2 : 2 ≤ k := by omega
      have h1 := pw_le h2
      have h3 := pw_pos (n := k)
      by_cases hk : j ≤ pw k
      · have et : (l.take (pw k)).take j = l.take j := by rw [List.take_take, Nat.min_eq_left hk]
        obtain ⟨q1, q2⟩ := ih (pw k) (by omega) (wh := wh) (j := j) (l := l.take (pw k)) (old := old) (by rw [List.length_take]; omega) hj hk (by rw [et]; exact ho)
        rw [part_le (by omega) hj (by rw [hl]; exact hk), cways_le h hj hk, hl]
        rw [show (false :: cways j (pw k)).any id = (cways j (pw k)).any id from rfl]
        generalize (wh && !(cways j (pw k)).any id) = e at q1 q2 ⊢
        refine ⟨by rw [List.length_append, q1]; simp; omega, ?_⟩
        rw [List.reverse_cons, bothR_snoc, bothR_app q2, Option.bind_some, List.length_reverse, ← q1, List.getElem?_append_right (Nat.le_refl _), Nat.sub_self]
        simp only [List.getElem?_cons_zero, Option.map_some, Bool.false_eq_true, if_false]
        rw [et, root_step (l := l) (by omega), hl]
      · obtain ⟨q1, q2⟩ := ih (k - pw k) (by omega) (wh := false) (j := j - pw k) (l := l.drop (pw k)) (old := old) (by rw [List.length_drop, hl]) (by omega) (by omega) (fun h => by cases h)
        rw [part_gt (by omega) hj (by rw [hl]; exact hk), cways_gt h hj hk, hl]
        rw [show (true :: cways (j - pw k) (k - pw k)).any id = true from rfl]
        simp only [Bool.not_true, Bool.and_false, Bool.false_and] at q1 q2 ⊢
        refine ⟨by rw [List.length_append, q1]; simp; omega, ?_⟩
        rw [List.reverse_cons, bothR_snoc, bothR_app q2, Option.bind_some, List.length_reverse, ← q1, List.getElem?_append_right (Nat.le_refl _), Nat.sub_self]
        simp only [List.getElem?_cons_zero, Option.map_some, if_true]
        rw [root_take_gt (l := l) (m := j) (by omega) (by omega) (by rw [hl]; omega), hl, root_step (l := l) (by omega), hl]
    · obtain rfl : j = k := by omega
      rw [part_eq (by omega), cways_eq (Nat.le_refl _), List.take_of_length_le (by omega)] at *
      cases wh with
      | true =>
        have := ho rfl
        subst this
        exact ⟨rfl, rfl⟩
      | false => exact ⟨rfl, rfl⟩
theorem incX_ok {l : List ByteArray} {i k : Nat} (hl : l.length = k) (hi : i < k) : incV (l.getD i .empty) (ways i k).reverse (incl l i) (root l) = 0 := by
  obtain ⟨q1, q2⟩ := incl_ok hl hi
  unfold incV
  rw [q2]
  simp only
  rw [if_pos ⟨by rw [q1, List.length_reverse], seq_self _⟩]
theorem incV_len {leaf rt : ByteArray} {w : List Bool} {ps : List ByteArray} (h : ps.length ≠ w.length) : incV leaf w ps rt = 11 := by
  unfold incV
  split
  · rw [if_neg (fun hh => h hh.1)]
  · rfl
theorem treeIncludedW {k : Nat} {s : ByteArray} (hk : k ≤ 255) (hs : s.size ≤ 1073741000) :
    fnVC CT mTreeIncluded [.v (.int .u8 k), .v (.string s)] ⟨[], x⟩ 1 fun v H' n' => Sub 1 ⟨[(0, .v (.bool true))], ⟨[], x⟩, 1⟩ ⟨[(0, v)], H', n'⟩ := by
  unfold mTreeIncluded
  have e1 : ((k : Int)).tmod 40 = ((k % 40 : Nat) : Int) := by rw [Int.tmod_eq_emod_of_nonneg (by omega)]; omega
  have e2 : IntKind.i64.wrap ((k % 40 : Nat) : Int) = ((k % 40 : Nat) : Int) := by rw [wrap_i64 (by omega) (by omega)]
  have e3 : IntKind.i64.wrap (1 + ((k % 40 : Nat) : Int)) = ((1 + k % 40 : Nat) : Int) := by rw [wrap_i64 (by omega) (by omega)]; omega
  simp -implicitDefEqProofs only [↓fnVC, initTm]
  simp -implicitDefEqProofs only [go_sem, ↓reduceIte, Nat.reduceEqDiff, Nat.reduceAdd, Nat.reduceMul, Nat.reduceLT, Nat.reduceLeDiff, Nat.reduceSub, Int.reduceToNat, Int.reduceLE, Int.reduceLT, reduceCtorEq, Int.reduceEq, Int.reduceGT, Int.reduceGE, Int.reduceNeg]
  refine at_call thashes8 hashesS ?_
  simp -implicitDefEqProofs only [go_sem, ↓reduceIte, Nat.reduceEqDiff, Nat.reduceAdd, Nat.reduceMul, Nat.reduceLT, Nat.reduceLeDiff, Nat.reduceSub, Int.reduceToNat, Int.reduceLE, Int.reduceLT, reduceCtorEq, Int.reduceEq, Int.reduceGT, Int.reduceGE, Int.reduceNeg, e1, e2, e3]
  generalize hl : 1 + k % 40 = l
  have hl70 : 1 ≤ l ∧ l ≤ 40 := by omega
  refine at_call tleaves8 (leavesS (by omega) (by omega) (by decide)) ?_
  simp -implicitDefEqProofs only [go_sem, ↓reduceIte, Nat.reduceEqDiff, Nat.reduceAdd, Nat.reduceMul, Nat.reduceLT, Nat.reduceLeDiff, Nat.reduceSub, Int.reduceToNat, Int.reduceLE, Int.reduceLT, reduceCtorEq, Int.reduceEq, Int.reduceGT, Int.reduceGE, Int.reduceNeg]
  have hll := lvs_len (k := l) (s := s)
  have hz := lvs_szB (k := l) (s := s)
  generalize lvs l s = ss at hll hz ⊢
  have hz' : szB ((ss.drop 0).take l) := szB_take (szB_drop hz)
  have hsl : ss.take l = ss := List.take_of_length_le (by omega)
  have hrs := root_size hz
  refine at_call tRoot (rootS (i := 1) (ss := ss) (by rfl) (by omega) (by omega) hz') ?_
  simp -implicitDefEqProofs only [go_sem, ↓reduceIte, Nat.reduceEqDiff, Nat.reduceAdd, Nat.reduceMul, Nat.reduceLT, Nat.reduceLeDiff, Nat.reduceSub, Int.reduceToNat, Int.reduceLE, Int.reduceLT, reduceCtorEq, Int.reduceEq, Int.reduceGT, Int.reduceGE, Int.reduceNeg, hsl]
  refine loop_fam (fun (i : Nat) => i ≤ l) (fun i => ⟨[(5, .sl 1 0 l 1), (6, .v (.string (root ss))), (21, .v (.int .i64 l)), (22, .v (.int .i64 i))], ⟨[(1, some ⟨true, .strs ss⟩)], x⟩, 2⟩) (fun i => l - i) 0 (Nat.zero_le _) ?_ ?_
  · refine sub_mk [] rfl rfl rfl ?_
    simp only [tmSub, hpSub, objSub, eqTm, eqHp, rn, lk, SV.ren, SV.renC, SV.renB, SV.renA, ren_ints, ren_strs, ren_pl, ren_svs, SV.v.injEq, Value.int.injEq, Body.ints.injEq, SV.ptr.injEq, SV.sl.injEq, Value.string.injEq, Value.bool.injEq, List.map_cons, List.map_nil, forall_const, Nat.reduceLT, Nat.lt_add_one, imp_self, true_and, and_true, and_self, ob_some, get_mk, lk_cons, ↓reduceIte, Nat.reduceEqDiff, ne_eq, not_true_eq_false, not_false_eq_true, Nat.one_ne_zero, Nat.zero_ne_one, Nat.succ_ne_self, Nat.reduceAdd, Bool.false_eq_true, false_implies, implies_true, reduceCtorEq]
    rfl
  · intro i hi
    simp -implicitDefEqProofs only [go_sem, ↓reduceIte, Nat.reduceEqDiff, Nat.reduceAdd, Nat.reduceMul, Nat.reduceLT, Nat.reduceLeDiff, Nat.reduceSub, Int.reduceToNat, Int.reduceLE, Int.reduceLT, reduceCtorEq, Int.reduceEq, Int.reduceGT, Int.reduceGE, Int.reduceNeg]
    refine condK_bb (fun c => ?_) (fun c => ?_)
    · have c1 : i < l := by have := of_decide_eq_true c; omega
      have w3 : IntKind.i64.wrap ((i : Int) + 1) = ((i + 1 : Nat) : Int) := by rw [wrap_i64 (by omega) (by omega)]; omega
      have hpl := incl_len (l := ss) (i := i) rfl
      have hpz := incl_szB (l := ss) (i := i) rfl hz
      have hlf : (ss.getD i .empty).size ≤ 536870000 := by
        rw [List.getD_eq_getElem?_getD, List.getElem?_eq_getElem (by omega)]; exact hz _ (List.getElem_mem _)
      have ok1 := incX_ok hll c1
      obtain ⟨q1, _⟩ := incl_ok hll c1
      have t11 : ∀ z : Int, decide (z = z) = true := fun z => decide_eq_true rfl
      simp -implicitDefEqProofs only [go_sem, ↓reduceIte, Nat.reduceEqDiff, Nat.reduceAdd, Nat.reduceMul, Nat.reduceLT, Nat.reduceLeDiff, Nat.reduceSub, Int.reduceToNat, Int.reduceLE, Int.reduceLT, reduceCtorEq, Int.reduceEq, Int.reduceGT, Int.reduceGE, Int.reduceNeg, c]
      refine at_call tInclusion (inclS (a := 1) (ss := ss) (o := 0) (by rfl) (by omega) (by omega) c1 hz' (by decide)) ?_
      simp -implicitDefEqProofs only [go_sem, ↓reduceIte, Nat.reduceEqDiff, Nat.reduceAdd, Nat.reduceMul, Nat.reduceLT, Nat.reduceLeDiff, Nat.reduceSub, Int.reduceToNat, Int.reduceLE, Int.reduceLT, reduceCtorEq, Int.reduceEq, Int.reduceGT, Int.reduceGE, Int.reduceNeg, hsl]
      generalize hP : incl ss i = P at hpl hpz ok1 q1 ⊢
      have hcp : List.take P.length P = P := List.take_length
      have hcd : List.take P.length (List.drop 0 P) = P := List.take_length
      have pls : P ≠ [] → List.take (P.length - 1) (P ++ [root ss]) = P.take (P.length - 1) := fun _ => by rw [List.take_append_of_le_length (by omega)]
      refine ⟨⟨by omega, by omega⟩, by omega, ?_⟩
      refine at_call tIncluded (incdS (a := 2) (ss := P) (o := 0) (l := P.length) (i := i) (m := l) (by rfl) (by omega) (by omega) c1 (by omega) hpz hlf) ?_
      have d1 : ∀ z : Int, decide (z = z) = true := fun z => decide_eq_true rfl
      simp -implicitDefEqProofs only [go_sem, ↓reduceIte, Nat.reduceEqDiff, Nat.reduceAdd, Nat.reduceMul, Nat.reduceLT, Nat.reduceLeDiff, Nat.reduceSub, Int.reduceToNat, Int.reduceLE, Int.reduceLT, reduceCtorEq, Int.reduceEq, Int.reduceGT, Int.reduceGE, Int.reduceNeg, hcp, ok1]
      refine ⟨⟨by omega, by omega⟩, by omega, by omega, by omega, app_keep ?_⟩
      simp -implicitDefEqProofs only [go_sem, ↓reduceIte, Nat.reduceEqDiff, Nat.reduceAdd, Nat.reduceMul, Nat.reduceLT, Nat.reduceLeDiff, Nat.reduceSub, Int.reduceToNat, Int.reduceLE, Int.reduceLT, reduceCtorEq, Int.reduceEq, Int.reduceGT, Int.reduceGE, Int.reduceNeg, hcp]
      refine ⟨by rw [List.length_map], ?_⟩
      have hz2 : szB (P ++ [root ss]) := fun s hs => by
        rcases List.mem_append.1 hs with hs | hs
        · exact hpz s hs
        · rw [List.mem_singleton] at hs; subst hs; exact hrs
      have ok2 : incV (ss.getD i .empty) (ways i l).reverse (P ++ [root ss]) (root ss) = 11 := incV_len (by rw [List.length_append, List.length_reverse, q1]; simp)
      have hcp2 : List.take (P.length + 1) (P ++ [root ss]) = P ++ [root ss] := List.take_of_length_le (by simp)
      refine at_call tIncluded (incdS (a := 4) (ss := P ++ [root ss]) (o := 0) (l := P.length + 1) (i := i) (m := l) (by rfl) (by simp) (by omega) c1 (by omega) hz2 hlf) ?_
      simp -implicitDefEqProofs only [go_sem, ↓reduceIte, Nat.reduceEqDiff, Nat.reduceAdd, Nat.reduceMul, Nat.reduceLT, Nat.reduceLeDiff, Nat.reduceSub, Int.reduceToNat, Int.reduceLE, Int.reduceLT, reduceCtorEq, Int.reduceEq, Int.reduceGT, Int.reduceGE, Int.reduceNeg, hcp2, ok2]
      refine condK_bb (fun d => ?_) (fun d => ?_)
      · have dp : 0 < P.length := by have := of_decide_eq_true d; omega
        have w4 : IntKind.i64.wrap ((P.length : Int) - 1) = ((P.length - 1 : Nat) : Int) := by rw [wrap_i64 (by omega) (by omega)]; omega
        have ok3 : incV (ss.getD i .empty) (ways i l).reverse (P.take (P.length - 1)) (root ss) = 11 := incV_len (by rw [List.length_take, List.length_reverse, q1]; omega)
        simp -implicitDefEqProofs only [go_sem, ↓reduceIte, Nat.reduceEqDiff, Nat.reduceAdd, Nat.reduceMul, Nat.reduceLT, Nat.reduceLeDiff, Nat.reduceSub, Int.reduceToNat, Int.reduceLE, Int.reduceLT, reduceCtorEq, Int.reduceEq, Int.reduceGT, Int.reduceGE, Int.reduceNeg, d, w4, Nat.sub_zero]
        refine ⟨⟨by omega, by omega⟩, by omega, ⟨by omega, by omega⟩, ?_⟩
        refine at_call tIncluded (incdS (a := 2) (ss := P) (o := 0) (l := P.length - 1) (i := i) (m := l) (by rfl) (by omega) (by omega) c1 (by omega) hpz hlf) ?_
        simp -implicitDefEqProofs only [go_sem, ↓reduceIte, Nat.reduceEqDiff, Nat.reduceAdd, Nat.reduceMul, Nat.reduceLT, Nat.reduceLeDiff, Nat.reduceSub, Int.reduceToNat, Int.reduceLE, Int.reduceLT, reduceCtorEq, Int.reduceEq, Int.reduceGT, Int.reduceGE, Int.reduceNeg, d, ok3, w3]
        refine kLoop_mk (i + 1) (by omega) (by omega) ?_
        refine sub_mk [] rfl rfl rfl ?_
        simp only [tmSub, hpSub, objSub, eqTm, eqHp, rn, lk, SV.ren, SV.renC, SV.renB, SV.renA, ren_ints, ren_strs, ren_pl, ren_svs, SV.v.injEq, Value.int.injEq, Body.ints.injEq, SV.ptr.injEq, SV.sl.injEq, Value.string.injEq, Value.bool.injEq, List.map_cons, List.map_nil, forall_const, Nat.reduceLT, Nat.lt_add_one, imp_self, true_and, and_true, and_self, ob_some, get_mk, lk_cons, ↓reduceIte, Nat.reduceEqDiff, ne_eq, not_true_eq_false, not_false_eq_true, Nat.one_ne_zero, Nat.zero_ne_one, Nat.succ_ne_self, Nat.reduceAdd, Bool.false_eq_true, false_implies, implies_true, reduceCtorEq, w3]
      · simp -implicitDefEqProofs only [go_sem, ↓reduceIte, Nat.reduceEqDiff, Nat.reduceAdd, Nat.reduceMul, Nat.reduceLT, Nat.reduceLeDiff, Nat.reduceSub, Int.reduceToNat, Int.reduceLE, Int.reduceLT, reduceCtorEq, Int.reduceEq, Int.reduceGT, Int.reduceGE, Int.reduceNeg, d, w3]
        refine kLoop_mk (i + 1) (by omega) (by omega) ?_
        refine sub_mk [] rfl rfl rfl ?_
        simp only [tmSub, hpSub, objSub, eqTm, eqHp, rn, lk, SV.ren, SV.renC, SV.renB, SV.renA, ren_ints, ren_strs, ren_pl, ren_svs, SV.v.injEq, Value.int.injEq, Body.ints.injEq, SV.ptr.injEq, SV.sl.injEq, Value.string.injEq, Value.bool.injEq, List.map_cons, List.map_nil, forall_const, Nat.reduceLT, Nat.lt_add_one, imp_self, true_and, and_true, and_self, ob_some, get_mk, lk_cons, ↓reduceIte, Nat.reduceEqDiff, ne_eq, not_true_eq_false, not_false_eq_true, Nat.one_ne_zero, Nat.zero_ne_one, Nat.succ_ne_self, Nat.reduceAdd, Bool.false_eq_true, false_implies, implies_true, reduceCtorEq, w3]
    · simp -implicitDefEqProofs only [go_sem, ↓reduceIte, Nat.reduceEqDiff, Nat.reduceAdd, Nat.reduceMul, Nat.reduceLT, Nat.reduceLeDiff, Nat.reduceSub, Int.reduceToNat, Int.reduceLE, Int.reduceLT, reduceCtorEq, Int.reduceEq, Int.reduceGT, Int.reduceGE, Int.reduceNeg, c]
      exact sub_val rfl (by decide) (by decide) rfl
theorem part_szB : ∀ {k : Nat} {wh : Bool} {j : Nat} {l : List ByteArray}, l.length = k → szB l → szB (part wh j l) := by
  intro k
  induction k using Nat.strongRecOn with
  | _ k ih =>
    intro wh j l hl hz
    by_cases h : j < l.length ∧ 1 ≤ j
    · have h1 := pw_le (n := l.length) (by omega)
      have h3 := pw_pos (n := l.length)
      intro s hs
      by_cases hi : j ≤ pw l.length
      · rw [part_le h.1 h.2 hi, List.mem_append] at hs
        rcases hs with hs | hs
        · exact ih (pw l.length) (by omega) (l := l.take (pw l.length)) (by rw [List.length_take]; omega) (szB_take hz) s hs
        · rw [List.mem_singleton] at hs; subst hs; exact root_size (szB_drop hz)
      · rw [part_gt h.1 h.2 hi, List.mem_append] at hs
        rcases hs with hs | hs
        · exact ih (l.length - pw l.length) (by omega) (l := l.drop (pw l.length)) (by rw [List.length_drop]) (szB_drop hz) s hs
        · rw [List.mem_singleton] at hs; subst hs; exact root_size (szB_take hz)
    · rw [part, dif_neg h]
      split
      · intro s hs; cases hs
      · intro s hs; rw [List.mem_singleton] at hs; subst hs; exact root_size hz
theorem conV_ok {l : List ByteArray} {j k : Nat} (hl : l.length = k) (hj : j ≤ k) (hj1 : 1 ≤ j) : conV j k (part true j l).length (part true j l) (root (l.take j)) (root l) = 0 := by
  unfold conV
  rw [if_neg (by omega)]
  by_cases h : j = k
  · subst h
    rw [if_pos rfl, part_eq (by omega), List.take_of_length_le (by omega), if_pos ⟨rfl, seq_self _⟩]
  · rw [if_neg (by omega), if_neg (by omega)]
    obtain ⟨q1, q2⟩ := part_ok (wh := true) (old := root (l.take j)) hl hj1 hj (fun _ => rfl)
    rw [Bool.true_and] at q1 q2
    have : joinB (!(cways j k).any id) (root (l.take j)) (cways j k).reverse (part true j l) (root l) = true := by
      unfold joinB
      rw [q2]
      simp only [q1, List.length_reverse, decide_true, seq_self, Bool.and_self]
    simp only [Int.toNat_natCast, this]
    rfl
theorem conV_len {j k z : Nat} {ps : List ByteArray} {old rt : ByteArray} (hz : z = ps.length) (hj : j ≤ k) (h1 : (j = k ∨ j = 0) → z ≠ 0) (h2 : j ≠ k → j ≠ 0 → z ≠ (cways j k).length + off (!(cways j k).any id)) : conV j k z ps old rt = 11 := by
  unfold conV
  rw [if_neg (by omega)]
  by_cases h : j = k
  · have := h1 (.inl h)
    subst h
    rw [if_pos rfl, if_neg (by omega)]
  · rw [if_neg (by omega)]
    by_cases h0 : j = 0
    · have := h1 (.inr h0)
      rw [if_pos (by omega), if_neg (by omega)]
    · rw [if_neg (by omega)]
      have : joinB (!(cways j k).any id) old (cways j k).reverse ps rt = false := by
        unfold joinB
        split
        · rw [decide_eq_false (by rw [List.length_reverse, ← hz]; exact h2 h h0)]; rfl
        · rfl
      simp only [Int.toNat_natCast, this]
      rfl
theorem treeConsistentW {k : Nat} {s : ByteArray} (hk : k ≤ 255) (hs : s.size ≤ 1073741000) :
    fnVC CT mTreeConsistent [.v (.int .u8 k), .v (.string s)] ⟨[], x⟩ 1 fun v H' n' => Sub 1 ⟨[(0, .v (.bool true))], ⟨[], x⟩, 1⟩ ⟨[(0, v)], H', n'⟩ := by
  unfold mTreeConsistent
  have e1 : ((k : Int)).tmod 40 = ((k % 40 : Nat) : Int) := by rw [Int.tmod_eq_emod_of_nonneg (by omega)]; omega
  have e2 : IntKind.i64.wrap ((k % 40 : Nat) : Int) = ((k % 40 : Nat) : Int) := by rw [wrap_i64 (by omega) (by omega)]
  simp -implicitDefEqProofs only [↓fnVC, initTm]
  simp -implicitDefEqProofs only [go_sem, ↓reduceIte, Nat.reduceEqDiff, Nat.reduceAdd, Nat.reduceMul, Nat.reduceLT, Nat.reduceLeDiff, Nat.reduceSub, Int.reduceToNat, Int.reduceLE, Int.reduceLT, reduceCtorEq, Int.reduceEq, Int.reduceGT, Int.reduceGE, Int.reduceNeg]
  refine at_call thashes8 hashesS ?_
  simp -implicitDefEqProofs only [go_sem, ↓reduceIte, Nat.reduceEqDiff, Nat.reduceAdd, Nat.reduceMul, Nat.reduceLT, Nat.reduceLeDiff, Nat.reduceSub, Int.reduceToNat, Int.reduceLE, Int.reduceLT, reduceCtorEq, Int.reduceEq, Int.reduceGT, Int.reduceGE, Int.reduceNeg, e1, e2]
  generalize hl : k % 40 = l
  have hl70 : l ≤ 40 := by omega
  refine at_call tleaves8 (leavesS (by omega) (by omega) (by decide)) ?_
  simp -implicitDefEqProofs only [go_sem, ↓reduceIte, Nat.reduceEqDiff, Nat.reduceAdd, Nat.reduceMul, Nat.reduceLT, Nat.reduceLeDiff, Nat.reduceSub, Int.reduceToNat, Int.reduceLE, Int.reduceLT, reduceCtorEq, Int.reduceEq, Int.reduceGT, Int.reduceGE, Int.reduceNeg]
  have hll := lvs_len (k := l) (s := s)
  have hz := lvs_szB (k := l) (s := s)
  generalize lvs l s = ss at hll hz ⊢
  have hz' : szB ((ss.drop 0).take l) := szB_take (szB_drop hz)
  have hsl : ss.take l = ss := List.take_of_length_le (by omega)
  have hrs := root_size hz
  refine at_call tRoot (rootS (i := 1) (ss := ss) (by rfl) (by omega) (by omega) hz') ?_
  simp -implicitDefEqProofs only [go_sem, ↓reduceIte, Nat.reduceEqDiff, Nat.reduceAdd, Nat.reduceMul, Nat.reduceLT, Nat.reduceLeDiff, Nat.reduceSub, Int.reduceToNat, Int.reduceLE, Int.reduceLT, reduceCtorEq, Int.reduceEq, Int.reduceGT, Int.reduceGE, Int.reduceNeg, hsl]
  refine loop_fam (fun (j : Nat) => j ≤ l + 1) (fun j => ⟨[(5, .sl 1 0 l 1), (6, .v (.string (root ss))), (7, .v (.int .i64 j))], ⟨[(1, some ⟨true, .strs ss⟩)], x⟩, 2⟩) (fun j => l + 1 - j) 0 (Nat.zero_le _) ?_ ?_
  · refine sub_mk [] rfl rfl rfl ?_
    simp only [tmSub, hpSub, objSub, eqTm, eqHp, rn, lk, SV.ren, SV.renC, SV.renB, SV.renA, ren_ints, ren_strs, ren_pl, ren_svs, SV.v.injEq, Value.int.injEq, Body.ints.injEq, SV.ptr.injEq, SV.sl.injEq, Value.string.injEq, Value.bool.injEq, List.map_cons, List.map_nil, forall_const, Nat.reduceLT, Nat.lt_add_one, imp_self, true_and, and_true, and_self, ob_some, get_mk, lk_cons, ↓reduceIte, Nat.reduceEqDiff, ne_eq, not_true_eq_false, not_false_eq_true, Nat.one_ne_zero, Nat.zero_ne_one, Nat.succ_ne_self, Nat.reduceAdd, Bool.false_eq_true, false_implies, implies_true, reduceCtorEq]
    rfl
  · intro j hj
    simp -implicitDefEqProofs only [go_sem, ↓reduceIte, Nat.reduceEqDiff, Nat.reduceAdd, Nat.reduceMul, Nat.reduceLT, Nat.reduceLeDiff, Nat.reduceSub, Int.reduceToNat, Int.reduceLE, Int.reduceLT, reduceCtorEq, Int.reduceEq, Int.reduceGT, Int.reduceGE, Int.reduceNeg]
    refine condK_bb (fun c => ?_) (fun c => ?_)
    · have c1 : j ≤ l := by have := of_decide_eq_true c; omega
      have w3 : IntKind.i64.wrap ((j : Int) + 1) = ((j + 1 : Nat) : Int) := by rw [wrap_i64 (by omega) (by omega)]; omega
      have hzj : szB ((ss.drop 0).take j) := szB_take (szB_drop hz)
      have hrj := root_size hzj
      by_cases hj0 : j = 0
      · subst hj0
        simp -implicitDefEqProofs only [go_sem, ↓reduceIte, Nat.reduceEqDiff, Nat.reduceAdd, Nat.reduceMul, Nat.reduceLT, Nat.reduceLeDiff, Nat.reduceSub, Int.reduceToNat, Int.reduceLE, Int.reduceLT, reduceCtorEq, Int.reduceEq, Int.reduceGT, Int.reduceGE, Int.reduceNeg, c]
        refine at_call tConsistency (consZ (a := 1) (o := 0)) ?_
        simp -implicitDefEqProofs only [go_sem, ↓reduceIte, Nat.reduceEqDiff, Nat.reduceAdd, Nat.reduceMul, Nat.reduceLT, Nat.reduceLeDiff, Nat.reduceSub, Int.reduceToNat, Int.reduceLE, Int.reduceLT, reduceCtorEq, Int.reduceEq, Int.reduceGT, Int.reduceGE, Int.reduceNeg]
        refine ⟨⟨by omega, by omega⟩, ?_⟩
        refine at_call tRoot (rootS (i := 1) (ss := ss) (by rfl) (by omega) (by omega) hzj) ?_
        have ok1 : conV ((0 : Nat) : Int) l 0 [] (root []) (root ss) = 0 := by
          show conV 0 l 0 [] (root []) (root ss) = 0
          unfold conV
          rw [if_neg (by omega)]
          by_cases h : (0 : Int) = (l : Int)
          · have : ss = [] := List.eq_nil_of_length_eq_zero (by omega)
            subst this
            rw [if_pos h, if_pos ⟨rfl, seq_self _⟩]
          · rw [if_neg h, if_pos rfl, if_pos ⟨rfl, by rw [root_nil]; exact seq_self _⟩]
        have ok2 : conV ((0 : Nat) : Int) l 1 [root ss] (root []) (root ss) = 11 := conV_len (j := 0) rfl (by omega) (fun _ => by decide) (fun _ h => absurd rfl h)
        have hr0 : (root []).size ≤ 536870000 := root_size (fun s hs => by cases hs)
        simp -implicitDefEqProofs only [go_sem, ↓reduceIte, Nat.reduceEqDiff, Nat.reduceAdd, Nat.reduceMul, Nat.reduceLT, Nat.reduceLeDiff, Nat.reduceSub, Int.reduceToNat, Int.reduceLE, Int.reduceLT, reduceCtorEq, Int.reduceEq, Int.reduceGT, Int.reduceGE, Int.reduceNeg]
        refine at_call tConsistent (conS (a := 0) (ss := []) (o := 0) (l := 0) rfl (by decide) (by decide) (by omega) (fun s hs => by cases hs) hr0) ?_
        simp -implicitDefEqProofs only [go_sem, ↓reduceIte, Nat.reduceEqDiff, Nat.reduceAdd, Nat.reduceMul, Nat.reduceLT, Nat.reduceLeDiff, Nat.reduceSub, Int.reduceToNat, Int.reduceLE, Int.reduceLT, reduceCtorEq, Int.reduceEq, Int.reduceGT, Int.reduceGE, Int.reduceNeg, ok1]
        refine at_call tConsistent (conS (a := 3) (ss := [root ss]) (o := 0) (l := 1) (by rfl) (by show 0 + 1 ≤ 1; decide) (by decide) (by omega) (fun s hs => by rw [List.mem_singleton] at hs; subst hs; exact hrs) hr0) ?_
        have g0 : decide (((0 : Nat) : Int) > 0) = false := rfl
        simp -implicitDefEqProofs only [go_sem, ↓reduceIte, Nat.reduceEqDiff, Nat.reduceAdd, Nat.reduceMul, Nat.reduceLT, Nat.reduceLeDiff, Nat.reduceSub, Int.reduceToNat, Int.reduceLE, Int.reduceLT, reduceCtorEq, Int.reduceEq, Int.reduceGT, Int.reduceGE, Int.reduceNeg, ok2, g0, w3]
        refine kLoop_mk (0 + 1) (by omega) (by omega) ?_
        refine sub_mk [] rfl rfl rfl ?_
        simp only [tmSub, hpSub, objSub, eqTm, eqHp, rn, lk, SV.ren, SV.renC, SV.renB, SV.renA, ren_ints, ren_strs, ren_pl, ren_svs, SV.v.injEq, Value.int.injEq, Body.ints.injEq, SV.ptr.injEq, SV.sl.injEq, Value.string.injEq, Value.bool.injEq, List.map_cons, List.map_nil, forall_const, Nat.reduceLT, Nat.lt_add_one, imp_self, true_and, and_true, and_self, ob_some, get_mk, lk_cons, ↓reduceIte, Nat.reduceEqDiff, ne_eq, not_true_eq_false, not_false_eq_true, Nat.one_ne_zero, Nat.zero_ne_one, Nat.succ_ne_self, Nat.reduceAdd, Bool.false_eq_true, false_implies, implies_true, reduceCtorEq, w3]
      · have hpl := part_len (wh := true) (l := ss) (j := j) rfl
        have ok1 := conV_ok hll c1 (by omega)
        obtain ⟨q1, _⟩ := part_ok (wh := true) (old := root (ss.take j)) hll (by omega) c1 (fun _ => rfl)
        rw [Bool.true_and] at q1
        simp -implicitDefEqProofs only [go_sem, ↓reduceIte, Nat.reduceEqDiff, Nat.reduceAdd, Nat.reduceMul, Nat.reduceLT, Nat.reduceLeDiff, Nat.reduceSub, Int.reduceToNat, Int.reduceLE, Int.reduceLT, reduceCtorEq, Int.reduceEq, Int.reduceGT, Int.reduceGE, Int.reduceNeg, c]
        refine at_call tConsistency (consS (a := 1) (ss := ss) (o := 0) (by rfl) (by omega) (by omega) c1 (by omega) hz' (by decide)) ?_
        simp -implicitDefEqProofs only [go_sem, ↓reduceIte, Nat.reduceEqDiff, Nat.reduceAdd, Nat.reduceMul, Nat.reduceLT, Nat.reduceLeDiff, Nat.reduceSub, Int.reduceToNat, Int.reduceLE, Int.reduceLT, reduceCtorEq, Int.reduceEq, Int.reduceGT, Int.reduceGE, Int.reduceNeg, hsl]
        have hpz : szB (part true j ss) := part_szB rfl hz
        generalize hP : part true j ss = P at hpl hpz ok1 q1 ⊢
        have hcp : List.take P.length P = P := List.take_length
        refine ⟨⟨by omega, by omega⟩, ?_⟩
        refine at_call tRoot (rootS (i := 1) (ss := ss) (by rfl) (by omega) (by omega) hzj) ?_
        simp -implicitDefEqProofs only [go_sem, ↓reduceIte, Nat.reduceEqDiff, Nat.reduceAdd, Nat.reduceMul, Nat.reduceLT, Nat.reduceLeDiff, Nat.reduceSub, Int.reduceToNat, Int.reduceLE, Int.reduceLT, reduceCtorEq, Int.reduceEq, Int.reduceGT, Int.reduceGE, Int.reduceNeg, Nat.sub_zero]
        refine at_call tConsistent (conS (a := 2) (ss := P) (o := 0) (l := P.length) (by rfl) (by omega) (by omega) (by omega) hpz hrj) ?_
        simp -implicitDefEqProofs only [go_sem, ↓reduceIte, Nat.reduceEqDiff, Nat.reduceAdd, Nat.reduceMul, Nat.reduceLT, Nat.reduceLeDiff, Nat.reduceSub, Int.reduceToNat, Int.reduceLE, Int.reduceLT, reduceCtorEq, Int.reduceEq, Int.reduceGT, Int.reduceGE, Int.reduceNeg, hcp, ok1]
        refine ⟨by omega, by omega, app_keep ?_⟩
        simp -implicitDefEqProofs only [go_sem, ↓reduceIte, Nat.reduceEqDiff, Nat.reduceAdd, Nat.reduceMul, Nat.reduceLT, Nat.reduceLeDiff, Nat.reduceSub, Int.reduceToNat, Int.reduceLE, Int.reduceLT, reduceCtorEq, Int.reduceEq, Int.reduceGT, Int.reduceGE, Int.reduceNeg, hcp]
        refine ⟨by rw [List.length_map], ?_⟩
        have hz2 : szB (P ++ [root ss]) := fun s hs => by
          rcases List.mem_append.1 hs with hs | hs
          · exact hpz s hs
          · rw [List.mem_singleton] at hs; subst hs; exact hrs
        have ok2 : conV j l (P.length + 1) (P ++ [root ss]) (root (ss.take j)) (root ss) = 11 := conV_len (by simp) c1 (fun _ => by omega) (fun _ _ => by omega)
        have hcp2 : List.take (P.length + 1) (P ++ [root ss]) = P ++ [root ss] := List.take_of_length_le (by simp)
        refine at_call tConsistent (conS (a := 4) (ss := P ++ [root ss]) (o := 0) (l := P.length + 1) (by rfl) (by simp) (by omega) (by omega) hz2 hrj) ?_
        simp -implicitDefEqProofs only [go_sem, ↓reduceIte, Nat.reduceEqDiff, Nat.reduceAdd, Nat.reduceMul, Nat.reduceLT, Nat.reduceLeDiff, Nat.reduceSub, Int.reduceToNat, Int.reduceLE, Int.reduceLT, reduceCtorEq, Int.reduceEq, Int.reduceGT, Int.reduceGE, Int.reduceNeg, hcp2, ok2]
        refine condK_bb (fun d => ?_) (fun d => ?_)
        · have dp : 0 < P.length := by have := of_decide_eq_true d; omega
          have w4 : IntKind.i64.wrap ((P.length : Int) - 1) = ((P.length - 1 : Nat) : Int) := by rw [wrap_i64 (by omega) (by omega)]; omega
          have hjl : j = l → P.length = 0 := fun h => by
            rw [← hP, part_eq (by omega)]; rfl
          have ok3 : conV j l (P.length - 1) (P.take (P.length - 1)) (root (ss.take j)) (root ss) = 11 := conV_len (by rw [List.length_take]; omega) c1 (fun h => by omega) (fun _ _ => by omega)
          simp -implicitDefEqProofs only [go_sem, ↓reduceIte, Nat.reduceEqDiff, Nat.reduceAdd, Nat.reduceMul, Nat.reduceLT, Nat.reduceLeDiff, Nat.reduceSub, Int.reduceToNat, Int.reduceLE, Int.reduceLT, reduceCtorEq, Int.reduceEq, Int.reduceGT, Int.reduceGE, Int.reduceNeg, d, w4, Nat.sub_zero]
          refine ⟨⟨by omega, by omega⟩, ?_⟩
          refine at_call tConsistent (conS (a := 2) (ss := P) (o := 0) (l := P.length - 1) (by rfl) (by omega) (by omega) (by omega) hpz hrj) ?_
          simp -implicitDefEqProofs only [go_sem, ↓reduceIte, Nat.reduceEqDiff, Nat.reduceAdd, Nat.reduceMul, Nat.reduceLT, Nat.reduceLeDiff, Nat.reduceSub, Int.reduceToNat, Int.reduceLE, Int.reduceLT, reduceCtorEq, Int.reduceEq, Int.reduceGT, Int.reduceGE, Int.reduceNeg, d, ok3, w3]
          refine kLoop_mk (j + 1) (by omega) (by omega) ?_
          refine sub_mk [] rfl rfl rfl ?_
          simp only [tmSub, hpSub, objSub, eqTm, eqHp, rn, lk, SV.ren, SV.renC, SV.renB, SV.renA, ren_ints, ren_strs, ren_pl, ren_svs, SV.v.injEq, Value.int.injEq, Body.ints.injEq, SV.ptr.injEq, SV.sl.injEq, Value.string.injEq, Value.bool.injEq, List.map_cons, List.map_nil, forall_const, Nat.reduceLT, Nat.lt_add_one, imp_self, true_and, and_true, and_self, ob_some, get_mk, lk_cons, ↓reduceIte, Nat.reduceEqDiff, ne_eq, not_true_eq_false, not_false_eq_true, Nat.one_ne_zero, Nat.zero_ne_one, Nat.succ_ne_self, Nat.reduceAdd, Bool.false_eq_true, false_implies, implies_true, reduceCtorEq, w3]
        · simp -implicitDefEqProofs only [go_sem, ↓reduceIte, Nat.reduceEqDiff, Nat.reduceAdd, Nat.reduceMul, Nat.reduceLT, Nat.reduceLeDiff, Nat.reduceSub, Int.reduceToNat, Int.reduceLE, Int.reduceLT, reduceCtorEq, Int.reduceEq, Int.reduceGT, Int.reduceGE, Int.reduceNeg, d, w3]
          refine kLoop_mk (j + 1) (by omega) (by omega) ?_
          refine sub_mk [] rfl rfl rfl ?_
          simp only [tmSub, hpSub, objSub, eqTm, eqHp, rn, lk, SV.ren, SV.renC, SV.renB, SV.renA, ren_ints, ren_strs, ren_pl, ren_svs, SV.v.injEq, Value.int.injEq, Body.ints.injEq, SV.ptr.injEq, SV.sl.injEq, Value.string.injEq, Value.bool.injEq, List.map_cons, List.map_nil, forall_const, Nat.reduceLT, Nat.lt_add_one, imp_self, true_and, and_true, and_self, ob_some, get_mk, lk_cons, ↓reduceIte, Nat.reduceEqDiff, ne_eq, not_true_eq_false, not_false_eq_true, Nat.one_ne_zero, Nat.zero_ne_one, Nat.succ_ne_self, Nat.reduceAdd, Bool.false_eq_true, false_implies, implies_true, reduceCtorEq, w3]
    · simp -implicitDefEqProofs only [go_sem, ↓reduceIte, Nat.reduceEqDiff, Nat.reduceAdd, Nat.reduceMul, Nat.reduceLT, Nat.reduceLeDiff, Nat.reduceSub, Int.reduceToNat, Int.reduceLE, Int.reduceLT, reduceCtorEq, Int.reduceEq, Int.reduceGT, Int.reduceGE, Int.reduceNeg, c]
      exact sub_val rfl (by decide) (by decide) rfl
end Go.Sx
