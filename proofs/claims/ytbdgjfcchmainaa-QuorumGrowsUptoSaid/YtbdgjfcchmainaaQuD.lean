/- The document's Check, rising lists, Make; lists that are the same. -/
import Derived.Test.YtbdgjfcchmainaaQuC

set_option linter.unusedVariables false
set_option linter.unusedSimpArgs false
set_option maxRecDepth 100000
namespace Go.Sx
attribute [local go_sem ↓] bind_mk intsB_mk strsB_mk svB_mk fnVC ob_some vc_skip vc_exit vc_ret vc_seq vc_block kSeq_normal kSeq_exit kSeq_ret kBlock_normal kBlock_exit kBlock_ret vc_reg vc_regD vc_cond condK_true condK_false vc_loop kLoop_exit kLoop_ret kRoll_normal kRoll_exit kRoll_ret vcOps_nil vcOps_cons gd_bool gd_undef put_some put_none vcT_fin vcT_pure vcT_act vcT_acts vcT_stop stab_none stab_some stabM_nil stabM_cons stabO_ld stabO_ldn stabO_slP stabO_b2s fldOf_ai fldOf_agg fldOf_ait fldOf_aggt intsOf_nil intsOf_cons strsOf_nil strsOf_cons c_omap ob_if lk_nil lk_cons ev_t ev_k z_mov z_pick z_bin z_binA z_binB z_binP z_un z_r2s z_conv z_s2b z_b2s z_mkM z_luM z_upM z_lenM lenMk_mp lenMk_nil plsOf_v z_delM asM_so plV_v plV_agg mpOf_mp mpOf_nil mpUp_mp asM_mp luV_ok luV_v z_allocT aggOf_mk z_boxT z_alloc z_bld z_bldI z_rowI z_rowS z_ld z_ldn z_st z_stn asN_ptr asN_fn z_nilck z_fld z_fadr z_idxA z_idxP z_idxS z_idxV z_slS z_slL z_slP z_mk z_lenS z_lenL z_app appC_ints appC_pl appC_sv appC_strs isS_strs loose_ints loose_pl loose_sv z_slM z_callv callvK_fn callvK_f callvK_yl vc_rangeF rfEnd_eq rfGo_none rfGo_ret rfGo_exit yGo_mk yEnd_n yEnd_r yEnd_e yRdy_mk yMid_n putPs_nil putPs_cons leaf_v leaf_ptr leaf_sl leaf_yl leaf_mp z_appS z_appST z_appZ z_cpyS z_mkfn reps_int reps_str z_rowV z_slnil nilK_zero z_cpy z_call asT_tup z_extT z_box boxOf_ai boxOf_agg boxOf_int boxOf_str boxOf_bool boxOf_ptr boxOf_sl sbin_int sbin_str sbinA_mk ae_nil ae_int ae_str sbinB_mk sbinP_nn sbinP_pn sbinP_np i_add i_sub i_mul i_quo i_rem i_and i_or i_xor i_andNot i_shl i_shr i_eql i_neq i_lss i_leq i_gtr i_geq st_add st_eql st_neq st_lss st_leq st_gtr st_geq bo_eql bo_neq pt_eql pt_neq un_neg un_xor un_not asI_mk asB_mk asS_mk asP_mk asSl_mk asBy_mk bnd_none bnd_some get_mk hput_mk hdel_mk kill_eq wrOf_eq rowOf_eq rsvs_0 rsvs_1 rsvs_2 rsvs_3 rsv_t rsv_c1 rsv_cn nt_v nt_ptr nt_sl nt_agg nt_ai get_ints get_strs get_pl get_sv getN_ints getN_sv set_ints set_strs set_sv setN_ints setN_sv part_ints part_strs part_sv cat_ints cat_strs cat_sv over_ints over_strs over_sv ones_ints ones_strs evs_nil evs_cons condK_eqt condK_eqf det_callP V_ns V_nn V_gs V_gn obC_mk fresh_ev freshT_ev freshR_ev setN_plagg setN_intsv setN_svai setN_svagg over_intsv set_pl setN_pl setN_plai getN_pl getN_strs part_pl cat_pl over_pl over_plints z_mm
attribute [local go_sem] initTm ne_eq not_true_eq_false not_false_eq_true true_and and_true List.length_cons List.length_nil Int.toNat_natCast Nat.add_zero Nat.zero_add Nat.mul_one List.getElem?_cons_zero List.drop_zero List.take_length List.take_succ_cons List.take_zero List.take_nil List.drop_succ_cons Option.map_some Nat.le_refl implies_true List.getElem?_cons_succ decide_true decide_false Bool.not_true Bool.not_false beq_self_eq_true Nat.succ_ne_self Nat.one_ne_zero Nat.zero_ne_one vk_mk hk_mk nk_mk tok_eq plsOf_map intsOf_map bodyOf_pl bodyOf_ints bodyOf_strs bodyOf_sv part_aggv part_agg part_ai part_int part_str part_bool part_sl part_ptr part_nil numsOf_map u_int u_str u_bool u_pnil u_sl u_ptr u_oci u_ocs evq_nil evq_cons fillS_nil fillS_cons u_ocb ones_pl cells_sv cells_ints cells_strs cells_pl smms_nil smms_cons smm_min smm_max plsOf_nil List.nil_append List.all_cons List.all_nil Bool.and_self Bool.true_and Bool.and_true zws_len zw_len zi_len List.set_cons_zero List.set_cons_succ List.flatMap_cons List.flatMap_nil List.append_nil
attribute [local go_sem_proc] Nat.reduceEqDiff Nat.reduceAdd Nat.reduceMul Nat.reduceLT Nat.reduceLeDiff Nat.reduceSub Int.reduceToNat Int.reduceLE Int.reduceLT reduceCtorEq Int.reduceEq Int.reduceGT Int.reduceGE Int.reduceNeg
attribute [local go_sem_proc ↓] reduceIte
section
open Go.Proofs
variable {H : Hp} {n : Nat} {x : Nat → Option SO}
theorem rcheckW {l : List ByteArray} {o m : Nat} {ss : List ByteArray} {need : Int} (hl : l = (ss.drop o).take m) (hm : o + m ≤ ss.length) : fnVC CT mrQCheck [.agg [.sl 1 o m 1, .v (.int .i64 need)]] ⟨[(1, some ⟨false, .strs ss⟩)], x⟩ 2 fun v H' n' => Sub 2 ⟨[(0, .v (.int .i64 (if okSet l need = true then 0 else 1)))], ⟨[], x⟩, 2⟩ ⟨[(0, v)], H', n'⟩ := by
  have hll : l.length = m := by rw [hl, List.length_take, List.length_drop]; omega
  have hget : ∀ j, j < m → ss.getD (o + j) .empty = l.getD j .empty := fun j hj => by rw [hl, take_getD hj, drop_getD]
  unfold mrQCheck
  simp -implicitDefEqProofs only [↓fnVC, initTm]
  simp -implicitDefEqProofs only [go_sem]
  by_cases a : 1 ≤ l.length ∧ l.length ≤ 16 ∧ 1 ≤ need ∧ need ≤ l.length
  · have c1 : decide ((m : Int) < 1) = false := decide_eq_false (by omega)
    have c2 : decide ((m : Int) > 16) = false := decide_eq_false (by omega)
    have c3 : decide (need < 1) = false := decide_eq_false (by omega)
    have c4 : decide (need > (m : Int)) = false := decide_eq_false (by omega)
    have f0 : okSet l need = okTo l m := by unfold okSet; rw [decide_eq_true a, hll]; rfl
    rw [f0]
    simp -implicitDefEqProofs only [go_sem, c1, c2, c3, c4]
    refine loop_fam (fun i : Nat => i ≤ m ∧ okTo l i = true) (fun i => ⟨[(1, .ptr 2 0), (2, .v (.int .i64 0)), (3, .v (.int .i64 i))], ⟨[(1, some ⟨false, .strs ss⟩), (2, some ⟨true, .sv [.sl 1 o m 1, .v (.int .i64 need)]⟩)], x⟩, 3⟩) (fun i => m - i) 0 ⟨Nat.zero_le _, rfl⟩ ?_ ?_
    · refine sub_mk [] rfl rfl rfl ?_
      simp only [tmSub, hpSub, objSub, eqTm, eqHp, rn, lk, SV.ren, SV.renC, SV.renB, SV.renA, ren_ints, ren_strs, ren_pl, ren_svs, SV.v.injEq, Value.int.injEq, Body.ints.injEq, SV.ptr.injEq, SV.sl.injEq, Value.string.injEq, Value.bool.injEq, List.map_cons, List.map_nil, forall_const, Nat.reduceLT, Nat.lt_add_one, imp_self, true_and, and_true, and_self, ob_some, get_mk, lk_cons, ↓reduceIte, Nat.reduceEqDiff, ne_eq, not_true_eq_false, not_false_eq_true, Nat.one_ne_zero, Nat.zero_ne_one, Nat.succ_ne_self, Nat.reduceAdd, Bool.false_eq_true, false_implies, implies_true, reduceCtorEq]
      rfl
    · intro i hi
      have hi1 := hi.1
      have hi2 := hi.2
      simp -implicitDefEqProofs only [go_sem]
      refine condK_bb (fun d => ?_) (fun d => ?_)
      · have d1 : i < m := by have := of_decide_eq_true d; omega
        have g1 := hget i d1
        by_cases z : (l.getD i .empty).size = 32
        · have z1 : decide (((l.getD i .empty).size : Int) = 32) = true := decide_eq_true (by omega)
          have w3 : IntKind.i64.wrap ((i : Int) + 1) = ((i + 1 : Nat) : Int) := by rw [wrap_i64 (by omega) (by omega)]; omega
          have hgo : okAt l i = true → okTo l (i + 1) = true := fun h => by simp only [okTo, hi2, h]; rfl
          by_cases y : i = 0
          · have y1 : decide ((i : Int) > 0) = false := decide_eq_false (by omega)
            simp -implicitDefEqProofs only [go_sem, d, g1, z1, y1]
            refine ⟨by omega, by omega, ?_⟩
            refine kLoop_mk (i + 1) ⟨by omega, hgo (by subst y; unfold okAt; rw [decide_eq_true z]; rfl)⟩ (by omega) ?_
            refine sub_mk [] rfl rfl rfl ?_
            simp only [tmSub, hpSub, objSub, eqTm, eqHp, rn, lk, SV.ren, SV.renC, SV.renB, SV.renA, ren_ints, ren_strs, ren_pl, ren_svs, SV.v.injEq, Value.int.injEq, Body.ints.injEq, SV.ptr.injEq, SV.sl.injEq, Value.string.injEq, Value.bool.injEq, List.map_cons, List.map_nil, forall_const, Nat.reduceLT, Nat.lt_add_one, imp_self, true_and, and_true, and_self, ob_some, get_mk, lk_cons, ↓reduceIte, Nat.reduceEqDiff, ne_eq, not_true_eq_false, not_false_eq_true, Nat.one_ne_zero, Nat.zero_ne_one, Nat.succ_ne_self, Nat.reduceAdd, Bool.false_eq_true, false_implies, implies_true, reduceCtorEq]
            exact w3
          · have y1 : decide ((i : Int) > 0) = true := decide_eq_true (by omega)
            have w1 : IntKind.i64.wrap ((i : Int) - 1) = ((i - 1 : Nat) : Int) := by rw [wrap_i64 (by omega) (by omega)]; omega
            have g2 := hget (i - 1) (by omega)
            simp -implicitDefEqProofs only [go_sem, d, g1, z1, y1, w1, g2]
            refine ⟨by omega, by omega, by omega, by omega, by omega, by omega, ?_⟩
            refine condK_bb (fun q => ?_) (fun q => ?_)
            · have hf : okAt l i = false := by
                have q1 : slt (l.getD (i - 1) .empty) (l.getD i .empty) = false := by simpa using q
                unfold okAt; rw [q1, decide_eq_false y]; simp
              have hno : okTo l m = false := okTo_no hf d1
              rw [hno]
              simp -implicitDefEqProofs only [go_sem, q]
              exact sub_val rfl (by decide) (by decide) rfl
            · have q1 : slt (l.getD (i - 1) .empty) (l.getD i .empty) = true := by simpa using q
              simp -implicitDefEqProofs only [go_sem, q, w3]
              refine kLoop_mk (i + 1) ⟨by omega, hgo (by unfold okAt; rw [q1, decide_eq_true z]; simp)⟩ (by omega) ?_
              refine sub_mk [] rfl rfl rfl ?_
              simp only [tmSub, hpSub, objSub, eqTm, eqHp, rn, lk, SV.ren, SV.renC, SV.renB, SV.renA, ren_ints, ren_strs, ren_pl, ren_svs, SV.v.injEq, Value.int.injEq, Body.ints.injEq, SV.ptr.injEq, SV.sl.injEq, Value.string.injEq, Value.bool.injEq, List.map_cons, List.map_nil, forall_const, Nat.reduceLT, Nat.lt_add_one, imp_self, true_and, and_true, and_self, ob_some, get_mk, lk_cons, ↓reduceIte, Nat.reduceEqDiff, ne_eq, not_true_eq_false, not_false_eq_true, Nat.one_ne_zero, Nat.zero_ne_one, Nat.succ_ne_self, Nat.reduceAdd, Bool.false_eq_true, false_implies, implies_true, reduceCtorEq]
        · have z1 : decide (((l.getD i .empty).size : Int) = 32) = false := decide_eq_false (by omega)
          have hf : okAt l i = false := by unfold okAt; rw [decide_eq_false z]; rfl
          have hno : okTo l m = false := okTo_no hf d1
          rw [hno]
          simp -implicitDefEqProofs only [go_sem, d, g1, z1]
          refine ⟨by omega, by omega, ?_⟩
          exact sub_val rfl (by decide) (by decide) rfl
      · have d1 : i = m := by have := of_decide_eq_false d; omega
        subst d1
        simp -implicitDefEqProofs only [go_sem, d]
        rw [hi2]
        exact sub_val rfl (by decide) (by decide) rfl
  · have f0 : okSet l need = false := by unfold okSet; rw [decide_eq_false a]; rfl
    rw [f0]
    by_cases c1 : (m : Int) < 1
    · have e1 : decide ((m : Int) < 1) = true := decide_eq_true c1
      simp -implicitDefEqProofs only [go_sem, e1]
      exact sub_val rfl (by decide) (by decide) rfl
    have e1 : decide ((m : Int) < 1) = false := decide_eq_false c1
    by_cases c2 : (m : Int) > 16
    · have e2 : decide ((m : Int) > 16) = true := decide_eq_true c2
      simp -implicitDefEqProofs only [go_sem, e1, e2]
      exact sub_val rfl (by decide) (by decide) rfl
    have e2 : decide ((m : Int) > 16) = false := decide_eq_false c2
    by_cases c3 : need < 1
    · have e3 : decide (need < 1) = true := decide_eq_true c3
      simp -implicitDefEqProofs only [go_sem, e1, e2, e3]
      exact sub_val rfl (by decide) (by decide) rfl
    have e3 : decide (need < 1) = false := decide_eq_false c3
    have e4 : decide (need > (m : Int)) = true := decide_eq_true (by omega)
    simp -implicitDefEqProofs only [go_sem, e1, e2, e3, e4]
    exact sub_val rfl (by decide) (by decide) rfl
theorem ins_at {s : ByteArray} : ∀ {P : List ByteArray} {n : Nat}, n ≤ P.length → (∀ i, i < n → slt (P.getD i .empty) s = true) → (n < P.length → slt (P.getD n .empty) s = false) →
    ins s P = if n < P.length ∧ P.getD n .empty = s then P else P.take n ++ s :: P.drop n
  | [], 0, _, _, _ => rfl
  | p :: P, 0, _, _, h => by
    have h0 : slt p s = false := h (Nat.succ_pos _)
    show (if slt p s = true then _ else if p = s then _ else _) = _
    rw [if_neg (by rw [h0]; decide)]
    by_cases e : p = s
    · rw [if_pos e, if_pos ⟨Nat.succ_pos _, e⟩]
    · rw [if_neg e, if_neg (fun h => e h.2)]; rfl
  | p :: P, n + 1, hn, hl, h => by
    have h0 : slt p s = true := hl 0 (Nat.succ_pos _)
    show (if slt p s = true then p :: ins s P else _) = _
    rw [if_pos h0, ins_at (P := P) (n := n) (by simpa using hn) (fun i hi => hl (i + 1) (by omega)) (fun hi => h (by simpa using hi))]
    have e1 : (p :: P).getD (n + 1) .empty = P.getD n .empty := rfl
    rw [e1]
    by_cases c : n < P.length ∧ P.getD n .empty = s
    · rw [if_pos c, if_pos ⟨by simpa using c.1, c.2⟩]
    · rw [if_neg c, if_neg (fun h => c ⟨by simpa using h.1, h.2⟩)]; rfl
theorem ins_len {s : ByteArray} : ∀ {P : List ByteArray}, (ins s P).length ≤ P.length + 1
  | [] => Nat.le_refl _
  | p :: P => by
    unfold ins
    split
    · have := ins_len (s := s) (P := P); simp only [List.length_cons]; omega
    · split <;> simp
theorem rising_len : ∀ (l : List ByteArray) (i : Nat), (rising (l.take i)).length ≤ i
  | l, 0 => Nat.le_refl _
  | l, i + 1 => by
    by_cases h : i < l.length
    · rw [List.take_add_one, List.getElem?_eq_getElem h]
      show (rising (l.take i ++ [l[i]])).length ≤ _
      rw [rising_succ]
      have := ins_len (s := l[i]) (P := rising (l.take i)); have := rising_len l i
      omega
    · rw [show l.take (i + 1) = l.take i by rw [List.take_of_length_le (by omega), List.take_of_length_le (by omega)]]
      have := rising_len l i; omega
theorem risingW {l : List ByteArray} {ss : List ByteArray} {o m : Nat} (hl : l = (ss.drop o).take m) (hm : o + m ≤ ss.length) (hb : m ≤ 100000) : fnVC CT mRising [.sl 1 o m 1] ⟨[(1, some ⟨false, .strs ss⟩)], x⟩ 2 fun v H' n' => Sub 2 ⟨[(0, .sl 2 0 (rising l).length 1)], ⟨[(2, some ⟨true, .strs (rising l)⟩)], x⟩, 3⟩ ⟨[(0, v)], H', n'⟩ := by
  have hll : l.length = m := by rw [hl, List.length_take, List.length_drop]; omega
  have hget : ∀ j, j < m → ss.getD (o + j) .empty = l.getD j .empty := fun j hj => by rw [hl, take_getD hj, drop_getD]
  unfold mRising
  simp -implicitDefEqProofs only [↓fnVC, initTm]
  simp -implicitDefEqProofs only [go_sem]
  refine loop_fam (fun (i : Nat) => i ≤ m)
    (fun i => ⟨[(0, .sl 1 o m 1), (3, .sl 2 0 (rising (l.take i)).length 1), (4, .v (.int .i64 i))], ⟨[(1, some ⟨false, .strs ss⟩), (2, some ⟨true, .strs (rising (l.take i))⟩)], x⟩, 3⟩) (fun i => m - i) 0 (Nat.zero_le _) ?_ ?_
  · refine sub_mk [(2, 0)] rfl rfl rfl ?_
    simp only [tmSub, hpSub, objSub, eqTm, eqHp, rn, lk, SV.ren, SV.renC, SV.renB, SV.renA, ren_ints, ren_strs, ren_pl, ren_svs, SV.v.injEq, Value.int.injEq, Body.ints.injEq, SV.ptr.injEq, SV.sl.injEq, Value.string.injEq, Value.bool.injEq, List.map_cons, List.map_nil, forall_const, Nat.reduceLT, Nat.lt_add_one, imp_self, true_and, and_true, and_self, ob_some, get_mk, lk_cons, ↓reduceIte, Nat.reduceEqDiff, ne_eq, not_true_eq_false, not_false_eq_true, Nat.one_ne_zero, Nat.zero_ne_one, Nat.succ_ne_self, Nat.reduceAdd, Bool.false_eq_true, false_implies, implies_true, reduceCtorEq]
    exact ⟨⟨rfl, rfl⟩, rfl⟩
  · intro i hi
    simp -implicitDefEqProofs only [go_sem]
    refine condK_bb (fun d => ?_) (fun d => ?_)
    · have d1 : i < m := by have := of_decide_eq_true d; omega
      have g1 := hget i d1
      have hrl := rising_len l i
      have hsu : rising (l.take (i + 1)) = ins (l.getD i .empty) (rising (l.take i)) := by
        rw [List.take_add_one, List.getD_eq_getElem?_getD, List.getElem?_eq_getElem (by omega)]; exact rising_succ
      have w3 : IntKind.i64.wrap ((i : Int) + 1) = ((i + 1 : Nat) : Int) := by rw [wrap_i64 (by omega) (by omega)]; omega
      generalize hs : l.getD i .empty = s at g1 hsu ⊢
      generalize hF : rising (l.take i) = F at hrl hsu ⊢
      simp -implicitDefEqProofs only [go_sem, d]
      refine loop_fam (fun (q : Nat) => q ≤ F.length ∧ ∀ j, j < q → slt (F.getD j .empty) s = true)
        (fun q => ⟨[(0, .sl 1 o m 1), (3, .sl 2 0 F.length 1), (4, .v (.int .i64 i)), (5, .v (.int .i64 q))], ⟨[(1, some ⟨false, .strs ss⟩), (2, some ⟨true, .strs F⟩)], x⟩, 3⟩) (fun q => F.length - q) 0 ⟨Nat.zero_le _, fun j hj => absurd hj (Nat.not_lt_zero _)⟩ ?_ ?_
      · refine sub_mk [] rfl rfl rfl ?_
        simp only [tmSub, hpSub, objSub, eqTm, eqHp, rn, lk, SV.ren, SV.renC, SV.renB, SV.renA, ren_ints, ren_strs, ren_pl, ren_svs, SV.v.injEq, Value.int.injEq, Body.ints.injEq, SV.ptr.injEq, SV.sl.injEq, Value.string.injEq, Value.bool.injEq, List.map_cons, List.map_nil, forall_const, Nat.reduceLT, Nat.lt_add_one, imp_self, true_and, and_true, and_self, ob_some, get_mk, lk_cons, ↓reduceIte, Nat.reduceEqDiff, ne_eq, not_true_eq_false, not_false_eq_true, Nat.one_ne_zero, Nat.zero_ne_one, Nat.succ_ne_self, Nat.reduceAdd, Bool.false_eq_true, false_implies, implies_true, reduceCtorEq]
        rfl
      · rintro q ⟨hq, hlt⟩
        simp -implicitDefEqProofs only [go_sem]
        by_cases c : q < F.length
        · have c1 : decide ((q : Int) < (F.length : Int)) = true := decide_eq_true (by omega)
          cases hsl : slt (F.getD q .empty) s with
          | true =>
            have w4 : IntKind.i64.wrap ((q : Int) + 1) = ((q + 1 : Nat) : Int) := by rw [wrap_i64 (by omega) (by omega)]; omega
            simp -implicitDefEqProofs only [go_sem, c1, g1, hsl, w4]
            refine ⟨by omega, by omega, by omega, by omega, ?_⟩
            refine kLoop_mk (q + 1) ⟨by omega, fun j hj => ?_⟩ (by omega) ?_
            · by_cases e : j = q
              · subst e; exact hsl
              · exact hlt j (by omega)
            refine sub_mk [] rfl rfl rfl ?_
            simp only [tmSub, hpSub, objSub, eqTm, eqHp, rn, lk, SV.ren, SV.renC, SV.renB, SV.renA, ren_ints, ren_strs, ren_pl, ren_svs, SV.v.injEq, Value.int.injEq, Body.ints.injEq, SV.ptr.injEq, SV.sl.injEq, Value.string.injEq, Value.bool.injEq, List.map_cons, List.map_nil, forall_const, Nat.reduceLT, Nat.lt_add_one, imp_self, true_and, and_true, and_self, ob_some, get_mk, lk_cons, ↓reduceIte, Nat.reduceEqDiff, ne_eq, not_true_eq_false, not_false_eq_true, Nat.one_ne_zero, Nat.zero_ne_one, Nat.succ_ne_self, Nat.reduceAdd, Bool.false_eq_true, false_implies, implies_true, reduceCtorEq]
          | false =>
            have hins := ins_at hq hlt fun _ => hsl
            by_cases e : F.getD q .empty = s
            · have e1 : seq (F.getD q .empty) s = true := by rw [e]; exact seq_self _
              rw [if_pos ⟨c, e⟩] at hins
              simp -implicitDefEqProofs only [go_sem, c1, g1, hsl, e1, w3]
              refine ⟨by omega, by omega, by omega, by omega, by omega, by omega, by omega, by omega, ?_⟩
              refine kLoop_mk (i + 1) (by omega) (by omega) ?_
              refine sub_mk [] rfl rfl rfl ?_
              simp only [tmSub, hpSub, objSub, eqTm, eqHp, rn, lk, SV.ren, SV.renC, SV.renB, SV.renA, ren_ints, ren_strs, ren_pl, ren_svs, SV.v.injEq, Value.int.injEq, Body.ints.injEq, SV.ptr.injEq, SV.sl.injEq, Value.string.injEq, Value.bool.injEq, List.map_cons, List.map_nil, forall_const, Nat.reduceLT, Nat.lt_add_one, imp_self, true_and, and_true, and_self, ob_some, get_mk, lk_cons, ↓reduceIte, Nat.reduceEqDiff, ne_eq, not_true_eq_false, not_false_eq_true, Nat.one_ne_zero, Nat.zero_ne_one, Nat.succ_ne_self, Nat.reduceAdd, Bool.false_eq_true, false_implies, implies_true, reduceCtorEq, hsu, hins]
            · have e1 : seq (F.getD q .empty) s = false := seq_ne e
              rw [if_neg (fun h => e h.2)] at hins
              simp -implicitDefEqProofs only [go_sem, c1, g1, hsl, e1, Nat.sub_zero]
              refine ⟨by omega, by omega, by omega, by omega, by omega, by omega, by omega, by omega, by omega, by omega, by omega, by omega, by omega, by omega, by omega, by omega, by rw [List.length_take]; omega, ?_⟩
              have t1 : (F.take q).length = q := by rw [List.length_take]; omega
              have t2 : (F.take q).take q = F.take q := by rw [List.take_take, Nat.min_self]
              refine app_kill ?_
              simp -implicitDefEqProofs only [go_sem, Nat.sub_zero, t2, List.drop_zero, List.take_succ_cons, List.take_zero, g1]
              have t3 : (F.take q ++ [s]).length = q + 1 := by rw [List.length_append, t1]; rfl
              have t4 : (F.take q ++ [s]).take (q + 1) = F.take q ++ [s] := List.take_of_length_le (by omega)
              have t5 : (F.drop q).take (F.length - q) = F.drop q := List.take_of_length_le (by rw [List.length_drop]; omega)
              refine ⟨by omega, by omega, by omega, by omega, by omega, app_kill ?_⟩
              simp -implicitDefEqProofs only [go_sem, List.drop_zero, t4, t5, w3]
              refine kLoop_mk (i + 1) (by omega) (by omega) ?_
              refine sub_mk [(2, 6)] rfl rfl rfl ?_
              simp only [tmSub, hpSub, objSub, eqTm, eqHp, rn, lk, SV.ren, SV.renC, SV.renB, SV.renA, ren_ints, ren_strs, ren_pl, ren_svs, SV.v.injEq, Value.int.injEq, Body.ints.injEq, SV.ptr.injEq, SV.sl.injEq, Value.string.injEq, Value.bool.injEq, List.map_cons, List.map_nil, forall_const, Nat.reduceLT, Nat.lt_add_one, imp_self, true_and, and_true, and_self, ob_some, get_mk, lk_cons, ↓reduceIte, Nat.reduceEqDiff, ne_eq, not_true_eq_false, not_false_eq_true, Nat.one_ne_zero, Nat.zero_ne_one, Nat.succ_ne_self, Nat.reduceAdd, Bool.false_eq_true, false_implies, implies_true, reduceCtorEq, hsu, hins]
              exact ⟨by rw [List.length_append, List.length_cons, t1, List.length_drop]; omega, by rw [List.append_assoc]; rfl⟩
        · have c1 : decide ((q : Int) < (F.length : Int)) = false := decide_eq_false (by omega)
          have hins := ins_at hq hlt fun h => absurd h c
          rw [if_neg (fun h => c h.1)] at hins
          simp -implicitDefEqProofs only [go_sem, c1, g1, Nat.sub_zero]
          refine ⟨by omega, by omega, by omega, by omega, by omega, by omega, by omega, by omega, by rw [List.length_take]; omega, ?_⟩
          have t1 : (F.take q).length = q := by rw [List.length_take]; omega
          have t2 : (F.take q).take q = F.take q := by rw [List.take_take, Nat.min_self]
          refine app_kill ?_
          simp -implicitDefEqProofs only [go_sem, Nat.sub_zero, t2, List.drop_zero, List.take_succ_cons, List.take_zero, g1]
          have t3 : (F.take q ++ [s]).length = q + 1 := by rw [List.length_append, t1]; rfl
          have t4 : (F.take q ++ [s]).take (q + 1) = F.take q ++ [s] := List.take_of_length_le (by omega)
          have t5 : (F.drop q).take (F.length - q) = F.drop q := List.take_of_length_le (by rw [List.length_drop]; omega)
          refine ⟨by omega, by omega, by omega, by omega, by omega, app_kill ?_⟩
          simp -implicitDefEqProofs only [go_sem, List.drop_zero, t4, t5, w3]
          refine kLoop_mk (i + 1) (by omega) (by omega) ?_
          refine sub_mk [(2, 6)] rfl rfl rfl ?_
          simp only [tmSub, hpSub, objSub, eqTm, eqHp, rn, lk, SV.ren, SV.renC, SV.renB, SV.renA, ren_ints, ren_strs, ren_pl, ren_svs, SV.v.injEq, Value.int.injEq, Body.ints.injEq, SV.ptr.injEq, SV.sl.injEq, Value.string.injEq, Value.bool.injEq, List.map_cons, List.map_nil, forall_const, Nat.reduceLT, Nat.lt_add_one, imp_self, true_and, and_true, and_self, ob_some, get_mk, lk_cons, ↓reduceIte, Nat.reduceEqDiff, ne_eq, not_true_eq_false, not_false_eq_true, Nat.one_ne_zero, Nat.zero_ne_one, Nat.succ_ne_self, Nat.reduceAdd, Bool.false_eq_true, false_implies, implies_true, reduceCtorEq, hsu, hins]
          exact ⟨by rw [List.length_append, List.length_cons, t1, List.length_drop]; omega, by rw [List.append_assoc]; rfl⟩
    · have d1 : i = m := by have := of_decide_eq_false d; omega
      subst d1
      have e5 : l.take i = l := List.take_of_length_le (by omega)
      simp -implicitDefEqProofs only [go_sem, d, e5]
      refine sub_mk [] rfl rfl rfl ?_
      simp only [tmSub, hpSub, objSub, eqTm, eqHp, rn, lk, SV.ren, SV.renC, SV.renB, SV.renA, ren_ints, ren_strs, ren_pl, ren_svs, SV.v.injEq, Value.int.injEq, Body.ints.injEq, SV.ptr.injEq, SV.sl.injEq, Value.string.injEq, Value.bool.injEq, List.map_cons, List.map_nil, forall_const, Nat.reduceLT, Nat.lt_add_one, imp_self, true_and, and_true, and_self, ob_some, get_mk, lk_cons, ↓reduceIte, Nat.reduceEqDiff, ne_eq, not_true_eq_false, not_false_eq_true, Nat.one_ne_zero, Nat.zero_ne_one, Nat.succ_ne_self, Nat.reduceAdd, Bool.false_eq_true, false_implies, implies_true, reduceCtorEq]
end
section
/- The document's Make; sets that are the same. -/
set_option linter.unusedVariables false
set_option linter.unusedSimpArgs false
set_option maxRecDepth 100000
open Go.Proofs
variable {H : Hp} {n : Nat} {x : Nat → Option SO}
theorem rcheckS {l : List ByteArray} {i o m : Nat} {ss : List ByteArray} {u : Bool} {need : Int} (hi : H.get i = some ⟨u, .strs ss⟩) (h0 : 0 < i) (hl : l = (ss.drop o).take m) (hm : o + m ≤ ss.length) : SpecAt Try.prog nrQCheck [.agg [.sl i o m 1, .v (.int .i64 need)]] H n (.v (.int .i64 (if okSet l need = true then 0 else 1))) H n := by
  have := lift_ro (n := n) (H := H) (lc := [(1, some ⟨false, .strs ss⟩)]) (okT.spec trQCheck (rcheckW (x := H.x) (need := need) hl hm)) [(1, i)] rfl rfl rfl (by omega) rfl rfl
    ⟨sub_ro rfl h0 hi rfl, trivial⟩ (by simp [apartB, apart1, rn, lk]) (by simp [wrNZ, rn, lk]) rfl
  exact this
theorem risingS {l : List ByteArray} {i o m : Nat} {ss : List ByteArray} {u : Bool} (hi : H.get i = some ⟨u, .strs ss⟩) (h0 : 0 < i) (hn : n + 1 ≤ 1000) (hl : l = (ss.drop o).take m) (hm : o + m ≤ ss.length) (hb : m ≤ 100000) :
    SpecAt Try.prog nRising [.sl i o m 1] H n (.sl n 0 (rising l).length 1) ⟨(n, some ⟨true, .strs (rising l)⟩) :: H.l, H.x⟩ (n + 1) := by
  have := lift (n := n) (okT.spec tRising (risingW (x := H.x) hl hm hb)) [(1, i)] rfl rfl rfl (by omega) rfl rfl
    ⟨sub_ro rfl h0 hi rfl, trivial⟩ (by simp [apartB, apart1, rn, lk]) (by simp [wrNZ, rn, lk]; try omega) (by omega)
  exact this
theorem rmakeW {l : List ByteArray} {o m : Nat} {ss : List ByteArray} {need : Int} (hl : l = (ss.drop o).take m) (hm : o + m ≤ ss.length) (hb : m ≤ 100000) : fnVC CT mrQMake [.sl 1 o m 1, .v (.int .i64 need)] ⟨[(1, some ⟨false, .strs ss⟩)], x⟩ 2 fun v H' n' => Sub 2 ⟨[(0, mkV l need 2)], ⟨[(2, some ⟨true, .strs (rising l)⟩)], x⟩, 3⟩ ⟨[(0, v)], H', n'⟩ := by
  have hll : l.length = m := by rw [hl, List.length_take, List.length_drop]; omega
  have hrl : (rising l).length ≤ 100000 := by have := rising_len l m; rw [List.take_of_length_le (by omega)] at this; omega
  unfold mrQMake
  simp -implicitDefEqProofs only [↓fnVC, initTm]
  simp -implicitDefEqProofs only [go_sem]
  refine at_call tRising (risingS (i := 1) (o := o) (m := m) (l := l) (ss := ss) (by rfl) (by decide) (by decide) hl hm hb) ?_
  simp -implicitDefEqProofs only [go_sem, spA, spB, spC, tk2]
  refine at_call trQCheck (rcheckS (i := 3) (l := rising l) (ss := rising l) (o := 0) (m := (rising l).length) (need := need) (by rfl) (by decide) (by rw [List.drop_zero, List.take_length]) (by omega)) ?_
  unfold mkV
  by_cases hk : okSet (rising l) need = true
  · rw [if_pos hk, if_pos hk]
    simp -implicitDefEqProofs only [go_sem, spA, spB, spC, tk2]
    refine sub_mk [(2, 3)] rfl rfl rfl ?_
    simp only [tmSub, hpSub, objSub, eqTm, eqHp, rn, lk, SV.ren, SV.renC, SV.renB, SV.renA, ren_ints, ren_strs, ren_pl, ren_svs, SV.v.injEq, Value.int.injEq, Body.ints.injEq, SV.ptr.injEq, SV.sl.injEq, Value.string.injEq, Value.bool.injEq, List.map_cons, List.map_nil, forall_const, Nat.reduceLT, Nat.lt_add_one, imp_self, true_and, and_true, and_self, ob_some, get_mk, lk_cons, ↓reduceIte, Nat.reduceEqDiff, ne_eq, not_true_eq_false, not_false_eq_true, Nat.one_ne_zero, Nat.zero_ne_one, Nat.succ_ne_self, Nat.reduceAdd, Bool.false_eq_true, false_implies, implies_true, reduceCtorEq]
  · rw [if_neg hk, if_neg hk]
    simp -implicitDefEqProofs only [go_sem, spA, spB, spC, tk2]
    refine sub_mk [(2, 3)] rfl rfl rfl ?_
    simp only [tmSub, hpSub, objSub, eqTm, eqHp, rn, lk, SV.ren, SV.renC, SV.renB, SV.renA, ren_ints, ren_strs, ren_pl, ren_svs, SV.v.injEq, Value.int.injEq, Body.ints.injEq, SV.ptr.injEq, SV.sl.injEq, Value.string.injEq, Value.bool.injEq, List.map_cons, List.map_nil, forall_const, Nat.reduceLT, Nat.lt_add_one, imp_self, true_and, and_true, and_self, ob_some, get_mk, lk_cons, ↓reduceIte, Nat.reduceEqDiff, ne_eq, not_true_eq_false, not_false_eq_true, Nat.one_ne_zero, Nat.zero_ne_one, Nat.succ_ne_self, Nat.reduceAdd, Bool.false_eq_true, false_implies, implies_true, reduceCtorEq]
theorem rmakeS {l : List ByteArray} {i o m : Nat} {ss : List ByteArray} {u : Bool} {need : Int} (hi : H.get i = some ⟨u, .strs ss⟩) (h0 : 0 < i) (hn : n + 1 ≤ 1000) (hl : l = (ss.drop o).take m) (hm : o + m ≤ ss.length) (hb : m ≤ 100000) :
    SpecAt Try.prog nrQMake [.sl i o m 1, .v (.int .i64 need)] H n (mkV l need n) ⟨(n, some ⟨true, .strs (rising l)⟩) :: H.l, H.x⟩ (n + 1) := by
  have h := okT.spec trQMake (rmakeW (x := H.x) (need := need) hl hm hb)
  have := lift (n := n) h [(1, i)] rfl rfl rfl (by omega) rfl rfl
    ⟨sub_ro rfl h0 hi rfl, trivial⟩ (by simp [apartB, apart1, rn, lk]) (by simp [wrNZ, rn, lk]; try omega) (by omega)
  unfold mkV at this ⊢
  split at this <;> rename_i c <;> first | rw [if_pos c] | rw [if_neg c]
  · exact this
  · exact this
theorem sameW {la lb ss tt : List ByteArray} {o m o' m' : Nat} (ha : la = (ss.drop o).take m) (hb : lb = (tt.drop o').take m') (h1 : o + m ≤ ss.length) (h2 : o' + m' ≤ tt.length) (hm : m ≤ 10000000) :
    fnVC CT mSameTexts [.sl 1 o m 1, .sl 2 o' m' 1] ⟨[(1, some ⟨false, .strs ss⟩), (2, some ⟨false, .strs tt⟩)], x⟩ 3 fun v H' n' => Sub 3 ⟨[(0, .v (.bool (decide (la = lb))))], ⟨[], x⟩, 3⟩ ⟨[(0, v)], H', n'⟩ := by
  have hla : la.length = m := by rw [ha, List.length_take, List.length_drop]; omega
  have hlb : lb.length = m' := by rw [hb, List.length_take, List.length_drop]; omega
  have ga : ∀ j, j < m → ss.getD (o + j) .empty = la.getD j .empty := fun j hj => by rw [ha, take_getD hj, drop_getD]
  have gb : ∀ j, j < m' → tt.getD (o' + j) .empty = lb.getD j .empty := fun j hj => by rw [hb, take_getD hj, drop_getD]
  unfold mSameTexts
  simp -implicitDefEqProofs only [↓fnVC, initTm]
  simp -implicitDefEqProofs only [go_sem]
  by_cases hmm : m = m'
  · subst hmm
    have g0 : decide ((m : Int) = (m : Int)) = true := decide_eq_true rfl
    simp -implicitDefEqProofs only [go_sem, g0]
    refine loop_fam (fun (i : Nat) => i ≤ m ∧ ∀ j, j < i → la.getD j .empty = lb.getD j .empty) (fun i => ⟨[(0, .sl 1 o m 1), (1, .sl 2 o' m 1), (5, .v (.int .i64 i))], ⟨[(1, some ⟨false, .strs ss⟩), (2, some ⟨false, .strs tt⟩)], x⟩, 3⟩) (fun i => m - i) 0 ⟨Nat.zero_le _, fun j hj => absurd hj (Nat.not_lt_zero _)⟩ ?_ ?_
    · refine sub_mk [] rfl rfl rfl ?_
      simp only [tmSub, hpSub, objSub, eqTm, eqHp, rn, lk, SV.ren, SV.renC, SV.renB, SV.renA, ren_ints, ren_strs, ren_pl, ren_svs, SV.v.injEq, Value.int.injEq, Body.ints.injEq, SV.ptr.injEq, SV.sl.injEq, Value.string.injEq, Value.bool.injEq, List.map_cons, List.map_nil, forall_const, Nat.reduceLT, Nat.lt_add_one, imp_self, true_and, and_true, and_self, ob_some, get_mk, lk_cons, ↓reduceIte, Nat.reduceEqDiff, ne_eq, not_true_eq_false, not_false_eq_true, Nat.one_ne_zero, Nat.zero_ne_one, Nat.succ_ne_self, Nat.reduceAdd, Bool.false_eq_true, false_implies, implies_true, reduceCtorEq]
      rfl
    · rintro i ⟨hi, he⟩
      simp -implicitDefEqProofs only [go_sem]
      refine condK_bb (fun c => ?_) (fun c => ?_)
      · have c1 : i < m := by have := of_decide_eq_true c; omega
        have w3 : IntKind.i64.wrap ((i : Int) + 1) = ((i + 1 : Nat) : Int) := by rw [wrap_i64 (by omega) (by omega)]; omega
        have g1 := ga i c1
        have g2 := gb i c1
        by_cases e : la.getD i .empty = lb.getD i .empty
        · have hq : seq (la.getD i .empty) (lb.getD i .empty) = true := by rw [e]; exact seq_self _
          simp -implicitDefEqProofs only [go_sem, c, g1, g2, hq, w3]
          refine ⟨⟨by omega, by omega⟩, by omega, ⟨by omega, by omega⟩, by omega, ?_⟩
          refine kLoop_mk (i + 1) ⟨by omega, fun j hj => ?_⟩ (by omega) ?_
          · by_cases q : j = i
            · subst q; exact e
            · exact he j (by omega)
          refine sub_mk [] rfl rfl rfl ?_
          simp only [tmSub, hpSub, objSub, eqTm, eqHp, rn, lk, SV.ren, SV.renC, SV.renB, SV.renA, ren_ints, ren_strs, ren_pl, ren_svs, SV.v.injEq, Value.int.injEq, Body.ints.injEq, SV.ptr.injEq, SV.sl.injEq, Value.string.injEq, Value.bool.injEq, List.map_cons, List.map_nil, forall_const, Nat.reduceLT, Nat.lt_add_one, imp_self, true_and, and_true, and_self, ob_some, get_mk, lk_cons, ↓reduceIte, Nat.reduceEqDiff, ne_eq, not_true_eq_false, not_false_eq_true, Nat.one_ne_zero, Nat.zero_ne_one, Nat.succ_ne_self, Nat.reduceAdd, Bool.false_eq_true, false_implies, implies_true, reduceCtorEq, w3]
        · have hq : seq (la.getD i .empty) (lb.getD i .empty) = false := seq_ne e
          have hne : decide (la = lb) = false := decide_eq_false fun h => e (by rw [h])
          rw [hne]
          simp -implicitDefEqProofs only [go_sem, c, g1, g2, hq]
          refine ⟨⟨by omega, by omega⟩, by omega, ⟨by omega, by omega⟩, by omega, ?_⟩
          exact sub_val rfl (by decide) (by decide) rfl
      · have c1 : i = m := by have := of_decide_eq_false c; omega
        subst c1
        have hyes : decide (la = lb) = true := decide_eq_true (List.ext_getElem (by omega) fun j h1 h2 => by
          have := he j (by omega)
          rw [List.getD_eq_getElem?_getD, List.getD_eq_getElem?_getD, List.getElem?_eq_getElem h1, List.getElem?_eq_getElem h2] at this
          exact this)
        rw [hyes]
        simp -implicitDefEqProofs only [go_sem, c]
        exact sub_val rfl (by decide) (by decide) rfl
  · have g0 : decide ((m : Int) = (m' : Int)) = false := decide_eq_false (by omega)
    have hne : decide (la = lb) = false := decide_eq_false fun h => hmm (by rw [← hla, ← hlb, h])
    rw [hne]
    simp -implicitDefEqProofs only [go_sem, g0]
    exact sub_val rfl (by decide) (by decide) rfl
theorem sameS {la lb ss tt : List ByteArray} {a b o m o' m' : Nat} {u1 u2 : Bool} (h3 : H.get a = some ⟨u1, .strs ss⟩) (h4 : H.get b = some ⟨u2, .strs tt⟩) (ne : 0 < a ∧ 0 < b) (ha : la = (ss.drop o).take m) (hb : lb = (tt.drop o').take m') (h1 : o + m ≤ ss.length) (h2 : o' + m' ≤ tt.length) (hm : m ≤ 10000000) :
    SpecAt Try.prog nSameTexts [.sl a o m 1, .sl b o' m' 1] H n (.v (.bool (decide (la = lb)))) H n := by
  have := lift_ro (n := n) (H := H) (lc := [(1, some ⟨false, .strs ss⟩), (2, some ⟨false, .strs tt⟩)]) (okT.spec tSameTexts (sameW (x := H.x) ha hb h1 h2 hm)) [(1, a), (2, b)] rfl rfl rfl (by omega) rfl rfl
    ⟨sub_ro rfl ne.1 h3 rfl, sub_ro rfl ne.2 h4 rfl, trivial⟩ (by simp [apartB, apart1, rn, lk]) (by simp [wrNZ, rn, lk]) rfl
  exact this
end
section
/- The document's Verify, Who, Enough. -/
set_option linter.unusedVariables false
set_option linter.unusedSimpArgs false
set_option maxRecDepth 100000
open Go.Proofs
variable {H : Hp} {n : Nat} {x : Nat → Option SO}
theorem rnumbW {g : ByteArray} (hg : g.size = 323) : fnVC CT mrKNumber [.v (.string g)] ⟨[], x⟩ 1 fun v H' n' => Sub 1 ⟨[(0, if knOK g = true then .tup [.v (.int .i64 (kn2 g)), .v (.int .i64 0)] else .tup [.v (.int .i64 0), .v (.int .i64 3)])], ⟨[], x⟩, 1⟩ ⟨[(0, v)], H', n'⟩ := by
  unfold mrKNumber
  simp -implicitDefEqProofs only [↓fnVC, initTm]
  have e0 : decide (((g.size : Nat) : Int) < 291) = false := decide_eq_false (by omega)
  have hb : ∀ i, (bts g).getD i 0 = ((byN g i : Nat) : Int) := fun i => by have := btsb g i; unfold byN; omega
  have l0 := byN_le g 0
  have l1 := byN_le g 1
  have l2 := byN_le g 2
  have q0 := hb 0
  have q1 := hb 1
  have q2 := hb 2
  have hdef : knOK g = decide (byN g 0 = 1 ∧ 256 * byN g 1 + byN g 2 < 2) := rfl
  have hk2 : kn2 g = 256 * byN g 1 + byN g 2 := rfl
  rw [hdef, hk2]
  generalize byN g 0 = b0 at l0 q0 ⊢
  generalize byN g 1 = b1 at l1 q1 ⊢
  generalize byN g 2 = b2 at l2 q2 ⊢
  have w1 : IntKind.i64.wrap (b0 : Int) = b0 := wrap_i64 (by omega) (by omega)
  simp -implicitDefEqProofs only [go_sem, e0, q0, q1, q2, w1]
  refine ⟨by omega, condK_bb (fun c => ?_) (fun c => ?_)⟩
  · have c1 : 4 < b0 := by have := of_decide_eq_true c; omega
    have f : decide (b0 = 1 ∧ 256 * b1 + b2 < 2) = false := decide_eq_false (by omega)
    rw [f]
    simp -implicitDefEqProofs only [go_sem, c]
    exact sub_val rfl (by decide) (by decide) rfl
  have c1 : b0 ≤ 4 := by have := of_decide_eq_false c; omega
  have w2 : IntKind.i64.wrap (32 * (b0 : Int)) = ((32 * b0 : Nat) : Int) := by rw [wrap_i64 (by omega) (by omega)]; omega
  have w3 : IntKind.i64.wrap (291 + ((32 * b0 : Nat) : Int)) = ((291 + 32 * b0 : Nat) : Int) := by rw [wrap_i64 (by omega) (by omega)]; omega
  simp -implicitDefEqProofs only [go_sem, c, w1, w2, w3, q0]
  by_cases h1 : b0 = 1
  · subst h1
    have e1 : decide (((g.size : Nat) : Int) = ((291 + 32 * 1 : Nat) : Int)) = true := decide_eq_true (by omega)
    have e2 : IntKind.i64.wrap (IntKind.i64.wrap ((b1 : Int) * 256) + (b2 : Int)) = ((256 * b1 + b2 : Nat) : Int) := by rw [wrap_i64 (n := (b1 : Int) * 256) (by omega) (by omega), wrap_i64 (by omega) (by omega)]; omega
    have v1 : IntKind.i64.wrap (b1 : Int) = b1 := wrap_i64 (by omega) (by omega)
    have v2 : IntKind.i64.wrap (b2 : Int) = b2 := wrap_i64 (by omega) (by omega)
    have e3 : ishl .i64 1 ((1 : Nat) : Int) = 2 := by decide
    simp -implicitDefEqProofs only [go_sem, e1, q0, q1, q2, e2, v1, v2, e3, w1]
    refine ⟨by omega, by omega, by omega, by omega, by decide, ?_⟩
    refine condK_bb (fun d => ?_) (fun d => ?_)
    · have d1 := of_decide_eq_true d
      have f : decide (1 = 1 ∧ 256 * b1 + b2 < 2) = false := decide_eq_false (by omega)
      rw [f]
      simp -implicitDefEqProofs only [go_sem, d]
      exact sub_val rfl (by decide) (by decide) rfl
    · have d1 := of_decide_eq_false d
      have f : decide (1 = 1 ∧ 256 * b1 + b2 < 2) = true := decide_eq_true (by omega)
      rw [f]
      simp -implicitDefEqProofs only [go_sem, d]
      exact sub_val rfl (by decide) (by decide) rfl
  · have e1 : decide (((g.size : Nat) : Int) = ((291 + 32 * b0 : Nat) : Int)) = false := decide_eq_false (by omega)
    have f : decide (b0 = 1 ∧ 256 * b1 + b2 < 2) = false := decide_eq_false (by omega)
    rw [f]
    simp -implicitDefEqProofs only [go_sem, e1]
    refine ⟨by omega, ?_⟩
    exact sub_val rfl (by decide) (by decide) rfl
theorem rnumbS {g : ByteArray} (hg : g.size = 323) : SpecAt Try.prog nrKNumber [.v (.string g)] H n (if knOK g = true then .tup [.v (.int .i64 (kn2 g)), .v (.int .i64 0)] else .tup [.v (.int .i64 0), .v (.int .i64 3)]) H n := by
  have h := okT.spec trKNumber (rnumbW (x := H.x) hg)
  cases hk : knOK g with
  | true => rw [hk] at h; exact lift_pure h rfl
  | false => rw [hk] at h; exact lift_pure h rfl
theorem rrecvS {k : Nat} {text g : ByteArray} (hk : k < 2) (ht : text.size ≤ 1000000000) (hg : g.size = 288) : SpecAt Try.prog nrRecover [.v (.int .i64 k), .v (.string text), .v (.string g)] H n (.tup [.v (.string (recv k text g)), .v (.int .i64 0)]) H n := lift_pure (okT.spec trRecover (by
  unfold mrRecover
  have e1 : decide ((k : Int) < 0) = false := decide_eq_false (by omega)
  have e2 : decide ((k : Int) > 65535) = false := decide_eq_false (by omega)
  have h288 : decide (((g.size : Nat) : Int) = 288) = true := decide_eq_true (by omega)
  simp -implicitDefEqProofs only [↓fnVC, initTm]
  simp -implicitDefEqProofs only [go_sem, e1, e2, h288]
  refine at_call trDigits (rdigitsS ht) ?_
  have hlen := dig_len text
  have hget := dig_get text
  have hrv : recv k text g = tagH 35 [rcA k (dig text) g 18] := rfl
  generalize dig text = D at hlen hget hrv ⊢
  have hdg : ∀ j, ((dgt D j : Nat) : Int) = D.getD j 0 ∧ dgt D j ≤ 15 := fun j => by have := hget j; unfold dgt; omega
  have hsp' : splice [(0 : Int), 0, 0, 0, 0, 0, 0, 0, 0, 0, 0, 0, 0, 0, 0, 0, 0, 0] 0 D = D := by
    show splice (List.replicate 18 (0 : Int)) 0 D = D
    unfold splice
    rw [hlen]
    simp [hlen]
  simp -implicitDefEqProofs only [go_sem, hsp']
  refine ⟨hlen, ?_⟩
  refine loop_fam (fun j : Nat => j ≤ 18) (fun j => ⟨[(0, .v (.int .i64 k)), (2, .v (.string g)), (8, .ptr 1 0), (9, .v (.string (rcA k D g j))), (10, .v (.int .i64 j))], ⟨[(1, some ⟨true, .ints .i64 D⟩)], H.x⟩, 2⟩) (fun j => 18 - j) 0 (by omega) ?_ ?_
  · refine sub_mk [] rfl rfl rfl ?_
    simp only [tmSub, hpSub, objSub, eqTm, eqHp, rn, lk, SV.ren, SV.renC, SV.renB, SV.renA, ren_ints, ren_strs, ren_pl, ren_svs, SV.v.injEq, Value.int.injEq, Body.ints.injEq, SV.ptr.injEq, SV.sl.injEq, Value.string.injEq, Value.bool.injEq, List.map_cons, List.map_nil, forall_const, Nat.reduceLT, Nat.lt_add_one, imp_self, true_and, and_true, and_self, ob_some, get_mk, lk_cons, ↓reduceIte, Nat.reduceEqDiff, ne_eq, not_true_eq_false, not_false_eq_true, Nat.one_ne_zero, Nat.zero_ne_one, Nat.succ_ne_self, Nat.reduceAdd, Bool.false_eq_true, false_implies, implies_true, reduceCtorEq]
    exact ⟨rfl, rfl⟩
  · intro j hj
    simp -implicitDefEqProofs only [go_sem]
    refine condK_bb (fun c => ?_) (fun c => ?_)
    · have c1 : j < 18 := by have := of_decide_eq_true c; omega
      have q1 : D.getD j 0 = ((dgt D j : Nat) : Int) := (hdg j).1.symm
      have w2 : IntKind.i64.wrap (16 * (j : Int)) = ((16 * j : Nat) : Int) := by rw [wrap_i64 (by omega) (by omega)]; omega
      have w3 : IntKind.i64.wrap (((16 * j : Nat) : Int) + 16) = ((16 * j + 16 : Nat) : Int) := by rw [wrap_i64 (by omega) (by omega)]; omega
      have w4 : IntKind.i64.wrap ((j : Int) + 1) = ((j + 1 : Nat) : Int) := by rw [wrap_i64 (by omega) (by omega)]; omega
      have z1 : (rcA k D g j).size = 16 * j := rcA_size hg hj
      have z2 : (rcP k D g j).size = 16 := rcP_size hg c1
      simp -implicitDefEqProofs only [go_sem, c, q1, w2, w3]
      refine ⟨by omega, by omega, by omega, ?_⟩
      refine at_call trlinks (rlinksS (k := k) (i := j) (f := dgt D j) (t := 15) hk c1 (hdg j).2 (Nat.le_refl _) (by rw [ByteArray.size_extract]; omega)) ?_
      have p1 : chn k j (dgt D j) (15 - dgt D j) (g.extract (16 * j) (16 * j + 16)) = rcP k D g j := rfl
      simp -implicitDefEqProofs only [go_sem, p1, w4]
      refine ⟨by omega, ?_⟩
      refine kLoop_mk (j + 1) (by omega) (by omega) ?_
      refine sub_mk [] rfl rfl rfl ?_
      simp only [tmSub, hpSub, objSub, eqTm, eqHp, rn, lk, SV.ren, SV.renC, SV.renB, SV.renA, ren_ints, ren_strs, ren_pl, ren_svs, SV.v.injEq, Value.int.injEq, Body.ints.injEq, SV.ptr.injEq, SV.sl.injEq, Value.string.injEq, Value.bool.injEq, List.map_cons, List.map_nil, forall_const, Nat.reduceLT, Nat.lt_add_one, imp_self, true_and, and_true, and_self, ob_some, get_mk, lk_cons, ↓reduceIte, Nat.reduceEqDiff, ne_eq, not_true_eq_false, not_false_eq_true, Nat.one_ne_zero, Nat.zero_ne_one, Nat.succ_ne_self, Nat.reduceAdd, Bool.false_eq_true, false_implies, implies_true, reduceCtorEq]
      rfl
    · have c1 : j = 18 := by have := of_decide_eq_false c; omega
      subst c1
      have z1 : (rcA k D g 18).size = 288 := rcA_size hg (Nat.le_refl _)
      simp -implicitDefEqProofs only [go_sem, c]
      refine at_call t13 (rtag_any (ss := [rcA k D g 18]) (m := 1) (by rfl) rfl (by decide) (by simp only [List.map_cons, List.map_nil, List.sum_cons, List.sum_nil]; omega)) ?_
      rw [← hrv]
      simp -implicitDefEqProofs only [go_sem]
      exact sub_val rfl (by decide) (by decide) rfl)) rfl
theorem rverW {id text g : ByteArray} (hg : g.size = 323) (ht : text.size ≤ 1000000000) : fnVC CT mrKVerify [.v (.string id), .v (.string text), .v (.string g)] ⟨[], x⟩ 1 fun v H' n' => Sub 1 ⟨[(0, .v (.int .i64 (ver id text g)))], ⟨[], x⟩, 1⟩ ⟨[(0, v)], H', n'⟩ := by
  unfold mrKVerify
  simp -implicitDefEqProofs only [↓fnVC, initTm]
  simp -implicitDefEqProofs only [go_sem]
  refine at_call trKNumber (rnumbS hg) ?_
  unfold ver
  by_cases hk : knOK g = true
  · rw [if_pos hk, if_pos hk]
    have hkk := of_decide_eq_true hk
    have hq : kn2 g < 2 := hkk.2
    have q0 : (bts g).getD 0 0 = ((1 : Nat) : Int) := by have := btsb g 0; have h := hkk.1; unfold byN at h; omega
    have s1 : (g.extract 3 291).size = 288 := by rw [ext_size _ (by omega) (by omega)]
    have s2 : (g.extract 291 323).size = 32 := by rw [ext_size _ (by omega) (by omega)]
    have htop : topOf text g = if kn2 g = 0 then tagH 37 [recv (kn2 g) text (g.extract 3 291), g.extract 291 323] else tagH 37 [g.extract 291 323, recv (kn2 g) text (g.extract 3 291)] := rfl
    have hts := topOf_size text g
    generalize topOf text g = top at htop hts ⊢
    simp -implicitDefEqProofs only [go_sem]
    refine ⟨by omega, ?_⟩
    refine at_call trRecover (rrecvS hq ht s1) ?_
    have s3 := recv_size (kn2 g) text (g.extract 3 291)
    generalize recv (kn2 g) text (g.extract 3 291) = R at s3 htop ⊢
    have w0 : IntKind.i64.wrap ((1 : Nat) : Int) = 1 := rfl
    have w1 : IntKind.i64.wrap (32 * 0) = 0 := rfl
    have w2 : IntKind.i64.wrap (291 + 0) = 291 := rfl
    have w3 : IntKind.i64.wrap (323 + 0) = 323 := rfl
    have w4 : IntKind.i64.wrap (0 + 1) = 1 := rfl
    simp -implicitDefEqProofs only [go_sem, q0, w0]
    refine loop_roll 2 ?_
    rw [LoopU_succ]
    generalize hP : g.extract 291 323 = P at s2 htop ⊢
    have hc : kn2 g = 0 ∨ kn2 g = 1 := by omega
    rcases hc with hc | hc
    · rw [hc, if_pos rfl] at htop
      rw [hc]
      have b1 : (ishr .i64 ((0 : Nat) : Int) 0).tmod 2 = 0 := by decide
      simp -implicitDefEqProofs only [go_sem, q0, w0, w1, w2, w3, w4, hP, b1]
      refine ⟨by omega, by omega, ?_⟩
      simp -implicitDefEqProofs only [go_sem, q0, w0, w1, w2, w3, w4, hP, b1]
      refine at_call t13 (rtag_any (ss := [R, P]) (m := 2) (by rfl) rfl (by decide) (by simp only [List.map_cons, List.map_nil, List.sum_cons, List.sum_nil]; omega)) ?_
      rw [← htop]
      simp -implicitDefEqProofs only [go_sem, q0, w0, w1, w2, w3, w4]
      rw [LoopU_succ]
      simp -implicitDefEqProofs only [go_sem, q0, w0, w1, w2, w3, w4]
      refine ⟨by omega, by omega, ?_⟩
      refine at_call trid (ridS (h := 1) (top := top) (by decide) (by omega)) ?_
      by_cases hI : idH 1 top = id
      · have hs : seq (idH 1 top) id = true := by rw [hI]; exact seq_self _
        rw [if_pos hI]
        simp -implicitDefEqProofs only [go_sem, hs]
        exact sub_val rfl (by decide) (by decide) rfl
      · have hs : seq (idH 1 top) id = false := seq_ne hI
        rw [if_neg hI]
        simp -implicitDefEqProofs only [go_sem, hs]
        exact sub_val rfl (by decide) (by decide) rfl
    · rw [hc, if_neg (by decide)] at htop
      rw [hc]
      have b1 : (ishr .i64 ((1 : Nat) : Int) 0).tmod 2 = 1 := by decide
      simp -implicitDefEqProofs only [go_sem, q0, w0, w1, w2, w3, w4, hP, b1]
      refine ⟨by omega, by omega, ?_⟩
      simp -implicitDefEqProofs only [go_sem, q0, w0, w1, w2, w3, w4, hP, b1]
      refine at_call t13 (rtag_any (ss := [P, R]) (m := 2) (by rfl) rfl (by decide) (by simp only [List.map_cons, List.map_nil, List.sum_cons, List.sum_nil]; omega)) ?_
      rw [← htop]
      simp -implicitDefEqProofs only [go_sem, q0, w0, w1, w2, w3, w4]
      rw [LoopU_succ]
      simp -implicitDefEqProofs only [go_sem, q0, w0, w1, w2, w3, w4]
      refine ⟨by omega, by omega, ?_⟩
      refine at_call trid (ridS (h := 1) (top := top) (by decide) (by omega)) ?_
      by_cases hI : idH 1 top = id
      · have hs : seq (idH 1 top) id = true := by rw [hI]; exact seq_self _
        rw [if_pos hI]
        simp -implicitDefEqProofs only [go_sem, hs]
        exact sub_val rfl (by decide) (by decide) rfl
      · have hs : seq (idH 1 top) id = false := seq_ne hI
        rw [if_neg hI]
        simp -implicitDefEqProofs only [go_sem, hs]
        exact sub_val rfl (by decide) (by decide) rfl
  · rw [if_neg hk, if_neg hk]
    simp -implicitDefEqProofs only [go_sem]
    exact sub_val rfl (by decide) (by decide) rfl
theorem rverS {id text g : ByteArray} (hg : g.size = 323) (ht : text.size ≤ 1000000000) : SpecAt Try.prog nrKVerify [.v (.string id), .v (.string text), .v (.string g)] H n (.v (.int .i64 (ver id text g))) H n := lift_pure (okT.spec trKVerify (rverW hg ht)) rfl
theorem sgP_1 {l : Sg} {j : Nat} (h : j < l.length) : (sgP l)[2 * j]? = some (.string (l.getD j gE).1) ∧ (sgP l)[2 * j + 1]? = some (.string (l.getD j gE).2) := by
  have e := sgP_at h
  have e0 := congrArg (fun m : List Value => m[0]?) e
  have e1 := congrArg (fun m : List Value => m[1]?) e
  simp only [List.getElem?_take, List.getElem?_drop] at e0 e1
  exact ⟨by simpa using e0, by simpa using e1⟩
theorem rwhoW {l : List ByteArray} {ss : List ByteArray} {o m : Nat} {gl gs : Sg} {p k : Nat} {text : ByteArray} {need : Int} (hl : l = (ss.drop o).take m) (hm : o + m ≤ ss.length) (hb : m ≤ 10000000) (hg : gl = (gs.drop p).take k) (hk : p + k ≤ gs.length) (hkb : k ≤ 10000000) (hz : sgZ gl) (ht : text.size ≤ 1000000000) :
    fnVC CT mrQWho [.agg [.sl 1 o m 1, .v (.int .i64 need)], .v (.string text), .sl 2 (2 * p) k 2] ⟨[(1, some ⟨false, .strs ss⟩), (2, some ⟨false, .pl (sgP gs)⟩)], x⟩ 3 fun v H' n' => Sub 3 ⟨[(0, .sl 3 0 (whoL l need text gl).length 1)], ⟨[(3, some ⟨true, .strs (whoL l need text gl)⟩)], x⟩, 4⟩ ⟨[(0, v)], H', n'⟩ := by
  have hll : l.length = m := by rw [hl, List.length_take, List.length_drop]; omega
  have hgl : gl.length = k := by rw [hg, List.length_take, List.length_drop]; omega
  have hget : ∀ j, j < m → ss.getD (o + j) .empty = l.getD j .empty := fun j hj => by rw [hl, take_getD hj, drop_getD]
  have gget : ∀ j, j < k → gs.getD (p + j) gE = gl.getD j gE := fun j hj => by rw [hg, take_getD hj, drop_getD]
  unfold mrQWho
  simp -implicitDefEqProofs only [↓fnVC, initTm]
  simp -implicitDefEqProofs only [go_sem]
  refine at_call trQCheck (rcheckS (i := 1) (l := l) (ss := ss) (o := o) (m := m) (need := need) (by rfl) (by decide) hl hm) ?_
  by_cases hok : okSet l need = true
  · have hw : whoL l need text gl = l.filter fun id => hit id text gl := if_pos hok
    rw [if_pos hok, hw]
    simp -implicitDefEqProofs only [go_sem]
    refine loop_fam (fun (j : Nat) => j ≤ m)
      (fun j => ⟨[(1, .v (.string text)), (2, .sl 2 (2 * p) k 2), (3, .ptr 3 0), (7, .sl 5 0 ((l.take j).filter fun id => hit id text gl).length 1), (8, .v (.int .i64 j))], ⟨[(1, some ⟨false, .strs ss⟩), (2, some ⟨false, .pl (sgP gs)⟩), (3, some ⟨true, .sv [.sl 1 o m 1, .v (.int .i64 need)]⟩), (5, some ⟨true, .strs ((l.take j).filter fun id => hit id text gl)⟩)], x⟩, 6⟩)
      (fun j => m - j) 0 (Nat.zero_le _) ?_ ?_
    · refine sub_mk [(5, 0)] rfl rfl rfl ?_
      simp only [tmSub, hpSub, objSub, eqTm, eqHp, rn, lk, SV.ren, SV.renC, SV.renB, SV.renA, ren_ints, ren_strs, ren_pl, ren_svs, SV.v.injEq, Value.int.injEq, Body.ints.injEq, SV.ptr.injEq, SV.sl.injEq, Value.string.injEq, Value.bool.injEq, List.map_cons, List.map_nil, forall_const, Nat.reduceLT, Nat.lt_add_one, imp_self, true_and, and_true, and_self, ob_some, get_mk, lk_cons, ↓reduceIte, Nat.reduceEqDiff, ne_eq, not_true_eq_false, not_false_eq_true, Nat.one_ne_zero, Nat.zero_ne_one, Nat.succ_ne_self, Nat.reduceAdd, Bool.false_eq_true, false_implies, implies_true, reduceCtorEq]
      exact ⟨⟨rfl, rfl⟩, rfl⟩
    · intro j hj
      simp -implicitDefEqProofs only [go_sem]
      refine condK_bb (fun d => ?_) (fun d => ?_)
      · have d1 : j < m := by have := of_decide_eq_true d; omega
        have g1 := hget j d1
        have e4 : l.take (j + 1) = l.take j ++ [l.getD j .empty] := by rw [List.take_add_one, List.getD_eq_getElem?_getD, List.getElem?_eq_getElem (by omega)]; rfl
        have w3 : IntKind.i64.wrap ((j : Int) + 1) = ((j + 1 : Nat) : Int) := by rw [wrap_i64 (by omega) (by omega)]; omega
        have hfl : ((l.take j).filter fun id => hit id text gl).length ≤ j := by refine Nat.le_trans (List.length_filter_le _ _) ?_; rw [List.length_take]; omega
        have e6 : (l.take (j + 1)).filter (fun id => hit id text gl) = (l.take j).filter (fun id => hit id text gl) ++ if hit (l.getD j .empty) text gl = true then [l.getD j .empty] else [] := by
          rw [e4, List.filter_append]; congr 1
          rw [List.filter_cons, List.filter_nil]
        generalize hF : (l.take j).filter (fun id => hit id text gl) = F at hfl e6 ⊢
        generalize hI : l.getD j .empty = id at g1 e6 ⊢
        have e7 : F.take F.length = F := List.take_of_length_le (Nat.le_refl _)
        simp -implicitDefEqProofs only [go_sem, d]
        refine loop_fam (fun (q : Nat) => q ≤ k ∧ ∀ i, i < q → hit1 id text (gl.getD i gE) = false)
          (fun q => ⟨[(1, .v (.string text)), (2, .sl 2 (2 * p) k 2), (3, .ptr 3 0), (7, .sl 5 0 F.length 1), (8, .v (.int .i64 j)), (9, .v (.int .i64 q))], ⟨[(1, some ⟨false, .strs ss⟩), (2, some ⟨false, .pl (sgP gs)⟩), (3, some ⟨true, .sv [.sl 1 o m 1, .v (.int .i64 need)]⟩), (5, some ⟨true, .strs F⟩)], x⟩, 6⟩)
          (fun q => k - q) 0 ⟨Nat.zero_le _, fun i hi => absurd hi (Nat.not_lt_zero _)⟩ ?_ ?_
        · refine sub_mk [] rfl rfl rfl ?_
          simp only [tmSub, hpSub, objSub, eqTm, eqHp, rn, lk, SV.ren, SV.renC, SV.renB, SV.renA, ren_ints, ren_strs, ren_pl, ren_svs, SV.v.injEq, Value.int.injEq, Body.ints.injEq, SV.ptr.injEq, SV.sl.injEq, Value.string.injEq, Value.bool.injEq, List.map_cons, List.map_nil, forall_const, Nat.reduceLT, Nat.lt_add_one, imp_self, true_and, and_true, and_self, ob_some, get_mk, lk_cons, ↓reduceIte, Nat.reduceEqDiff, ne_eq, not_true_eq_false, not_false_eq_true, Nat.one_ne_zero, Nat.zero_ne_one, Nat.succ_ne_self, Nat.reduceAdd, Bool.false_eq_true, false_implies, implies_true, reduceCtorEq]
          rfl
        · rintro q ⟨hq, hno⟩
          simp -implicitDefEqProofs only [go_sem]
          refine condK_bb (fun e => ?_) (fun e => ?_)
          · have q1 : q < k := by have := of_decide_eq_true e; omega
            obtain ⟨s1, s2⟩ := sgP_1 (l := gs) (j := p + q) (by omega)
            rw [gget q q1] at s1 s2
            have z1 : 2 * p + q * 2 = 2 * (p + q) := by omega
            have hz1 : (gl.getD q gE).2.size = 323 := hz _ (by rw [List.getD_eq_getElem?_getD, List.getElem?_eq_getElem (by omega)]; exact List.getElem_mem _)
            have hh1 : hit1 id text (gl.getD q gE) = (decide ((gl.getD q gE).1 = id) && decide (ver id text (gl.getD q gE).2 = 0)) := rfl
            generalize hgd : gl.getD q gE = sg at s1 s2 hz1 hh1 ⊢
            obtain ⟨qi, qs⟩ := sg
            simp only at s1 s2 hz1 hh1
            have w4 : IntKind.i64.wrap ((q : Int) + 1) = ((q + 1 : Nat) : Int) := by rw [wrap_i64 (by omega) (by omega)]; omega
            by_cases hi : qi = id
            · have e1 : seq qi id = true := by rw [hi]; exact seq_self _
              rw [decide_eq_true hi, Bool.true_and] at hh1
              simp -implicitDefEqProofs only [go_sem, e, z1, s1, s2, g1, e1]
              refine ⟨by omega, by omega, by omega, by omega, by omega, by omega, ?_⟩
              refine at_call trKVerify (rverS hz1 ht) ?_
              by_cases hv : ver id text qs = 0
              · have e2 : decide (ver id text qs = 0) = true := decide_eq_true hv
                rw [e2] at hh1
                have hf : hit id text gl = true := any_yes (d := gE) (j := q) (by omega) (by rw [hgd]; exact hh1)
                rw [if_pos hf] at e6
                simp -implicitDefEqProofs only [go_sem, e, e1, e2, g1]
                refine ⟨by omega, by omega, by omega, by omega, app_kill ?_⟩
                simp -implicitDefEqProofs only [go_sem, e7, w3]
                refine kLoop_mk (j + 1) (by omega) (by omega) ?_
                refine sub_mk [(5, 7)] rfl rfl rfl ?_
                simp only [tmSub, hpSub, objSub, eqTm, eqHp, rn, lk, SV.ren, SV.renC, SV.renB, SV.renA, ren_ints, ren_strs, ren_pl, ren_svs, SV.v.injEq, Value.int.injEq, Body.ints.injEq, SV.ptr.injEq, SV.sl.injEq, Value.string.injEq, Value.bool.injEq, List.map_cons, List.map_nil, forall_const, Nat.reduceLT, Nat.lt_add_one, imp_self, true_and, and_true, and_self, ob_some, get_mk, lk_cons, ↓reduceIte, Nat.reduceEqDiff, ne_eq, not_true_eq_false, not_false_eq_true, Nat.one_ne_zero, Nat.zero_ne_one, Nat.succ_ne_self, Nat.reduceAdd, Bool.false_eq_true, false_implies, implies_true, reduceCtorEq, w3, e6, e7]
                rw [List.length_append]; rfl
              · have e2 : decide (ver id text qs = 0) = false := decide_eq_false hv
                rw [e2] at hh1
                simp -implicitDefEqProofs only [go_sem, e, e1, e2, w4]
                refine kLoop_mk (q + 1) ⟨by omega, fun i hi => ?_⟩ (by omega) ?_
                · by_cases c : i = q
                  · subst c; rw [hgd]; exact hh1
                  · exact hno i (by omega)
                refine sub_mk [] rfl rfl rfl ?_
                simp only [tmSub, hpSub, objSub, eqTm, eqHp, rn, lk, SV.ren, SV.renC, SV.renB, SV.renA, ren_ints, ren_strs, ren_pl, ren_svs, SV.v.injEq, Value.int.injEq, Body.ints.injEq, SV.ptr.injEq, SV.sl.injEq, Value.string.injEq, Value.bool.injEq, List.map_cons, List.map_nil, forall_const, Nat.reduceLT, Nat.lt_add_one, imp_self, true_and, and_true, and_self, ob_some, get_mk, lk_cons, ↓reduceIte, Nat.reduceEqDiff, ne_eq, not_true_eq_false, not_false_eq_true, Nat.one_ne_zero, Nat.zero_ne_one, Nat.succ_ne_self, Nat.reduceAdd, Bool.false_eq_true, false_implies, implies_true, reduceCtorEq, w4]
            · have e1 : seq qi id = false := seq_ne hi
              rw [decide_eq_false hi, Bool.false_and] at hh1
              simp -implicitDefEqProofs only [go_sem, e, z1, s1, s2, g1, e1, w4]
              refine ⟨by omega, by omega, by omega, ?_⟩
              refine kLoop_mk (q + 1) ⟨by omega, fun i hi => ?_⟩ (by omega) ?_
              · by_cases c : i = q
                · subst c; rw [hgd]; exact hh1
                · exact hno i (by omega)
              refine sub_mk [] rfl rfl rfl ?_
              simp only [tmSub, hpSub, objSub, eqTm, eqHp, rn, lk, SV.ren, SV.renC, SV.renB, SV.renA, ren_ints, ren_strs, ren_pl, ren_svs, SV.v.injEq, Value.int.injEq, Body.ints.injEq, SV.ptr.injEq, SV.sl.injEq, Value.string.injEq, Value.bool.injEq, List.map_cons, List.map_nil, forall_const, Nat.reduceLT, Nat.lt_add_one, imp_self, true_and, and_true, and_self, ob_some, get_mk, lk_cons, ↓reduceIte, Nat.reduceEqDiff, ne_eq, not_true_eq_false, not_false_eq_true, Nat.one_ne_zero, Nat.zero_ne_one, Nat.succ_ne_self, Nat.reduceAdd, Bool.false_eq_true, false_implies, implies_true, reduceCtorEq, w4]
          · have q1 : q = k := by have := of_decide_eq_false e; omega
            subst q1
            have hf : hit id text gl = false := any_no (d := gE) fun i hi => hno i (by omega)
            rw [if_neg (by rw [hf]; decide), List.append_nil] at e6
            simp -implicitDefEqProofs only [go_sem, e, w3]
            refine kLoop_mk (j + 1) (by omega) (by omega) ?_
            refine sub_mk [] rfl rfl rfl ?_
            simp only [tmSub, hpSub, objSub, eqTm, eqHp, rn, lk, SV.ren, SV.renC, SV.renB, SV.renA, ren_ints, ren_strs, ren_pl, ren_svs, SV.v.injEq, Value.int.injEq, Body.ints.injEq, SV.ptr.injEq, SV.sl.injEq, Value.string.injEq, Value.bool.injEq, List.map_cons, List.map_nil, forall_const, Nat.reduceLT, Nat.lt_add_one, imp_self, true_and, and_true, and_self, ob_some, get_mk, lk_cons, ↓reduceIte, Nat.reduceEqDiff, ne_eq, not_true_eq_false, not_false_eq_true, Nat.one_ne_zero, Nat.zero_ne_one, Nat.succ_ne_self, Nat.reduceAdd, Bool.false_eq_true, false_implies, implies_true, reduceCtorEq, w3, e6]
      · have d1 : j = m := by have := of_decide_eq_false d; omega
        subst d1
        have e5 : l.take j = l := List.take_of_length_le (by omega)
        simp -implicitDefEqProofs only [go_sem, d, e5]
        refine sub_mk [(3, 5)] rfl rfl rfl ?_
        simp only [tmSub, hpSub, objSub, eqTm, eqHp, rn, lk, SV.ren, SV.renC, SV.renB, SV.renA, ren_ints, ren_strs, ren_pl, ren_svs, SV.v.injEq, Value.int.injEq, Body.ints.injEq, SV.ptr.injEq, SV.sl.injEq, Value.string.injEq, Value.bool.injEq, List.map_cons, List.map_nil, forall_const, Nat.reduceLT, Nat.lt_add_one, imp_self, true_and, and_true, and_self, ob_some, get_mk, lk_cons, ↓reduceIte, Nat.reduceEqDiff, ne_eq, not_true_eq_false, not_false_eq_true, Nat.one_ne_zero, Nat.zero_ne_one, Nat.succ_ne_self, Nat.reduceAdd, Bool.false_eq_true, false_implies, implies_true, reduceCtorEq]
  · have hw : whoL l need text gl = [] := if_neg hok
    rw [if_neg hok, hw]
    simp -implicitDefEqProofs only [go_sem]
    refine sub_mk [(3, 0)] rfl rfl rfl ?_
    simp only [tmSub, hpSub, objSub, eqTm, eqHp, rn, lk, SV.ren, SV.renC, SV.renB, SV.renA, ren_ints, ren_strs, ren_pl, ren_svs, SV.v.injEq, Value.int.injEq, Body.ints.injEq, SV.ptr.injEq, SV.sl.injEq, Value.string.injEq, Value.bool.injEq, List.map_cons, List.map_nil, forall_const, Nat.reduceLT, Nat.lt_add_one, imp_self, true_and, and_true, and_self, ob_some, get_mk, lk_cons, ↓reduceIte, Nat.reduceEqDiff, ne_eq, not_true_eq_false, not_false_eq_true, Nat.one_ne_zero, Nat.zero_ne_one, Nat.succ_ne_self, Nat.reduceAdd, Bool.false_eq_true, false_implies, implies_true, reduceCtorEq]
    rfl
theorem rwhoS {l : List ByteArray} {ss : List ByteArray} {a b o m : Nat} {gl gs : Sg} {p k : Nat} {text : ByteArray} {need : Int} {u1 u2 : Bool} (ha : H.get a = some ⟨u1, .strs ss⟩) (hb' : H.get b = some ⟨u2, .pl (sgP gs)⟩) (ne : 0 < a ∧ 0 < b) (hn : n + 1 ≤ 1000)
    (hl : l = (ss.drop o).take m) (hm : o + m ≤ ss.length) (hb : m ≤ 10000000) (hg : gl = (gs.drop p).take k) (hk : p + k ≤ gs.length) (hkb : k ≤ 10000000) (hz : sgZ gl) (ht : text.size ≤ 1000000000) :
    SpecAt Try.prog nrQWho [.agg [.sl a o m 1, .v (.int .i64 need)], .v (.string text), .sl b (2 * p) k 2] H n (.sl n 0 (whoL l need text gl).length 1) ⟨(n, some ⟨true, .strs (whoL l need text gl)⟩) :: H.l, H.x⟩ (n + 1) := by
  have := lift (n := n) (okT.spec trQWho (rwhoW (x := H.x) (need := need) hl hm hb hg hk hkb hz ht)) [(1, a), (2, b)] rfl rfl rfl (by omega) rfl rfl
    ⟨sub_ro rfl ne.1 ha rfl, sub_ro rfl ne.2 hb' rfl, trivial⟩ (by simp [apartB, apart1, rn, lk]) (by simp [wrNZ, rn, lk]; try omega) (by omega)
  exact this
theorem renoW {l : List ByteArray} {ss : List ByteArray} {o m : Nat} {gl gs : Sg} {p k : Nat} {text : ByteArray} {need : Int} (hl : l = (ss.drop o).take m) (hm : o + m ≤ ss.length) (hb : m ≤ 10000000) (hg : gl = (gs.drop p).take k) (hk : p + k ≤ gs.length) (hkb : k ≤ 10000000) (hz : sgZ gl) (ht : text.size ≤ 1000000000) :
    fnVC CT mrQEnough [.agg [.sl 1 o m 1, .v (.int .i64 need)], .v (.string text), .sl 2 (2 * p) k 2] ⟨[(1, some ⟨false, .strs ss⟩), (2, some ⟨false, .pl (sgP gs)⟩)], x⟩ 3 fun v H' n' => Sub 3 ⟨[(0, .v (.bool (enoB l need text gl)))], ⟨[], x⟩, 3⟩ ⟨[(0, v)], H', n'⟩ := by
  have hwl : (whoL l need text gl).length ≤ 10000000 := by
    unfold whoL; split
    · refine Nat.le_trans (List.length_filter_le _ _) ?_; rw [hl, List.length_take]; omega
    · exact Nat.zero_le _
  unfold mrQEnough
  simp -implicitDefEqProofs only [↓fnVC, initTm]
  simp -implicitDefEqProofs only [go_sem]
  refine at_call trQCheck (rcheckS (i := 1) (l := l) (ss := ss) (o := o) (m := m) (need := need) (by rfl) (by decide) hl hm) ?_
  unfold enoB
  by_cases hok : okSet l need = true
  · rw [if_pos hok, hok, Bool.true_and]
    simp -implicitDefEqProofs only [go_sem]
    refine at_call trQWho (rwhoS (a := 1) (b := 2) (l := l) (ss := ss) (o := o) (m := m) (gl := gl) (gs := gs) (p := p) (k := k) (need := need) (by rfl) (by rfl) (by decide) (by decide) hl hm hb hg hk hkb hz ht) ?_
    simp -implicitDefEqProofs only [go_sem]
    exact sub_val rfl (by decide) (by decide) rfl
  · have hok' : okSet l need = false := by simpa using hok
    rw [if_neg hok, hok', Bool.false_and]
    simp -implicitDefEqProofs only [go_sem]
    exact sub_val rfl (by decide) (by decide) rfl
theorem renoS {l : List ByteArray} {ss : List ByteArray} {a b o m : Nat} {gl gs : Sg} {p k : Nat} {text : ByteArray} {need : Int} {u1 u2 : Bool} (ha : H.get a = some ⟨u1, .strs ss⟩) (hb' : H.get b = some ⟨u2, .pl (sgP gs)⟩) (ne : 0 < a ∧ 0 < b)
    (hl : l = (ss.drop o).take m) (hm : o + m ≤ ss.length) (hb : m ≤ 10000000) (hg : gl = (gs.drop p).take k) (hk : p + k ≤ gs.length) (hkb : k ≤ 10000000) (hz : sgZ gl) (ht : text.size ≤ 1000000000) :
    SpecAt Try.prog nrQEnough [.agg [.sl a o m 1, .v (.int .i64 need)], .v (.string text), .sl b (2 * p) k 2] H n (.v (.bool (enoB l need text gl))) H n := by
  have := lift_ro (n := n) (H := H) (lc := [(1, some ⟨false, .strs ss⟩), (2, some ⟨false, .pl (sgP gs)⟩)]) (okT.spec trQEnough (renoW (x := H.x) (need := need) hl hm hb hg hk hkb hz ht)) [(1, a), (2, b)] rfl rfl rfl (by omega) rfl rfl
    ⟨sub_ro rfl ne.1 ha rfl, sub_ro rfl ne.2 hb' rfl, trivial⟩ (by simp [apartB, apart1, rn, lk]) (by simp [wrNZ, rn, lk]) rfl
  exact this
end
end Go.Sx