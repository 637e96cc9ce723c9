/- Layer 3: the reference's device, wherever it lies; what is told. -/
import Derived.Test.YtipnhjljhofabaaF3B

set_option linter.unusedVariables false
set_option linter.unusedSimpArgs false
set_option maxRecDepth 100000
namespace Go.Sx
attribute [local go_sem ↓] bind_mk intsB_mk strsB_mk svB_mk fnVC ob_some vc_skip vc_exit vc_ret vc_seq vc_block kSeq_normal kSeq_exit kSeq_ret kBlock_normal kBlock_exit kBlock_ret vc_reg vc_regD vc_cond condK_true condK_false vc_loop kLoop_exit kLoop_ret kRoll_normal kRoll_exit kRoll_ret vcOps_nil vcOps_cons gd_bool gd_undef put_some put_none vcT_fin vcT_pure vcT_act vcT_acts vcT_stop stab_none stab_some stabM_nil stabM_cons stabO_ld stabO_ldn stabO_slP stabO_b2s fldOf_ai fldOf_agg fldOf_ait fldOf_aggt intsOf_nil intsOf_cons strsOf_nil strsOf_cons c_omap ob_if lk_nil lk_cons ev_t ev_k z_mov z_pick z_bin z_binB z_binP z_un z_conv z_s2b z_b2s z_alloc z_bld z_bldI z_rowI z_rowS z_ld z_ldn z_st z_stn asN_ptr asN_fn z_nilck z_fld z_fadr z_idxA z_idxP z_idxS z_idxV z_slS z_slL z_slP z_mk z_lenS z_lenL z_app z_appS z_appZ z_cpyS z_mkfn reps_int reps_str z_rowV z_slnil nilK_zero z_cpy z_call asT_tup z_extT z_box boxOf_ai boxOf_agg boxOf_int boxOf_str boxOf_bool boxOf_ptr boxOf_sl sbin_int sbin_str sbinB_mk sbinP_nn sbinP_pn sbinP_np i_add i_sub i_mul i_quo i_rem i_and i_or i_xor i_andNot i_shl i_shr i_eql i_neq i_lss i_leq i_gtr i_geq st_add st_eql st_neq st_lss st_leq st_gtr st_geq bo_eql bo_neq pt_eql pt_neq un_neg un_xor un_not asI_mk asB_mk asS_mk asP_mk asSl_mk asBy_mk bnd_none bnd_some get_mk hput_mk hdel_mk kill_eq wrOf_eq rowOf_eq rsvs_0 rsvs_1 rsvs_2 rsvs_3 rsv_t rsv_c1 rsv_cn nt_v nt_ptr nt_sl nt_agg nt_ai get_ints get_strs get_pl get_sv getN_ints getN_sv set_ints set_strs set_sv setN_ints setN_sv part_ints part_strs part_sv cat_ints cat_strs cat_sv over_ints ones_ints ones_strs evs_nil evs_cons condK_eqt condK_eqf det_callP V_ns V_nn V_gs V_gn obC_mk fresh_ev setN_plagg setN_intsv setN_svai setN_svagg over_intsv set_pl setN_pl setN_plai getN_pl getN_strs part_pl cat_pl over_pl over_plints z_mm
attribute [local go_sem] initTm ne_eq not_true_eq_false not_false_eq_true true_and and_true List.length_cons List.length_nil Int.toNat_natCast Nat.add_zero Nat.zero_add Nat.mul_one List.getElem?_cons_zero List.drop_zero List.take_length List.take_succ_cons List.take_zero List.take_nil List.drop_succ_cons Option.map_some Nat.le_refl implies_true List.getElem?_cons_succ decide_true decide_false Bool.not_true Bool.not_false beq_self_eq_true Nat.succ_ne_self Nat.one_ne_zero Nat.zero_ne_one vk_mk hk_mk nk_mk tok_eq plsOf_map intsOf_map bodyOf_pl bodyOf_ints bodyOf_strs bodyOf_sv part_aggv part_agg part_ai part_int part_str part_bool part_sl part_ptr part_nil numsOf_map u_int u_str u_bool u_pnil u_sl u_ptr u_oci u_ocs evq_nil evq_cons fillS_nil fillS_cons u_ocb ones_pl cells_sv cells_ints cells_strs cells_pl smms_nil smms_cons smm_min smm_max plsOf_nil List.nil_append List.all_cons List.all_nil Bool.and_self Bool.true_and Bool.and_true zws_len zw_len zi_len List.set_cons_zero List.set_cons_succ List.flatMap_cons List.flatMap_nil List.append_nil
open Go.Proofs
variable {H : Hp} {n : Nat} {x : Nat → Option SO} {d d' : Fd} {i a b c : Nat} {u1 u2 u3 : Bool}

def refL (d : Fd) (i a b : Nat) (l : List (Nat × Option SO)) : List (Nat × Option SO) := (i, some ⟨true, refB d a b⟩) :: (a, some ⟨true, strB d.safe⟩) :: (b, some ⟨true, .pl (qrow d.pend)⟩) :: l
theorem refL_eq {l : List (Nat × Option SO)} : refL d i a b l = (i, some ⟨true, refB d a b⟩) :: (a, some ⟨true, strB d.safe⟩) :: (b, some ⟨true, .pl (qrow d.pend)⟩) :: l := rfl
theorem rbaG (h : RefAt H d i a b true u2 u3) (hd : d.ok) (hst : d.st < 1000000000000) (hoff : d.off = false) (hfa : d.fa ≠ 1) (hn : n + 2 ≤ 1000) (hD : baD d = d') :
    SpecAt Try.prog 32 [.ptr i 0] H n (.v (.int .i64 0)) ⟨refL d' i n (n + 1) H.l, H.x⟩ (n + 2) := by
  subst hD
  obtain ⟨hi, ha, hb, ⟨p1, p2, p3⟩, ⟨q1, q2, q3⟩, n1, n2, n3⟩ := h
  have := lift (n := n) (ok3.spec t32 (w32 (x := H.x) hd hst hoff hfa)) [(1, i), (2, a), (3, b)] rfl rfl rfl (by omega) rfl rfl
    ⟨sub_wr rfl p1 q1 hi rfl, sub_ro rfl p2 ha rfl, sub_ro rfl p3 hb rfl, trivial⟩
    (by simp [apartB, apart1, rn, lk, n1, n2, n3, Ne.symm n1, Ne.symm n2, Ne.symm n3]) (by simp [wrNZ, rn, lk]; try omega) (by omega)
  exact this
theorem rbaF {e : Int} (h : RefAt H d i a b true u2 u3) (hd : d.ok) (hw : (if d.off then some ((7 : Int), d) else if d.fa = 1 then some (7, stepD d) else none) = some (e, d')) :
    SpecAt Try.prog 32 [.ptr i 0] H n (.v (.int .i64 e)) ⟨(i, some ⟨true, refB d' a b⟩) :: H.l, H.x⟩ n := by
  obtain ⟨hi, ha, hb, ⟨p1, p2, p3⟩, ⟨q1, q2, q3⟩, n1, n2, n3⟩ := h
  have := lift (n := n) (ok3.spec t32 (w32n (x := H.x) hd hw)) [(1, i), (2, a), (3, b)] rfl rfl rfl (by omega) rfl rfl
    ⟨sub_wr rfl p1 q1 hi rfl, sub_ro rfl p2 ha rfl, sub_ro rfl p3 hb rfl, trivial⟩
    (by simp [apartB, apart1, rn, lk, n1, n2, n3, Ne.symm n1, Ne.symm n2, Ne.symm n3]) (by simp [wrNZ, rn, lk]; try omega) (by omega)
  exact this
theorem rwrG {k : Nat} {s : ByteArray} (h : RefAt H d i a b true u2 true) (hd : d.ok) (hk : k < d.seen.length) (hs : s.size ≤ 64) (hoff : d.off = false) (hfa : d.fa ≠ 1) (hst : d.st < 1000000000000) (hfew : d.pend.length < 1000000000) (hn : n < 1000) (hD : wrD d k s = d') :
    SpecAt Try.prog 36 [.ptr i 0, .v (.int .i64 k), .v (.string s)] H n (.v (.int .i64 0))
      ⟨(i, some ⟨true, refB d' a n⟩) :: (b, none) :: (n, some ⟨true, .pl (qrow d'.pend)⟩) :: H.l, H.x⟩ (n + 1) := by
  subst hD
  obtain ⟨hi, ha, hb, ⟨p1, p2, p3⟩, ⟨q1, q2, q3⟩, n1, n2, n3⟩ := h
  have := lift (n := n) (ok3.spec t36 (w36 (x := H.x) hd hk hs hoff hfa hst hfew)) [(1, i), (2, a), (3, b)] rfl rfl rfl (by omega) rfl rfl
    ⟨sub_wr rfl p1 q1 hi rfl, sub_ro rfl p2 ha rfl, sub_wr rfl p3 q3 hb rfl, trivial⟩
    (by simp [apartB, apart1, rn, lk, n1, n2, n3, Ne.symm n1, Ne.symm n2, Ne.symm n3]) (by simp [wrNZ, rn, lk]; try omega) (by omega)
  exact this
theorem rwrF {k e : Int} {s : ByteArray} (h : RefAt H d i a b true u2 u3) (hd : d.ok) (hw : wrNo d k s = some (e, d')) :
    SpecAt Try.prog 36 [.ptr i 0, .v (.int .i64 k), .v (.string s)] H n (.v (.int .i64 e)) ⟨(i, some ⟨true, refB d' a b⟩) :: H.l, H.x⟩ n := by
  obtain ⟨hi, ha, hb, ⟨p1, p2, p3⟩, ⟨q1, q2, q3⟩, n1, n2, n3⟩ := h
  have := lift (n := n) (ok3.spec t36 (w36n (x := H.x) hd hw)) [(1, i), (2, a), (3, b)] rfl rfl rfl (by omega) rfl rfl
    ⟨sub_wr rfl p1 q1 hi rfl, sub_ro rfl p2 ha rfl, sub_ro rfl p3 hb rfl, trivial⟩
    (by simp [apartB, apart1, rn, lk, n1, n2, n3, Ne.symm n1, Ne.symm n2, Ne.symm n3]) (by simp [wrNZ, rn, lk]; try omega) (by omega)
  exact this
theorem rcrG {r o m : Nat} {row : List Int} (h : RefAt H d i a b true u2 u3) (hd : d.ok) (hom : o + m ≤ row.length) (hr : rowAt H r (.ints .i64 []) = some (.ints .i64 row)) (hne : i ≠ r ∧ a ≠ r ∧ b ≠ r) (hn : n + 2 ≤ 1000) (hD : crD d ((row.drop o).take m) = d') :
    SpecAt Try.prog 35 [.ptr i 0, .agg [.sl r o m 1]] H n (.tup []) ⟨refL d' i n (n + 1) H.l, H.x⟩ (n + 2) := by
  subst hD
  obtain ⟨hi, ha, hb, ⟨p1, p2, p3⟩, ⟨q1, q2, q3⟩, n1, n2, n3⟩ := h
  have := lift (n := n) (ok3.spec t35 (w35 (x := H.x) hd hom)) [(1, i), (2, a), (3, b), (4, r)] rfl rfl rfl (by omega) rfl rfl
    ⟨sub_wr rfl p1 q1 hi rfl, sub_ro rfl p2 ha rfl, sub_ro rfl p3 hb rfl, rowAt_sub hr rfl ⟨rfl, fun _ h => (by cases h)⟩ rfl, trivial⟩
    (by simp [apartB, apart1, rn, lk, n1, n2, n3, hne.1, hne.2.1, hne.2.2, Ne.symm n1, Ne.symm n2, Ne.symm n3]) (by simp [wrNZ, rn, lk]; try omega) (by omega)
  exact this
theorem rfaG {k : Int} (h : RefAt H d i a b true u2 u3) (hD : { d with fa := max k 0 } = d') :
    SpecAt Try.prog 34 [.ptr i 0, .v (.int .i64 k)] H n (.tup []) ⟨(i, some ⟨true, refB d' a b⟩) :: H.l, H.x⟩ n := by
  subst hD
  obtain ⟨hi, ha, hb, ⟨p1, p2, p3⟩, ⟨q1, q2, q3⟩, n1, n2, n3⟩ := h
  have := lift (n := n) (ok3.spec t34 (w34 (x := H.x) (d := d) (k := k))) [(1, i), (2, a), (3, b)] rfl rfl rfl (by omega) rfl rfl
    ⟨sub_wr rfl p1 q1 hi rfl, sub_ro rfl p2 ha rfl, sub_ro rfl p3 hb rfl, trivial⟩
    (by simp [apartB, apart1, rn, lk, n1, n2, n3, Ne.symm n1, Ne.symm n2, Ne.symm n3]) (by simp [wrNZ, rn, lk]; try omega) (by omega)
  exact this
theorem rrdG {k : Int} (h : RefAt H d i a b u1 u2 u3) (hd : d.ok) (hs : Sn d) : SpecAt Try.prog 33 [.ptr i 0, .v (.int .i64 k)] H n (rdV d k) H n := by
  obtain ⟨hi, ha, hb, ⟨p1, p2, p3⟩, ⟨q1, q2, q3⟩, n1, n2, n3⟩ := h
  have := lift (n := n) (ok3.spec t33 (w33 (x := H.x) (k := k) hd hs)) [(1, i), (2, a), (3, b)] rfl rfl rfl (by omega) rfl rfl
    ⟨sub_ro rfl p1 hi rfl, sub_ro rfl p2 ha rfl, sub_ro rfl p3 hb rfl, trivial⟩ (by simp [apartB, apart1, rn, lk]) (by simp [wrNZ, rn, lk]; try omega) (by omega)
  have hv : ∀ π, (rdV d k).ren π = rdV d k := fun π => by unfold rdV; split <;> (try split) <;> rfl
  rw [hv] at this
  exact this
theorem ralG (h : RefAt H d i a b u1 u2 u3) (hd : d.ok) (hs : Sn d) (hn : n < 1000) : SpecAt Try.prog 37 [.ptr i 0] H n (.sl n 0 d.seen.length 1) ⟨(n, some ⟨true, strB d.seen⟩) :: H.l, H.x⟩ (n + 1) := by
  obtain ⟨hi, ha, hb, ⟨p1, p2, p3⟩, ⟨q1, q2, q3⟩, n1, n2, n3⟩ := h
  have := lift (n := n) (ok3.spec t37 (w37 (x := H.x) hd hs)) [(1, i), (2, a), (3, b)] rfl rfl rfl (by omega) rfl rfl
    ⟨sub_ro rfl p1 hi rfl, sub_ro rfl p2 ha rfl, sub_ro rfl p3 hb rfl, trivial⟩ (by simp [apartB, apart1, rn, lk]) (by simp [wrNZ, rn, lk]; try omega) (by omega)
  exact this
theorem rnwG {k : Nat} (h0 : 1 ≤ k) (hk : k ≤ 4096) (hn : n + 3 ≤ 1000) :
    SpecAt Try.prog 31 [.v (.int .i64 k)] H n (.tup [.ptr n 0, .v (.int .i64 0)]) ⟨refL (newD k) n (n + 1) (n + 1 + 1) H.l, H.x⟩ (n + 3) := by
  have := lift (n := n) (ok3.spec t31 (w31 (x := H.x) h0 hk)) [] rfl rfl rfl (by omega) rfl rfl trivial rfl rfl (by omega)
  exact this
theorem w31n {k : Int} (h : k < 1 ∨ 4096 < k) :
    fnVC C3 m31 [.v (.int .i64 k)] H n fun v H' n' => v = .tup [.v (.pointer none), .v (.int .i64 1)] ∧ H' = H ∧ n' = n := by
  unfold m31
  simp -implicitDefEqProofs only [↓fnVC, initTm]
  by_cases c1 : k < 1
  · have e1 : decide (k < 1) = true := decide_eq_true c1
    simp -implicitDefEqProofs only [go_sem, ↓reduceIte, Nat.reduceEqDiff, Nat.reduceAdd, Nat.reduceMul, Nat.reduceLT, Nat.reduceLeDiff, Nat.reduceSub, Int.reduceToNat, Int.reduceLE, Int.reduceLT, reduceCtorEq, Int.reduceEq, Int.reduceGT, Int.reduceGE, Int.reduceNeg, e1]
  · have e1 : decide (k < 1) = false := decide_eq_false c1
    have e2 : decide (k > 4096) = true := decide_eq_true (by omega)
    simp -implicitDefEqProofs only [go_sem, ↓reduceIte, Nat.reduceEqDiff, Nat.reduceAdd, Nat.reduceMul, Nat.reduceLT, Nat.reduceLeDiff, Nat.reduceSub, Int.reduceToNat, Int.reduceLE, Int.reduceLT, reduceCtorEq, Int.reduceEq, Int.reduceGT, Int.reduceGE, Int.reduceNeg, e1, e2]
theorem rnwF {k : Int} (h : k < 1 ∨ 4096 < k) : SpecAt Try.prog 31 [.v (.int .i64 k)] H n (.tup [.v (.pointer none), .v (.int .i64 1)]) H n := ok3.pure t31 (w31n h)
theorem w16 {k : Int} : fnVC C3 m16 [.ptr 1 0, .v (.int .i64 k)] (hp3r d x) 5 fun v H' n' => Sub 5 ⟨[(0, .tup [])], hp3r { d with fa := max k 0 } x, 5⟩ ⟨[(0, v)], H', n'⟩ := by
  unfold hp3r m16
  simp -implicitDefEqProofs only [↓fnVC, initTm]
  simp -implicitDefEqProofs only [go_sem, ↓reduceIte, Nat.reduceEqDiff, Nat.reduceAdd, Nat.reduceMul, Nat.reduceLT, Nat.reduceLeDiff, Nat.reduceSub, Int.reduceToNat, Int.reduceLE, Int.reduceLT, reduceCtorEq, Int.reduceEq, Int.reduceGT, Int.reduceGE, Int.reduceNeg, devB]
  refine sub_mk [] rfl rfl rfl ?_
  simp only [tmSub, hpSub, objSub, eqTm, eqHp, rn, lk, SV.ren, SV.renC, SV.renB, SV.renA, ren_ints, ren_strs, ren_pl, ren_svs, SV.v.injEq, Value.int.injEq, Body.ints.injEq, SV.ptr.injEq, SV.sl.injEq, Value.string.injEq, Value.bool.injEq, List.map_cons, List.map_nil, forall_const, Nat.reduceLT, Nat.lt_add_one, imp_self, true_and, and_true, and_self, ob_some, get_mk, lk_cons, ↓reduceIte, Nat.reduceEqDiff, ne_eq, not_true_eq_false, not_false_eq_true, Nat.one_ne_zero, Nat.zero_ne_one, Nat.succ_ne_self, Nat.reduceAdd, Bool.false_eq_true, false_implies, implies_true, reduceCtorEq]
  repeat' (first | rfl | apply And.intro)
theorem faG {k : Int} (h : DevAt H d i a b c) (hD : { d with fa := max k 0 } = d') : SpecAt Try.prog 16 [.ptr i 0, .v (.int .i64 k)] H n (.tup []) ⟨(i, some ⟨true, devB d' a b c⟩) :: H.l, H.x⟩ n := by
  subst hD
  obtain ⟨hi, ha, hb, hc, ⟨p1, p2, p3, p4⟩, ⟨q1, q2, q3, q4⟩, n1, n2, n3, n4, n5, n6⟩ := h
  have := lift (n := n) (ok3.spec t16 (w16 (x := H.x) (d := d) (k := k))) [(1, i), (2, a), (3, b), (4, c)] rfl rfl rfl (by omega) rfl rfl
    ⟨sub_wr rfl p1 q1 hi rfl, sub_ro rfl p2 ha rfl, sub_ro rfl p3 hb rfl, sub_ro rfl p4 hc rfl, trivial⟩
    (by simp [apartB, apart1, rn, lk, n1, n2, n3, n4, n5, n6, Ne.symm n1, Ne.symm n2, Ne.symm n3, Ne.symm n4, Ne.symm n5, Ne.symm n6]) (by simp [wrNZ, rn, lk]; try omega) (by omega)
  exact this
end Go.Sx

/- Layer 3: what a device tells; FlashPlays. -/
set_option linter.unusedVariables false
set_option linter.unusedSimpArgs false
set_option maxRecDepth 100000
namespace Go.Sx
attribute [local go_sem ↓] bind_mk intsB_mk strsB_mk svB_mk fnVC ob_some vc_skip vc_exit vc_ret vc_seq vc_block kSeq_normal kSeq_exit kSeq_ret kBlock_normal kBlock_exit kBlock_ret vc_reg vc_regD vc_cond condK_true condK_false vc_loop kLoop_exit kLoop_ret kRoll_normal kRoll_exit kRoll_ret vcOps_nil vcOps_cons gd_bool gd_undef put_some put_none vcT_fin vcT_pure vcT_act vcT_acts vcT_stop stab_none stab_some stabM_nil stabM_cons stabO_ld stabO_ldn stabO_slP stabO_b2s fldOf_ai fldOf_agg fldOf_ait fldOf_aggt intsOf_nil intsOf_cons strsOf_nil strsOf_cons c_omap ob_if lk_nil lk_cons ev_t ev_k z_mov z_pick z_bin z_binB z_binP z_un z_conv z_s2b z_b2s z_alloc z_bld z_bldI z_rowI z_rowS z_ld z_ldn z_st z_stn asN_ptr asN_fn z_nilck z_fld z_fadr z_idxA z_idxP z_idxS z_idxV z_slS z_slL z_slP z_mk z_lenS z_lenL z_app z_appS z_appZ z_cpyS z_mkfn reps_int reps_str z_rowV z_slnil nilK_zero z_cpy z_call asT_tup z_extT z_box boxOf_ai boxOf_agg boxOf_int boxOf_str boxOf_bool boxOf_ptr boxOf_sl sbin_int sbin_str sbinB_mk sbinP_nn sbinP_pn sbinP_np i_add i_sub i_mul i_quo i_rem i_and i_or i_xor i_andNot i_shl i_shr i_eql i_neq i_lss i_leq i_gtr i_geq st_add st_eql st_neq st_lss st_leq st_gtr st_geq bo_eql bo_neq pt_eql pt_neq un_neg un_xor un_not asI_mk asB_mk asS_mk asP_mk asSl_mk asBy_mk bnd_none bnd_some get_mk hput_mk hdel_mk kill_eq wrOf_eq rowOf_eq rsvs_0 rsvs_1 rsvs_2 rsvs_3 rsv_t rsv_c1 rsv_cn nt_v nt_ptr nt_sl nt_agg nt_ai get_ints get_strs get_pl get_sv getN_ints getN_sv set_ints set_strs set_sv setN_ints setN_sv part_ints part_strs part_sv cat_ints cat_strs cat_sv over_ints ones_ints ones_strs evs_nil evs_cons condK_eqt condK_eqf det_callP V_ns V_nn V_gs V_gn obC_mk fresh_ev setN_plagg setN_intsv setN_svai setN_svagg over_intsv set_pl setN_pl setN_plai getN_pl getN_strs part_pl cat_pl over_pl over_plints z_mm
attribute [local go_sem] initTm ne_eq not_true_eq_false not_false_eq_true true_and and_true List.length_cons List.length_nil Int.toNat_natCast Nat.add_zero Nat.zero_add Nat.mul_one List.getElem?_cons_zero List.drop_zero List.take_length List.take_succ_cons List.take_zero List.take_nil List.drop_succ_cons Option.map_some Nat.le_refl implies_true List.getElem?_cons_succ decide_true decide_false Bool.not_true Bool.not_false beq_self_eq_true Nat.succ_ne_self Nat.one_ne_zero Nat.zero_ne_one vk_mk hk_mk nk_mk tok_eq plsOf_map intsOf_map bodyOf_pl bodyOf_ints bodyOf_strs bodyOf_sv part_aggv part_agg part_ai part_int part_str part_bool part_sl part_ptr part_nil numsOf_map u_int u_str u_bool u_pnil u_sl u_ptr u_oci u_ocs evq_nil evq_cons fillS_nil fillS_cons u_ocb ones_pl cells_sv cells_ints cells_strs cells_pl smms_nil smms_cons smm_min smm_max plsOf_nil List.nil_append List.all_cons List.all_nil Bool.and_self Bool.true_and Bool.and_true zws_len zw_len zi_len List.set_cons_zero List.set_cons_succ List.flatMap_cons List.flatMap_nil List.append_nil
open Go.Proofs
variable {H : Hp} {n : Nat} {x : Nat → Option SO} {d d' : Fd} {i a b c : Nat} {u1 u2 u3 : Bool}

def two (d : Fd) (x : Nat → Option SO) : Hp := ⟨devL d 1 2 3 4 (refL d 5 6 7 []), x⟩
def tdI (d : Fd) (x : Nat → Option SO) (t : Nat) : St := ⟨[(0, .ptr 1 0), (1, .ptr 5 0), (5, .sl 8 0 d.seen.length 1), (49, .v (.int .i64 (min d.seen.length 70 : Nat))), (50, .v (.int .i64 t))],
  ⟨(8, some ⟨true, strB d.seen⟩) :: devL d 1 2 3 4 (refL d 5 6 7 []), x⟩, 9⟩
theorem w22 (hd : d.ok) (hsn : Sn d) : fnVC C3 m22 [.ptr 1 0, .ptr 5 0] (two d x) 8 fun v H' n' => Sub 8 ⟨[(0, .v (.bool true))], two d x, 8⟩ ⟨[(0, v)], H', n'⟩ := by
  have hmn : min (d.seen.length : Int) 70 = ((min d.seen.length 70 : Nat) : Int) := by omega
  unfold two devL refL m22
  simp -implicitDefEqProofs only [↓fnVC, initTm]
  simp -implicitDefEqProofs only [go_sem, ↓reduceIte, Nat.reduceEqDiff, Nat.reduceAdd, Nat.reduceMul, Nat.reduceLT, Nat.reduceLeDiff, Nat.reduceSub, Int.reduceToNat, Int.reduceLE, Int.reduceLT, reduceCtorEq, Int.reduceEq, Int.reduceGT, Int.reduceGE, Int.reduceNeg, devL_eq, refL_eq, refB]
  refine at_call t26 (seS rfl) ?_
  simp -implicitDefEqProofs only [go_sem, ↓reduceIte, Nat.reduceEqDiff, Nat.reduceAdd, Nat.reduceMul, Nat.reduceLT, Nat.reduceLeDiff, Nat.reduceSub, Int.reduceToNat, Int.reduceLE, Int.reduceLT, reduceCtorEq, Int.reduceEq, Int.reduceGT, Int.reduceGE, Int.reduceNeg]
  refine at_call t19 (peS rfl) ?_
  simp -implicitDefEqProofs only [go_sem, ↓reduceIte, Nat.reduceEqDiff, Nat.reduceAdd, Nat.reduceMul, Nat.reduceLT, Nat.reduceLeDiff, Nat.reduceSub, Int.reduceToNat, Int.reduceLE, Int.reduceLT, reduceCtorEq, Int.reduceEq, Int.reduceGT, Int.reduceGE, Int.reduceNeg]
  refine at_call t18 (stS rfl) ?_
  simp -implicitDefEqProofs only [go_sem, ↓reduceIte, Nat.reduceEqDiff, Nat.reduceAdd, Nat.reduceMul, Nat.reduceLT, Nat.reduceLeDiff, Nat.reduceSub, Int.reduceToNat, Int.reduceLE, Int.reduceLT, reduceCtorEq, Int.reduceEq, Int.reduceGT, Int.reduceGE, Int.reduceNeg]
  refine at_call t17 (offS rfl) ?_
  simp -implicitDefEqProofs only [go_sem, ↓reduceIte, Nat.reduceEqDiff, Nat.reduceAdd, Nat.reduceMul, Nat.reduceLT, Nat.reduceLeDiff, Nat.reduceSub, Int.reduceToNat, Int.reduceLE, Int.reduceLT, reduceCtorEq, Int.reduceEq, Int.reduceGT, Int.reduceGE, Int.reduceNeg, bne_self_eq_false]
  refine at_call t37 (ralG (d := d) (i := 5) (a := 6) (b := 7) ⟨rfl, rfl, rfl, by decide⟩ hd hsn (by decide)) ?_
  simp -implicitDefEqProofs only [go_sem, ↓reduceIte, Nat.reduceEqDiff, Nat.reduceAdd, Nat.reduceMul, Nat.reduceLT, Nat.reduceLeDiff, Nat.reduceSub, Int.reduceToNat, Int.reduceLE, Int.reduceLT, reduceCtorEq, Int.reduceEq, Int.reduceGT, Int.reduceGE, Int.reduceNeg, hmn]
  refine loop_fam (fun t : Nat => t ≤ min d.seen.length 70) (tdI d x) (fun t => min d.seen.length 70 - t) 0 (by omega) ?_ ?_
  · unfold tdI devL refL refB
    refine sub_mk [] rfl rfl rfl ?_
    simp only [tmSub, hpSub, objSub, eqTm, eqHp, rn, lk, SV.ren, SV.renC, SV.renB, SV.renA, ren_ints, ren_strs, ren_pl, ren_svs, SV.v.injEq, Value.int.injEq, Body.ints.injEq, SV.ptr.injEq, SV.sl.injEq, Value.string.injEq, Value.bool.injEq, List.map_cons, List.map_nil, forall_const, Nat.reduceLT, Nat.lt_add_one, imp_self, true_and, and_true, and_self, ob_some, get_mk, lk_cons, ↓reduceIte, Nat.reduceEqDiff, ne_eq, not_true_eq_false, not_false_eq_true, Nat.one_ne_zero, Nat.zero_ne_one, Nat.succ_ne_self, Nat.reduceAdd, Bool.false_eq_true, false_implies, implies_true, reduceCtorEq]
    repeat' (first | rfl | apply And.intro)
  · intro t ht
    unfold tdI
    simp -implicitDefEqProofs only [go_sem, ↓reduceIte, Nat.reduceEqDiff, Nat.reduceAdd, Nat.reduceMul, Nat.reduceLT, Nat.reduceLeDiff, Nat.reduceSub, Int.reduceToNat, Int.reduceLE, Int.reduceLT, reduceCtorEq, Int.reduceEq, Int.reduceGT, Int.reduceGE, Int.reduceNeg, devL_eq, refL_eq, refB]
    refine condK_bb (fun e1 => ?_) (fun e1 => ?_)
    · have c1 : t < min d.seen.length 70 := by simp only [decide_eq_true_eq] at e1; omega
      have p8 := strB_get (l := d.seen) (j := t) (by omega)
      have hw : IntKind.i64.wrap ((t : Int) + 1) = ((t + 1 : Nat) : Int) := by rw [wrap_i64 (by omega) (by omega)]; omega
      simp -implicitDefEqProofs only [go_sem, ↓reduceIte, Nat.reduceEqDiff, Nat.reduceAdd, Nat.reduceMul, Nat.reduceLT, Nat.reduceLeDiff, Nat.reduceSub, Int.reduceToNat, Int.reduceLE, Int.reduceLT, reduceCtorEq, Int.reduceEq, Int.reduceGT, Int.reduceGE, Int.reduceNeg]
      refine at_call t14 (rdS (d := d) (k := (t : Int)) (i := 1) (a := 2) (b := 3) (c := 4) ⟨rfl, rfl, rfl, rfl, by decide⟩ hd) ?_
      cases hoff : d.off with
      | true =>
        have hv : rdV d t = .tup [.v (.string ⟨#[]⟩), .v (.int .i64 7)] := by unfold rdV; rw [if_pos hoff]
        simp -implicitDefEqProofs only [go_sem, ↓reduceIte, Nat.reduceEqDiff, Nat.reduceAdd, Nat.reduceMul, Nat.reduceLT, Nat.reduceLeDiff, Nat.reduceSub, Int.reduceToNat, Int.reduceLE, Int.reduceLT, reduceCtorEq, Int.reduceEq, Int.reduceGT, Int.reduceGE, Int.reduceNeg, hv, seq_self3, hw]
        refine kLoop_mk (t + 1) (by omega) (by omega) ?_
        unfold devL refL refB
        refine sub_mk [] rfl rfl rfl ?_
        simp only [tmSub, hpSub, objSub, eqTm, eqHp, rn, lk, SV.ren, SV.renC, SV.renB, SV.renA, ren_ints, ren_strs, ren_pl, ren_svs, SV.v.injEq, Value.int.injEq, Body.ints.injEq, SV.ptr.injEq, SV.sl.injEq, Value.string.injEq, Value.bool.injEq, List.map_cons, List.map_nil, forall_const, Nat.reduceLT, Nat.lt_add_one, imp_self, true_and, and_true, and_self, ob_some, get_mk, lk_cons, ↓reduceIte, Nat.reduceEqDiff, ne_eq, not_true_eq_false, not_false_eq_true, Nat.one_ne_zero, Nat.zero_ne_one, Nat.succ_ne_self, Nat.reduceAdd, Bool.false_eq_true, false_implies, implies_true, reduceCtorEq, hoff]
        repeat' (first | rfl | apply And.intro)
      | false =>
        have hv : rdV d t = .tup [.v (.string (tx (d.seen.getD t []))), .v (.int .i64 0)] := by unfold rdV; rw [if_neg (by rw [hoff]; simp), if_neg (by omega), Int.toNat_natCast]
        simp -implicitDefEqProofs only [go_sem, ↓reduceIte, Nat.reduceEqDiff, Nat.reduceAdd, Nat.reduceMul, Nat.reduceLT, Nat.reduceLeDiff, Nat.reduceSub, Int.reduceToNat, Int.reduceLE, Int.reduceLT, reduceCtorEq, Int.reduceEq, Int.reduceGT, Int.reduceGE, Int.reduceNeg, hv, strB, p8, seq_self3, hw]
        refine ⟨by omega, by rw [List.length_map]; omega, kLoop_mk (t + 1) (by omega) (by omega) ?_⟩
        unfold devL refL refB
        refine sub_mk [] rfl rfl rfl ?_
        simp only [tmSub, hpSub, objSub, eqTm, eqHp, rn, lk, SV.ren, SV.renC, SV.renB, SV.renA, ren_ints, ren_strs, ren_pl, ren_svs, SV.v.injEq, Value.int.injEq, Body.ints.injEq, SV.ptr.injEq, SV.sl.injEq, Value.string.injEq, Value.bool.injEq, List.map_cons, List.map_nil, forall_const, Nat.reduceLT, Nat.lt_add_one, imp_self, true_and, and_true, and_self, ob_some, get_mk, lk_cons, ↓reduceIte, Nat.reduceEqDiff, ne_eq, not_true_eq_false, not_false_eq_true, Nat.one_ne_zero, Nat.zero_ne_one, Nat.succ_ne_self, Nat.reduceAdd, Bool.false_eq_true, false_implies, implies_true, reduceCtorEq, hoff]
        repeat' (first | rfl | apply And.intro)
    · simp -implicitDefEqProofs only [go_sem, ↓reduceIte, Nat.reduceEqDiff, Nat.reduceAdd, Nat.reduceMul, Nat.reduceLT, Nat.reduceLeDiff, Nat.reduceSub, Int.reduceToNat, Int.reduceLE, Int.reduceLT, reduceCtorEq, Int.reduceEq, Int.reduceGT, Int.reduceGE, Int.reduceNeg]
      refine sub_mk [] rfl rfl rfl ?_
      simp only [tmSub, hpSub, objSub, eqTm, eqHp, rn, lk, SV.ren, SV.renC, SV.renB, SV.renA, ren_ints, ren_strs, ren_pl, ren_svs, SV.v.injEq, Value.int.injEq, Body.ints.injEq, SV.ptr.injEq, SV.sl.injEq, Value.string.injEq, Value.bool.injEq, List.map_cons, List.map_nil, forall_const, Nat.reduceLT, Nat.lt_add_one, imp_self, true_and, and_true, and_self, ob_some, get_mk, lk_cons, ↓reduceIte, Nat.reduceEqDiff, ne_eq, not_true_eq_false, not_false_eq_true, Nat.one_ne_zero, Nat.zero_ne_one, Nat.succ_ne_self, Nat.reduceAdd, Bool.false_eq_true, false_implies, implies_true, reduceCtorEq]
      repeat' (first | rfl | apply And.intro)
theorem toG {j p q : Nat} (h : DevAt H d i a b c) (h' : RefAt H d j p q true true true) (hd : d.ok) (hsn : Sn d) (hne : (i ≠ j ∧ i ≠ p ∧ i ≠ q) ∧ (a ≠ j ∧ a ≠ p ∧ a ≠ q) ∧ (b ≠ j ∧ b ≠ p ∧ b ≠ q) ∧ c ≠ j ∧ c ≠ p ∧ c ≠ q) :
    SpecAt Try.prog 22 [.ptr i 0, .ptr j 0] H n (.v (.bool true)) ⟨devL d i a b c (refL d j p q H.l), H.x⟩ n := by
  obtain ⟨hi, ha, hb, hc, ⟨p1, p2, p3, p4⟩, ⟨q1, q2, q3, q4⟩, n1, n2, n3, n4, n5, n6⟩ := h
  obtain ⟨hj, hp, hq, ⟨p5, p6, p7⟩, ⟨q5, q6, q7⟩, n7, n8, n9⟩ := h'
  obtain ⟨⟨m1, m2, m3⟩, ⟨m4, m5, m6⟩, ⟨m7, m8, m9⟩, m10, m11, m12⟩ := hne
  have := lift (n := n) (ok3.spec t22 (w22 (x := H.x) hd hsn)) [(1, i), (2, a), (3, b), (4, c), (5, j), (6, p), (7, q)] rfl rfl rfl (by omega) rfl rfl
    ⟨sub_wr rfl p1 q1 hi rfl, sub_wr rfl p2 q2 ha rfl, sub_wr rfl p3 q3 hb rfl, sub_wr rfl p4 q4 hc rfl, sub_wr rfl p5 q5 hj rfl, sub_wr rfl p6 q6 hp rfl, sub_wr rfl p7 q7 hq rfl, trivial⟩
    (by simp [devL, refL, apartB, apart1, rn, lk, n1, n2, n3, n4, n5, n6, n7, n8, n9, m1, m2, m3, m4, m5, m6, m7, m8, m9, m10, m11, m12, Ne.symm n1, Ne.symm n2, Ne.symm n3, Ne.symm n4, Ne.symm n5, Ne.symm n6, Ne.symm n7, Ne.symm n8, Ne.symm n9, Ne.symm m1, Ne.symm m2, Ne.symm m3, Ne.symm m4, Ne.symm m5, Ne.symm m6, Ne.symm m7, Ne.symm m8, Ne.symm m9, Ne.symm m10, Ne.symm m11, Ne.symm m12])
    (by simp [devL, refL, wrNZ, rn, lk]; omega) (by omega)
  exact this
/-- A device, some calls later. -/
structure Pl (d : Fd) (k t : Nat) : Prop where
  ok : d.ok
  len : d.seen.length = k
  sn : Sn d
  st : d.st ≤ t
  few : d.pend.length ≤ t
theorem Pl.new {k : Nat} (hk : k ≤ 4096) : Pl (newD k) k 0 := ⟨newD_ok hk, by simp [newD], Sn.new, by simp [newD], by simp [newD]⟩
theorem Pl.wr {k t j : Nat} {s : ByteArray} (h : Pl d k t) (hj : j < k) (hs : s.size ≤ 64) (hf : d.fa ≠ 1) (ht : t < 1000000) : Pl (wrD d j s) k (t + 1) :=
  ⟨wrD_ok h.ok (by rw [h.len]; exact hj) hs hf (by have := h.st; omega) (by have := h.few; omega), by rw [wrD_len, h.len], h.sn.wr, by rw [wrD_st hf]; have := h.st; omega, by rw [wrD_pend]; have := h.few; simp; omega⟩
theorem Pl.ba {k t : Nat} (h : Pl d k t) (hf : d.fa ≠ 1) (ht : t < 1000000) : Pl (baD d) k (t + 1) :=
  ⟨baD_ok h.ok hf (by have := h.st; omega), by rw [baD_seen, h.len], h.sn.ba, by rw [baD_st hf]; have := h.st; omega, by simp [baD]⟩
theorem Pl.cr {k t : Nat} {ks : List Int} (h : Pl d k t) : Pl (crD d ks) k (t + 1) :=
  ⟨crD_ok h.ok, by simp only [crD, crl_len]; rw [h.ok.len, h.len], rfl, by have := h.st; show d.st ≤ _; omega, by simp [crD]⟩
theorem Pl.fall {k t : Nat} {v : Int} (h : Pl d k t) (hv : v ≤ 9223372036854775807) : Pl { d with fa := max v 0 } k (t + 1) := by
  obtain ⟨⟨h1, h2, h3, h4, h5, h6, h7, h8, h9, h10⟩, hl, hs, ht, hf⟩ := h
  exact ⟨⟨h1, h2, h3, h4, h5, h6, h7, h8, by simp only; omega, by simp only; omega⟩, hl, hs, by simp only; omega, by simp only; omega⟩
theorem Pl.step {k t : Nat} (h : Pl d k t) (hf : d.fa = 1) : Pl (stepD d) k (t + 1) := by
  obtain ⟨⟨h1, h2, h3, h4, h5, h6, h7, h8, h9, h10⟩, hl, hs, ht, hw⟩ := h
  unfold stepD
  rw [if_pos hf]
  exact ⟨⟨h1, h2, h3, h4, h5, h6, h7, h8, Int.le_refl _, by simp only; omega⟩, hl, hs, by simp only; omega, by simp only; omega⟩
theorem Pl.more {k t : Nat} (h : Pl d k t) : Pl d k (t + 1) := ⟨h.ok, h.len, h.sn, by have := h.st; omega, by have := h.few; omega⟩
theorem wrNo_some {e k : Int} {s : ByteArray} (h : wrNo d k s = some (e, d')) : d' = d ∨ d' = stepD d ∧ d.fa = 1 := by
  unfold wrNo at h
  split at h
  · cases h; exact .inl rfl
  split at h
  · cases h; exact .inl rfl
  split at h
  · cases h; exact .inl rfl
  split at h
  · rename_i c; cases h; exact .inr ⟨rfl, c⟩
  · cases h
theorem wrNo_none {k : Int} {s : ByteArray} (h : wrNo d k s = none) : d.off = false ∧ (∃ j : Nat, k = j ∧ j < d.seen.length) ∧ s.size ≤ 64 ∧ d.fa ≠ 1 := by
  unfold wrNo at h
  split at h
  · cases h
  rename_i c1
  split at h
  · cases h
  rename_i c2
  split at h
  · cases h
  rename_i c3
  split at h
  · cases h
  rename_i c4
  exact ⟨by simpa using c1, ⟨k.toNat, by omega, by omega⟩, by omega, c4⟩
theorem Pl.no {e k : Int} {s : ByteArray} {m t : Nat} (hP : Pl d m t) (h : wrNo d k s = some (e, d')) : Pl d' m (t + 1) ∧ d'.seen = d.seen ∧ d'.safe = d.safe ∧ d'.pend = d.pend := by
  rcases wrNo_some h with rfl | ⟨rfl, hf⟩
  · exact ⟨hP.more, rfl, rfl, rfl⟩
  · exact ⟨hP.step hf, stepD_safe.2.2, stepD_safe.1, stepD_safe.2.1⟩
def baNo (d : Fd) : Option (Int × Fd) := if d.off then some ((7 : Int), d) else if d.fa = 1 then some (7, stepD d) else none
theorem Pl.bno {e : Int} {m t : Nat} (hP : Pl d m t) (h : baNo d = some (e, d')) : Pl d' m (t + 1) ∧ d'.seen = d.seen ∧ d'.safe = d.safe ∧ d'.pend = d.pend := by
  unfold baNo at h
  split at h
  · cases h; exact ⟨hP.more, rfl, rfl, rfl⟩
  split at h
  · rename_i c; cases h; exact ⟨hP.step c, stepD_safe.2.2, stepD_safe.1, stepD_safe.2.1⟩
  · cases h
theorem baNo_none (h : baNo d = none) : d.off = false ∧ d.fa ≠ 1 := by
  unfold baNo at h
  split at h
  · cases h
  rename_i c1
  split at h
  · cases h
  rename_i c2
  exact ⟨by simpa using c1, c2⟩
end Go.Sx

/- Layer 3: FlashPlays. -/
set_option linter.unusedVariables false
set_option linter.unusedSimpArgs false
set_option maxRecDepth 100000
namespace Go.Sx
attribute [local go_sem ↓] bind_mk intsB_mk strsB_mk svB_mk fnVC ob_some vc_skip vc_exit vc_ret vc_seq vc_block kSeq_normal kSeq_exit kSeq_ret kBlock_normal kBlock_exit kBlock_ret vc_reg vc_regD vc_cond condK_true condK_false vc_loop kLoop_exit kLoop_ret kRoll_normal kRoll_exit kRoll_ret vcOps_nil vcOps_cons gd_bool gd_undef put_some put_none vcT_fin vcT_pure vcT_act vcT_acts vcT_stop stab_none stab_some stabM_nil stabM_cons stabO_ld stabO_ldn stabO_slP stabO_b2s fldOf_ai fldOf_agg fldOf_ait fldOf_aggt intsOf_nil intsOf_cons strsOf_nil strsOf_cons c_omap ob_if lk_nil lk_cons ev_t ev_k z_mov z_pick z_bin z_binB z_binP z_un z_conv z_s2b z_b2s z_alloc z_bld z_bldI z_rowI z_rowS z_ld z_ldn z_st z_stn asN_ptr asN_fn z_nilck z_fld z_fadr z_idxA z_idxP z_idxS z_idxV z_slS z_slL z_slP z_mk z_lenS z_lenL z_app z_appS z_appZ z_cpyS z_mkfn reps_int reps_str z_rowV z_slnil nilK_zero z_cpy z_call asT_tup z_extT z_box boxOf_ai boxOf_agg boxOf_int boxOf_str boxOf_bool boxOf_ptr boxOf_sl sbin_int sbin_str sbinB_mk sbinP_nn sbinP_pn sbinP_np i_add i_sub i_mul i_quo i_rem i_and i_or i_xor i_andNot i_shl i_shr i_eql i_neq i_lss i_leq i_gtr i_geq st_add st_eql st_neq st_lss st_leq st_gtr st_geq bo_eql bo_neq pt_eql pt_neq un_neg un_xor un_not asI_mk asB_mk asS_mk asP_mk asSl_mk asBy_mk bnd_none bnd_some get_mk hput_mk hdel_mk kill_eq wrOf_eq rowOf_eq rsvs_0 rsvs_1 rsvs_2 rsvs_3 rsv_t rsv_c1 rsv_cn nt_v nt_ptr nt_sl nt_agg nt_ai get_ints get_strs get_pl get_sv getN_ints getN_sv set_ints set_strs set_sv setN_ints setN_sv part_ints part_strs part_sv cat_ints cat_strs cat_sv over_ints ones_ints ones_strs evs_nil evs_cons condK_eqt condK_eqf det_callP V_ns V_nn V_gs V_gn obC_mk fresh_ev setN_plagg setN_intsv setN_svai setN_svagg over_intsv set_pl setN_pl setN_plai getN_pl getN_strs part_pl cat_pl over_pl over_plints z_mm
attribute [local go_sem] initTm ne_eq not_true_eq_false not_false_eq_true true_and and_true List.length_cons List.length_nil Int.toNat_natCast Nat.add_zero Nat.zero_add Nat.mul_one List.getElem?_cons_zero List.drop_zero List.take_length List.take_succ_cons List.take_zero List.take_nil List.drop_succ_cons Option.map_some Nat.le_refl implies_true List.getElem?_cons_succ decide_true decide_false Bool.not_true Bool.not_false beq_self_eq_true Nat.succ_ne_self Nat.one_ne_zero Nat.zero_ne_one vk_mk hk_mk nk_mk tok_eq plsOf_map intsOf_map bodyOf_pl bodyOf_ints bodyOf_strs bodyOf_sv part_aggv part_agg part_ai part_int part_str part_bool part_sl part_ptr part_nil numsOf_map u_int u_str u_bool u_pnil u_sl u_ptr u_oci u_ocs evq_nil evq_cons fillS_nil fillS_cons u_ocb ones_pl cells_sv cells_ints cells_strs cells_pl smms_nil smms_cons smm_min smm_max plsOf_nil List.nil_append List.all_cons List.all_nil Bool.and_self Bool.true_and Bool.and_true zws_len zw_len zi_len List.set_cons_zero List.set_cons_succ List.flatMap_cons List.flatMap_nil List.append_nil
open Go.Proofs
variable {H : Hp} {n : Nat} {x : Nat → Option SO} {d d' : Fd} {i a b c : Nat} {u1 u2 u3 : Bool}

theorem rdV_tup (d : Fd) (k : Int) : ∃ s e, rdV d k = .tup [.v (.string s), .v (.int .i64 e)] := by
  unfold rdV
  split
  · exact ⟨_, _, rfl⟩
  split
  · exact ⟨_, _, rfl⟩
  · exact ⟨_, _, rfl⟩
theorem lk_out {α : Type} {l : List (Nat × α)} {r : Nat} (h : ∀ e ∈ l, e.1 < 1000) (hr : 1000 ≤ r) : lk l r = none := by
  induction l with
  | nil => rfl
  | cons e l ih =>
    unfold lk
    have := h e (List.mem_cons_self ..)
    rw [if_neg (by omega)]
    exact ih (fun e he => h e (List.mem_cons_of_mem _ he))
def plI (M m1 : Nat) (x : Nat → Option SO) (p : Nat × Fd) : St :=
  ⟨[(5, .ptr 1 0), (6, .ptr 5 0), (29, .sl 1003 0 M 4), (30, .v (.int .i64 M)), (31, .v (.int .i64 p.1))], ⟨devL p.2 1 2 3 4 (refL p.2 5 6 7 []), x⟩, 8⟩
theorem w6 {v : Int} {ops : List OpV} {m1 : Nat} (h1 : m1 ≤ ops.length) (hrng : ∀ j, j < ops.length → (ops.getD j ⟨0, 0, .empty, [], 0⟩).rng) (hz : ∀ j, j < ops.length → (ops.getD j ⟨0, 0, .empty, [], 0⟩).m ≤ (ops.getD j ⟨0, 0, .empty, [], 0⟩).zs.length)
    (hx1 : x 1003 = some ⟨false, .sv (orow 0 0 ops)⟩) (hx2 : ∀ j, j < ops.length → x (1000 + 4 * j + 0) = some ⟨false, .ints .i64 (ops.getD j ⟨0, 0, .empty, [], 0⟩).zs⟩) :
    fnVC C3 m6 [.v (.int .i64 v), .sl 1003 0 m1 4] ⟨[], x⟩ 1 fun v H' n' => Sub 1 ⟨[(0, .v (.bool true))], ⟨[], x⟩, 1⟩ ⟨[(0, v)], H', n'⟩ := by
  have q1 : min (m1 : Int) 200 = ((min m1 200 : Nat) : Int) := by omega
  have rl1 := orow_len (A := 0) (l := ops) (j := 0)
  have ra1 := fun j (hj : j < ops.length) => orow_at (A := 0) (o0 := ⟨0, 0, .empty, [], 0⟩) (l := ops) (j0 := 0) hj
  generalize hr1 : orow 0 0 ops = r1 at rl1 ra1 hx1
  unfold m6
  simp -implicitDefEqProofs only [↓fnVC, initTm]
  simp -implicitDefEqProofs only [go_sem, ↓reduceIte, Nat.reduceEqDiff, Nat.reduceAdd, Nat.reduceMul, Nat.reduceLT, Nat.reduceLeDiff, Nat.reduceSub, Int.reduceToNat, Int.reduceLE, Int.reduceLT, reduceCtorEq, Int.reduceEq, Int.reduceGT, Int.reduceGE, Int.reduceNeg]
  refine at_call t9 keS ?_
  simp -implicitDefEqProofs only [go_sem, ↓reduceIte, Nat.reduceEqDiff, Nat.reduceAdd, Nat.reduceMul, Nat.reduceLT, Nat.reduceLeDiff, Nat.reduceSub, Int.reduceToNat, Int.reduceLE, Int.reduceLT, reduceCtorEq, Int.reduceEq, Int.reduceGT, Int.reduceGE, Int.reduceNeg]
  refine in_call mix3 t20 ?_
  unfold m20
  simp -implicitDefEqProofs only [↓fnVC, initTm]
  simp -implicitDefEqProofs only [go_sem, ↓reduceIte, Nat.reduceEqDiff, Nat.reduceAdd, Nat.reduceMul, Nat.reduceLT, Nat.reduceLeDiff, Nat.reduceSub, Int.reduceToNat, Int.reduceLE, Int.reduceLT, reduceCtorEq, Int.reduceEq, Int.reduceGT, Int.reduceGE, Int.reduceNeg]
  by_cases hv : v < 1 ∨ 4096 < v
  · refine at_call t10 (nwF hv) ?_
    simp -implicitDefEqProofs only [go_sem, ↓reduceIte, Nat.reduceEqDiff, Nat.reduceAdd, Nat.reduceMul, Nat.reduceLT, Nat.reduceLeDiff, Nat.reduceSub, Int.reduceToNat, Int.reduceLE, Int.reduceLT, reduceCtorEq, Int.reduceEq, Int.reduceGT, Int.reduceGE, Int.reduceNeg]
    refine at_call t31 (rnwF hv) ?_
    simp -implicitDefEqProofs only [go_sem, ↓reduceIte, Nat.reduceEqDiff, Nat.reduceAdd, Nat.reduceMul, Nat.reduceLT, Nat.reduceLeDiff, Nat.reduceSub, Int.reduceToNat, Int.reduceLE, Int.reduceLT, reduceCtorEq, Int.reduceEq, Int.reduceGT, Int.reduceGE, Int.reduceNeg]
    exact sub_val rfl (by decide) (by decide) rfl
  · obtain ⟨k, rfl⟩ : ∃ k : Nat, v = (k : Int) := ⟨v.toNat, by omega⟩
    have hk1 : 1 ≤ k := by omega
    have hk2 : k ≤ 4096 := by omega
    refine at_call t10 (nwD hk1 hk2 (by decide)) ?_
    simp -implicitDefEqProofs only [go_sem, ↓reduceIte, Nat.reduceEqDiff, Nat.reduceAdd, Nat.reduceMul, Nat.reduceLT, Nat.reduceLeDiff, Nat.reduceSub, Int.reduceToNat, Int.reduceLE, Int.reduceLT, reduceCtorEq, Int.reduceEq, Int.reduceGT, Int.reduceGE, Int.reduceNeg, devL_eq]
    refine at_call t31 (rnwG hk1 hk2 (by decide)) ?_
    simp -implicitDefEqProofs only [go_sem, ↓reduceIte, Nat.reduceEqDiff, Nat.reduceAdd, Nat.reduceMul, Nat.reduceLT, Nat.reduceLeDiff, Nat.reduceSub, Int.reduceToNat, Int.reduceLE, Int.reduceLT, reduceCtorEq, Int.reduceEq, Int.reduceGT, Int.reduceGE, Int.reduceNeg, refL_eq, q1]
    generalize hM1 : min m1 200 = M1
    refine ⟨by omega, ?_⟩
    refine loop_fam (fun (p : Nat × Fd) => p.1 ≤ M1 ∧ Pl p.2 k p.1) (plI M1 m1 x) (fun p => M1 - p.1) (0, newD k) ⟨by omega, Pl.new hk2⟩ ?_ ?_
    · unfold plI devL refL
      refine sub_mk [] rfl rfl rfl ?_
      simp only [tmSub, hpSub, objSub, eqTm, eqHp, rn, lk, SV.ren, SV.renC, SV.renB, SV.renA, ren_ints, ren_strs, ren_pl, ren_svs, SV.v.injEq, Value.int.injEq, Body.ints.injEq, SV.ptr.injEq, SV.sl.injEq, Value.string.injEq, Value.bool.injEq, List.map_cons, List.map_nil, forall_const, Nat.reduceLT, Nat.lt_add_one, imp_self, true_and, and_true, and_self, ob_some, get_mk, lk_cons, ↓reduceIte, Nat.reduceEqDiff, ne_eq, not_true_eq_false, not_false_eq_true, Nat.one_ne_zero, Nat.zero_ne_one, Nat.succ_ne_self, Nat.reduceAdd, Bool.false_eq_true, false_implies, implies_true, reduceCtorEq, Nat.sub_zero]
      repeat' (first | rfl | apply And.intro)
    · rintro ⟨t, d⟩ ⟨ht, hP⟩
      simp only at ht hP
      unfold plI
      simp -implicitDefEqProofs only [go_sem, ↓reduceIte, Nat.reduceEqDiff, Nat.reduceAdd, Nat.reduceMul, Nat.reduceLT, Nat.reduceLeDiff, Nat.reduceSub, Int.reduceToNat, Int.reduceLE, Int.reduceLT, reduceCtorEq, Int.reduceEq, Int.reduceGT, Int.reduceGE, Int.reduceNeg, devL_eq, refL_eq]
      refine condK_bb (fun e1 => ?_) (fun e1 => ?_)
      · have c1 : t < M1 := by simp only [decide_eq_true_eq] at e1; omega
        have hra := ra1 t (by omega)
        have hr := hrng t (by omega)
        have hm := hz t (by omega)
        have hx := hx2 t (by omega)
        generalize ops.getD t ⟨0, 0, .empty, [], 0⟩ = o at hra hr hm hx
        rw [Nat.zero_add] at hra
        generalize hrid : 1000 + 4 * t + 0 = rid at hra hx
        have hw : IntKind.i64.wrap ((t : Int) + 1) = ((t + 1 : Nat) : Int) := by rw [wrap_i64 (by omega) (by omega)]; omega
        obtain ⟨r, hr6, hru⟩ : ∃ r : Int, (0 ≤ r ∧ r < 6) ∧ o.u.tmod 6 = r := ⟨o.u % 6, ⟨by omega, by omega⟩, by rw [Int.tmod_eq_emod_of_nonneg hr.1.1]⟩
        simp -implicitDefEqProofs only [go_sem, ↓reduceIte, Nat.reduceEqDiff, Nat.reduceAdd, Nat.reduceMul, Nat.reduceLT, Nat.reduceLeDiff, Nat.reduceSub, Int.reduceToNat, Int.reduceLE, Int.reduceLT, reduceCtorEq, Int.reduceEq, Int.reduceGT, Int.reduceGE, Int.reduceNeg, hx1, hra, ocell, splice_zero]
        refine ⟨by omega, by omega, ?_⟩
        refine in_call mix3 t21 ?_
        unfold m21
        simp -implicitDefEqProofs only [↓fnVC, initTm]
        simp -implicitDefEqProofs only [go_sem, ↓reduceIte, Nat.reduceEqDiff, Nat.reduceAdd, Nat.reduceMul, Nat.reduceLT, Nat.reduceLeDiff, Nat.reduceSub, Int.reduceToNat, Int.reduceLE, Int.reduceLT, reduceCtorEq, Int.reduceEq, Int.reduceGT, Int.reduceGE, Int.reduceNeg, hru, splice_zero]
        have hge : 1000 ≤ rid := by omega
        have hrow : ∀ l : List (Nat × Option SO), (∀ e ∈ l, e.1 < 1000) → rowAt ⟨l, x⟩ rid (.ints .i64 []) = some (.ints .i64 o.zs) := fun l hl => by
          unfold rowAt Hp.get
          rw [lk_out hl hge]
          simp only [hx]
          rw [if_neg (by omega)]; rfl
        refine condK_bb (fun e2 => ?_) (fun e2 => ?_)
        · have er : r = 2 := by simpa using e2
          subst er
          cases hb : baNo d with
          | some w =>
            obtain ⟨e, d2⟩ := w
            obtain ⟨hP2, z1, z2, z3⟩ := hP.bno hb
            simp -implicitDefEqProofs only [go_sem, ↓reduceIte, Nat.reduceEqDiff, Nat.reduceAdd, Nat.reduceMul, Nat.reduceLT, Nat.reduceLeDiff, Nat.reduceSub, Int.reduceToNat, Int.reduceLE, Int.reduceLT, reduceCtorEq, Int.reduceEq, Int.reduceGT, Int.reduceGE, Int.reduceNeg]
            refine at_call t12 (baF (e := e) (d := d) (d' := d2) (i := 1) (a := 2) (b := 3) (c := 4) ⟨rfl, rfl, rfl, rfl, by decide⟩ hb) ?_
            simp -implicitDefEqProofs only [go_sem, ↓reduceIte, Nat.reduceEqDiff, Nat.reduceAdd, Nat.reduceMul, Nat.reduceLT, Nat.reduceLeDiff, Nat.reduceSub, Int.reduceToNat, Int.reduceLE, Int.reduceLT, reduceCtorEq, Int.reduceEq, Int.reduceGT, Int.reduceGE, Int.reduceNeg]
            refine at_call t32 (rbaF (e := e) (d := d) (d' := d2) (i := 5) (a := 6) (b := 7) ⟨rfl, rfl, rfl, by decide⟩ hP.ok hb) ?_
            simp -implicitDefEqProofs only [go_sem, ↓reduceIte, Nat.reduceEqDiff, Nat.reduceAdd, Nat.reduceMul, Nat.reduceLT, Nat.reduceLeDiff, Nat.reduceSub, Int.reduceToNat, Int.reduceLE, Int.reduceLT, reduceCtorEq, Int.reduceEq, Int.reduceGT, Int.reduceGE, Int.reduceNeg, hw, Bool.not_true, Bool.not_false, decide_true, beq_self_eq_true, eq_self]
            refine at_call t22 (toG (d := d2) (i := 1) (a := 2) (b := 3) (c := 4) (j := 5) (p := 6) (q := 7) ⟨rfl, by rw [z1]; rfl, by rw [z2]; rfl, by rw [z3]; rfl, by decide⟩ ⟨rfl, by rw [z2]; rfl, by rw [z3]; rfl, by decide⟩ hP2.ok hP2.sn (by decide)) ?_
            simp -implicitDefEqProofs only [go_sem, ↓reduceIte, Nat.reduceEqDiff, Nat.reduceAdd, Nat.reduceMul, Nat.reduceLT, Nat.reduceLeDiff, Nat.reduceSub, Int.reduceToNat, Int.reduceLE, Int.reduceLT, reduceCtorEq, Int.reduceEq, Int.reduceGT, Int.reduceGE, Int.reduceNeg, hw]
            refine kLoop_mk (t + 1, d2) ⟨by simp only; omega, hP2⟩ (by simp only; omega) ?_
            unfold devL refL
            refine sub_mk [] rfl rfl rfl ?_
            simp only [tmSub, hpSub, objSub, eqTm, eqHp, rn, lk, SV.ren, SV.renC, SV.renB, SV.renA, ren_ints, ren_strs, ren_pl, ren_svs, SV.v.injEq, Value.int.injEq, Body.ints.injEq, SV.ptr.injEq, SV.sl.injEq, Value.string.injEq, Value.bool.injEq, List.map_cons, List.map_nil, forall_const, Nat.reduceLT, Nat.lt_add_one, imp_self, true_and, and_true, and_self, ob_some, get_mk, lk_cons, ↓reduceIte, Nat.reduceEqDiff, ne_eq, not_true_eq_false, not_false_eq_true, Nat.one_ne_zero, Nat.zero_ne_one, Nat.succ_ne_self, Nat.reduceAdd, Bool.false_eq_true, false_implies, implies_true, reduceCtorEq]
            repeat' (first | rfl | apply And.intro)
          | none =>
            obtain ⟨y1, y2⟩ := baNo_none hb
            obtain ⟨d2, ed2⟩ : ∃ d2, baD d = d2 := ⟨_, rfl⟩
            have hP2 : Pl d2 k (t + 1) := ed2 ▸ hP.ba y2 (by omega)
            simp -implicitDefEqProofs only [go_sem, ↓reduceIte, Nat.reduceEqDiff, Nat.reduceAdd, Nat.reduceMul, Nat.reduceLT, Nat.reduceLeDiff, Nat.reduceSub, Int.reduceToNat, Int.reduceLE, Int.reduceLT, reduceCtorEq, Int.reduceEq, Int.reduceGT, Int.reduceGE, Int.reduceNeg]
            refine at_call t12 (baW (d := d) (d' := d2) (i := 1) (a := 2) (b := 3) (c := 4) ⟨rfl, rfl, rfl, rfl, by decide⟩ hP.ok y1 y2 (by decide) ed2) ?_
            simp -implicitDefEqProofs only [go_sem, ↓reduceIte, Nat.reduceEqDiff, Nat.reduceAdd, Nat.reduceMul, Nat.reduceLT, Nat.reduceLeDiff, Nat.reduceSub, Int.reduceToNat, Int.reduceLE, Int.reduceLT, reduceCtorEq, Int.reduceEq, Int.reduceGT, Int.reduceGE, Int.reduceNeg]
            refine at_call t32 (rbaG (d := d) (d' := d2) (i := 5) (a := 6) (b := 7) ⟨rfl, rfl, rfl, by decide⟩ hP.ok (by have := hP.st; omega) y1 y2 (by decide) ed2) ?_
            rw [refL_eq]
            simp -implicitDefEqProofs only [go_sem, ↓reduceIte, Nat.reduceEqDiff, Nat.reduceAdd, Nat.reduceMul, Nat.reduceLT, Nat.reduceLeDiff, Nat.reduceSub, Int.reduceToNat, Int.reduceLE, Int.reduceLT, reduceCtorEq, Int.reduceEq, Int.reduceGT, Int.reduceGE, Int.reduceNeg, hw, Bool.not_true, Bool.not_false, decide_true, beq_self_eq_true, eq_self]
            refine at_call t22 (toG (d := d2) (i := 1) (a := 2) (b := 3) (c := 10) (j := 5) (p := 11) (q := 12) ⟨rfl, rfl, rfl, rfl, by decide⟩ ⟨rfl, rfl, rfl, by decide⟩ hP2.ok hP2.sn (by decide)) ?_
            simp -implicitDefEqProofs only [go_sem, ↓reduceIte, Nat.reduceEqDiff, Nat.reduceAdd, Nat.reduceMul, Nat.reduceLT, Nat.reduceLeDiff, Nat.reduceSub, Int.reduceToNat, Int.reduceLE, Int.reduceLT, reduceCtorEq, Int.reduceEq, Int.reduceGT, Int.reduceGE, Int.reduceNeg, hw]
            refine kLoop_mk (t + 1, d2) ⟨by simp only; omega, hP2⟩ (by simp only; omega) ?_
            unfold devL refL
            refine sub_mk [(4, 10), (6, 11), (7, 12)] rfl rfl rfl ?_
            simp only [tmSub, hpSub, objSub, eqTm, eqHp, rn, lk, SV.ren, SV.renC, SV.renB, SV.renA, ren_ints, ren_strs, ren_pl, ren_svs, SV.v.injEq, Value.int.injEq, Body.ints.injEq, SV.ptr.injEq, SV.sl.injEq, Value.string.injEq, Value.bool.injEq, List.map_cons, List.map_nil, forall_const, Nat.reduceLT, Nat.lt_add_one, imp_self, true_and, and_true, and_self, ob_some, get_mk, lk_cons, ↓reduceIte, Nat.reduceEqDiff, ne_eq, not_true_eq_false, not_false_eq_true, Nat.one_ne_zero, Nat.zero_ne_one, Nat.succ_ne_self, Nat.reduceAdd, Bool.false_eq_true, false_implies, implies_true, reduceCtorEq]
            repeat' (first | rfl | apply And.intro)
        simp -implicitDefEqProofs only [go_sem, ↓reduceIte, Nat.reduceEqDiff, Nat.reduceAdd, Nat.reduceMul, Nat.reduceLT, Nat.reduceLeDiff, Nat.reduceSub, Int.reduceToNat, Int.reduceLE, Int.reduceLT, reduceCtorEq, Int.reduceEq, Int.reduceGT, Int.reduceGE, Int.reduceNeg]
        refine condK_bb (fun e3 => ?_) (fun e3 => ?_)
        · have er : r = 3 := by simpa using e3
          subst er
          obtain ⟨sv, ev, hv⟩ := rdV_tup d o.k
          obtain ⟨d2, ed2⟩ : ∃ d2, d = d2 := ⟨_, rfl⟩
          have hP2 : Pl d2 k (t + 1) := ed2 ▸ hP.more
          subst ed2
          simp -implicitDefEqProofs only [go_sem, ↓reduceIte, Nat.reduceEqDiff, Nat.reduceAdd, Nat.reduceMul, Nat.reduceLT, Nat.reduceLeDiff, Nat.reduceSub, Int.reduceToNat, Int.reduceLE, Int.reduceLT, reduceCtorEq, Int.reduceEq, Int.reduceGT, Int.reduceGE, Int.reduceNeg]
          refine at_call t14 (rdS (d := d) (k := o.k) (i := 1) (a := 2) (b := 3) (c := 4) ⟨rfl, rfl, rfl, rfl, by decide⟩ hP.ok) ?_
          simp -implicitDefEqProofs only [go_sem, ↓reduceIte, Nat.reduceEqDiff, Nat.reduceAdd, Nat.reduceMul, Nat.reduceLT, Nat.reduceLeDiff, Nat.reduceSub, Int.reduceToNat, Int.reduceLE, Int.reduceLT, reduceCtorEq, Int.reduceEq, Int.reduceGT, Int.reduceGE, Int.reduceNeg, hv]
          refine at_call t33 (rrdG (d := d) (k := o.k) (i := 5) (a := 6) (b := 7) ⟨rfl, rfl, rfl, by decide⟩ hP.ok hP.sn) ?_
          simp -implicitDefEqProofs only [go_sem, ↓reduceIte, Nat.reduceEqDiff, Nat.reduceAdd, Nat.reduceMul, Nat.reduceLT, Nat.reduceLeDiff, Nat.reduceSub, Int.reduceToNat, Int.reduceLE, Int.reduceLT, reduceCtorEq, Int.reduceEq, Int.reduceGT, Int.reduceGE, Int.reduceNeg, hv, seq_self3, hw, Bool.not_true, Bool.not_false, decide_true, beq_self_eq_true, eq_self]
          refine at_call t22 (toG (d := d) (i := 1) (a := 2) (b := 3) (c := 4) (j := 5) (p := 6) (q := 7) ⟨rfl, rfl, rfl, rfl, by decide⟩ ⟨rfl, rfl, rfl, by decide⟩ hP2.ok hP2.sn (by decide)) ?_
          simp -implicitDefEqProofs only [go_sem, ↓reduceIte, Nat.reduceEqDiff, Nat.reduceAdd, Nat.reduceMul, Nat.reduceLT, Nat.reduceLeDiff, Nat.reduceSub, Int.reduceToNat, Int.reduceLE, Int.reduceLT, reduceCtorEq, Int.reduceEq, Int.reduceGT, Int.reduceGE, Int.reduceNeg, hw]
          refine kLoop_mk (t + 1, d) ⟨by simp only; omega, hP2⟩ (by simp only; omega) ?_
          unfold devL refL
          refine sub_mk [] rfl rfl rfl ?_
          simp only [tmSub, hpSub, objSub, eqTm, eqHp, rn, lk, SV.ren, SV.renC, SV.renB, SV.renA, ren_ints, ren_strs, ren_pl, ren_svs, SV.v.injEq, Value.int.injEq, Body.ints.injEq, SV.ptr.injEq, SV.sl.injEq, Value.string.injEq, Value.bool.injEq, List.map_cons, List.map_nil, forall_const, Nat.reduceLT, Nat.lt_add_one, imp_self, true_and, and_true, and_self, ob_some, get_mk, lk_cons, ↓reduceIte, Nat.reduceEqDiff, ne_eq, not_true_eq_false, not_false_eq_true, Nat.one_ne_zero, Nat.zero_ne_one, Nat.succ_ne_self, Nat.reduceAdd, Bool.false_eq_true, false_implies, implies_true, reduceCtorEq]
          repeat' (first | rfl | apply And.intro)
        simp -implicitDefEqProofs only [go_sem, ↓reduceIte, Nat.reduceEqDiff, Nat.reduceAdd, Nat.reduceMul, Nat.reduceLT, Nat.reduceLeDiff, Nat.reduceSub, Int.reduceToNat, Int.reduceLE, Int.reduceLT, reduceCtorEq, Int.reduceEq, Int.reduceGT, Int.reduceGE, Int.reduceNeg]
        refine condK_bb (fun e4 => ?_) (fun e4 => ?_)
        · have er : r = 4 := by simpa using e4
          subst er
          obtain ⟨d2, ed2⟩ : ∃ d2, { d with fa := max o.k 0 } = d2 := ⟨_, rfl⟩
          have hP2 : Pl d2 k (t + 1) := ed2 ▸ hP.fall hr.2.2
          have z1 : d2.seen = d.seen := by rw [← ed2]
          have z2 : d2.safe = d.safe := by rw [← ed2]
          have z3 : d2.pend = d.pend := by rw [← ed2]
          simp -implicitDefEqProofs only [go_sem, ↓reduceIte, Nat.reduceEqDiff, Nat.reduceAdd, Nat.reduceMul, Nat.reduceLT, Nat.reduceLeDiff, Nat.reduceSub, Int.reduceToNat, Int.reduceLE, Int.reduceLT, reduceCtorEq, Int.reduceEq, Int.reduceGT, Int.reduceGE, Int.reduceNeg]
          refine at_call t16 (faG (d := d) (d' := d2) (i := 1) (a := 2) (b := 3) (c := 4) ⟨rfl, rfl, rfl, rfl, by decide⟩ ed2) ?_
          simp -implicitDefEqProofs only [go_sem, ↓reduceIte, Nat.reduceEqDiff, Nat.reduceAdd, Nat.reduceMul, Nat.reduceLT, Nat.reduceLeDiff, Nat.reduceSub, Int.reduceToNat, Int.reduceLE, Int.reduceLT, reduceCtorEq, Int.reduceEq, Int.reduceGT, Int.reduceGE, Int.reduceNeg]
          refine at_call t34 (rfaG (d := d) (d' := d2) (i := 5) (a := 6) (b := 7) ⟨rfl, rfl, rfl, by decide⟩ ed2) ?_
          simp -implicitDefEqProofs only [go_sem, ↓reduceIte, Nat.reduceEqDiff, Nat.reduceAdd, Nat.reduceMul, Nat.reduceLT, Nat.reduceLeDiff, Nat.reduceSub, Int.reduceToNat, Int.reduceLE, Int.reduceLT, reduceCtorEq, Int.reduceEq, Int.reduceGT, Int.reduceGE, Int.reduceNeg, hw, Bool.not_true, Bool.not_false, decide_true, beq_self_eq_true, eq_self]
          refine at_call t22 (toG (d := d2) (i := 1) (a := 2) (b := 3) (c := 4) (j := 5) (p := 6) (q := 7) ⟨rfl, by rw [z1]; rfl, by rw [z2]; rfl, by rw [z3]; rfl, by decide⟩ ⟨rfl, by rw [z2]; rfl, by rw [z3]; rfl, by decide⟩ hP2.ok hP2.sn (by decide)) ?_
          simp -implicitDefEqProofs only [go_sem, ↓reduceIte, Nat.reduceEqDiff, Nat.reduceAdd, Nat.reduceMul, Nat.reduceLT, Nat.reduceLeDiff, Nat.reduceSub, Int.reduceToNat, Int.reduceLE, Int.reduceLT, reduceCtorEq, Int.reduceEq, Int.reduceGT, Int.reduceGE, Int.reduceNeg, hw]
          refine kLoop_mk (t + 1, d2) ⟨by simp only; omega, hP2⟩ (by simp only; omega) ?_
          unfold devL refL
          refine sub_mk [] rfl rfl rfl ?_
          simp only [tmSub, hpSub, objSub, eqTm, eqHp, rn, lk, SV.ren, SV.renC, SV.renB, SV.renA, ren_ints, ren_strs, ren_pl, ren_svs, SV.v.injEq, Value.int.injEq, Body.ints.injEq, SV.ptr.injEq, SV.sl.injEq, Value.string.injEq, Value.bool.injEq, List.map_cons, List.map_nil, forall_const, Nat.reduceLT, Nat.lt_add_one, imp_self, true_and, and_true, and_self, ob_some, get_mk, lk_cons, ↓reduceIte, Nat.reduceEqDiff, ne_eq, not_true_eq_false, not_false_eq_true, Nat.one_ne_zero, Nat.zero_ne_one, Nat.succ_ne_self, Nat.reduceAdd, Bool.false_eq_true, false_implies, implies_true, reduceCtorEq]
          repeat' (first | rfl | apply And.intro)
        simp -implicitDefEqProofs only [go_sem, ↓reduceIte, Nat.reduceEqDiff, Nat.reduceAdd, Nat.reduceMul, Nat.reduceLT, Nat.reduceLeDiff, Nat.reduceSub, Int.reduceToNat, Int.reduceLE, Int.reduceLT, reduceCtorEq, Int.reduceEq, Int.reduceGT, Int.reduceGE, Int.reduceNeg]
        refine condK_bb (fun e5 => ?_) (fun e5 => ?_)
        · have er : r = 5 := by simpa using e5
          subst er
          obtain ⟨d2, ed2⟩ : ∃ d2, crD d ((o.zs.drop 0).take o.m) = d2 := ⟨_, rfl⟩
          have hP2 : Pl d2 k (t + 1) := ed2 ▸ hP.cr
          simp -implicitDefEqProofs only [go_sem, ↓reduceIte, Nat.reduceEqDiff, Nat.reduceAdd, Nat.reduceMul, Nat.reduceLT, Nat.reduceLeDiff, Nat.reduceSub, Int.reduceToNat, Int.reduceLE, Int.reduceLT, reduceCtorEq, Int.reduceEq, Int.reduceGT, Int.reduceGE, Int.reduceNeg]
          refine at_call t15 (crW (d := d) (d' := d2) (i := 1) (a := 2) (b := 3) (c := 4) (r := rid) (o := 0) (m := o.m) (row := o.zs) ⟨rfl, rfl, rfl, rfl, by decide⟩ hP.ok (by rw [hP.len]; omega) (by omega) (hrow _ (by simp)) (by omega) (by decide) ed2) ?_
          simp -implicitDefEqProofs only [go_sem, ↓reduceIte, Nat.reduceEqDiff, Nat.reduceAdd, Nat.reduceMul, Nat.reduceLT, Nat.reduceLeDiff, Nat.reduceSub, Int.reduceToNat, Int.reduceLE, Int.reduceLT, reduceCtorEq, Int.reduceEq, Int.reduceGT, Int.reduceGE, Int.reduceNeg]
          refine at_call t35 (rcrG (d := d) (d' := d2) (i := 5) (a := 6) (b := 7) (r := rid) (o := 0) (m := o.m) (row := o.zs) ⟨rfl, rfl, rfl, by decide⟩ hP.ok (by omega) (hrow _ (by simp)) (by omega) (by decide) ed2) ?_
          rw [refL_eq]
          simp -implicitDefEqProofs only [go_sem, ↓reduceIte, Nat.reduceEqDiff, Nat.reduceAdd, Nat.reduceMul, Nat.reduceLT, Nat.reduceLeDiff, Nat.reduceSub, Int.reduceToNat, Int.reduceLE, Int.reduceLT, reduceCtorEq, Int.reduceEq, Int.reduceGT, Int.reduceGE, Int.reduceNeg, hw, Bool.not_true, Bool.not_false, decide_true, beq_self_eq_true, eq_self]
          refine at_call t22 (toG (d := d2) (i := 1) (a := 10) (b := 3) (c := 11) (j := 5) (p := 12) (q := 13) ⟨rfl, rfl, rfl, rfl, by decide⟩ ⟨rfl, rfl, rfl, by decide⟩ hP2.ok hP2.sn (by decide)) ?_
          simp -implicitDefEqProofs only [go_sem, ↓reduceIte, Nat.reduceEqDiff, Nat.reduceAdd, Nat.reduceMul, Nat.reduceLT, Nat.reduceLeDiff, Nat.reduceSub, Int.reduceToNat, Int.reduceLE, Int.reduceLT, reduceCtorEq, Int.reduceEq, Int.reduceGT, Int.reduceGE, Int.reduceNeg, hw]
          refine kLoop_mk (t + 1, d2) ⟨by simp only; omega, hP2⟩ (by simp only; omega) ?_
          unfold devL refL
          refine sub_mk [(2, 10), (4, 11), (6, 12), (7, 13)] rfl rfl rfl ?_
          simp only [tmSub, hpSub, objSub, eqTm, eqHp, rn, lk, SV.ren, SV.renC, SV.renB, SV.renA, ren_ints, ren_strs, ren_pl, ren_svs, SV.v.injEq, Value.int.injEq, Body.ints.injEq, SV.ptr.injEq, SV.sl.injEq, Value.string.injEq, Value.bool.injEq, List.map_cons, List.map_nil, forall_const, Nat.reduceLT, Nat.lt_add_one, imp_self, true_and, and_true, and_self, ob_some, get_mk, lk_cons, ↓reduceIte, Nat.reduceEqDiff, ne_eq, not_true_eq_false, not_false_eq_true, Nat.one_ne_zero, Nat.zero_ne_one, Nat.succ_ne_self, Nat.reduceAdd, Bool.false_eq_true, false_implies, implies_true, reduceCtorEq]
          repeat' (first | rfl | apply And.intro)
        cases hb : wrNo d o.k o.s with
        | some w =>
          obtain ⟨e, d2⟩ := w
          obtain ⟨hP2, z1, z2, z3⟩ := hP.no hb
          simp -implicitDefEqProofs only [go_sem, ↓reduceIte, Nat.reduceEqDiff, Nat.reduceAdd, Nat.reduceMul, Nat.reduceLT, Nat.reduceLeDiff, Nat.reduceSub, Int.reduceToNat, Int.reduceLE, Int.reduceLT, reduceCtorEq, Int.reduceEq, Int.reduceGT, Int.reduceGE, Int.reduceNeg]
          refine at_call t11 (wrF (e := e) (d := d) (d' := d2) (i := 1) (a := 2) (b := 3) (c := 4) ⟨rfl, rfl, rfl, rfl, by decide⟩ hP.ok hb ⟨z1, z2, z3⟩) ?_
          simp -implicitDefEqProofs only [go_sem, ↓reduceIte, Nat.reduceEqDiff, Nat.reduceAdd, Nat.reduceMul, Nat.reduceLT, Nat.reduceLeDiff, Nat.reduceSub, Int.reduceToNat, Int.reduceLE, Int.reduceLT, reduceCtorEq, Int.reduceEq, Int.reduceGT, Int.reduceGE, Int.reduceNeg]
          refine at_call t36 (rwrF (e := e) (d := d) (d' := d2) (i := 5) (a := 6) (b := 7) ⟨rfl, rfl, rfl, by decide⟩ hP.ok hb) ?_
          simp -implicitDefEqProofs only [go_sem, ↓reduceIte, Nat.reduceEqDiff, Nat.reduceAdd, Nat.reduceMul, Nat.reduceLT, Nat.reduceLeDiff, Nat.reduceSub, Int.reduceToNat, Int.reduceLE, Int.reduceLT, reduceCtorEq, Int.reduceEq, Int.reduceGT, Int.reduceGE, Int.reduceNeg, hw, Bool.not_true, Bool.not_false, decide_true, beq_self_eq_true, eq_self]
          refine at_call t22 (toG (d := d2) (i := 1) (a := 2) (b := 3) (c := 4) (j := 5) (p := 6) (q := 7) ⟨rfl, by rw [z1]; rfl, by rw [z2]; rfl, by rw [z3]; rfl, by decide⟩ ⟨rfl, by rw [z2]; rfl, by rw [z3]; rfl, by decide⟩ hP2.ok hP2.sn (by decide)) ?_
          simp -implicitDefEqProofs only [go_sem, ↓reduceIte, Nat.reduceEqDiff, Nat.reduceAdd, Nat.reduceMul, Nat.reduceLT, Nat.reduceLeDiff, Nat.reduceSub, Int.reduceToNat, Int.reduceLE, Int.reduceLT, reduceCtorEq, Int.reduceEq, Int.reduceGT, Int.reduceGE, Int.reduceNeg, hw]
          refine kLoop_mk (t + 1, d2) ⟨by simp only; omega, hP2⟩ (by simp only; omega) ?_
          unfold devL refL
          refine sub_mk [] rfl rfl rfl ?_
          simp only [tmSub, hpSub, objSub, eqTm, eqHp, rn, lk, SV.ren, SV.renC, SV.renB, SV.renA, ren_ints, ren_strs, ren_pl, ren_svs, SV.v.injEq, Value.int.injEq, Body.ints.injEq, SV.ptr.injEq, SV.sl.injEq, Value.string.injEq, Value.bool.injEq, List.map_cons, List.map_nil, forall_const, Nat.reduceLT, Nat.lt_add_one, imp_self, true_and, and_true, and_self, ob_some, get_mk, lk_cons, ↓reduceIte, Nat.reduceEqDiff, ne_eq, not_true_eq_false, not_false_eq_true, Nat.one_ne_zero, Nat.zero_ne_one, Nat.succ_ne_self, Nat.reduceAdd, Bool.false_eq_true, false_implies, implies_true, reduceCtorEq]
          repeat' (first | rfl | apply And.intro)
        | none =>
          obtain ⟨y1, ⟨j, hj, y2⟩, y3, y4⟩ := wrNo_none hb
          obtain ⟨d2, ed2⟩ : ∃ d2, wrD d j o.s = d2 := ⟨_, rfl⟩
          have hP2 : Pl d2 k (t + 1) := ed2 ▸ hP.wr (by rw [← hP.len]; exact y2) y3 y4 (by omega)
          simp -implicitDefEqProofs only [go_sem, ↓reduceIte, Nat.reduceEqDiff, Nat.reduceAdd, Nat.reduceMul, Nat.reduceLT, Nat.reduceLeDiff, Nat.reduceSub, Int.reduceToNat, Int.reduceLE, Int.reduceLT, reduceCtorEq, Int.reduceEq, Int.reduceGT, Int.reduceGE, Int.reduceNeg, hj]
          refine at_call t11 (wrW (k := j) (d := d) (d' := d2) (i := 1) (a := 2) (b := 3) (c := 4) ⟨rfl, rfl, rfl, rfl, by decide⟩ hP.ok y2 y3 y1 y4 (by decide) ed2) ?_
          simp -implicitDefEqProofs only [go_sem, ↓reduceIte, Nat.reduceEqDiff, Nat.reduceAdd, Nat.reduceMul, Nat.reduceLT, Nat.reduceLeDiff, Nat.reduceSub, Int.reduceToNat, Int.reduceLE, Int.reduceLT, reduceCtorEq, Int.reduceEq, Int.reduceGT, Int.reduceGE, Int.reduceNeg]
          refine at_call t36 (rwrG (k := j) (d := d) (d' := d2) (i := 5) (a := 6) (b := 7) ⟨rfl, rfl, rfl, by decide⟩ hP.ok y2 y3 y1 y4 (by have := hP.st; omega) (by have := hP.few; omega) (by decide) ed2) ?_
          simp -implicitDefEqProofs only [go_sem, ↓reduceIte, Nat.reduceEqDiff, Nat.reduceAdd, Nat.reduceMul, Nat.reduceLT, Nat.reduceLeDiff, Nat.reduceSub, Int.reduceToNat, Int.reduceLE, Int.reduceLT, reduceCtorEq, Int.reduceEq, Int.reduceGT, Int.reduceGE, Int.reduceNeg, hw, Bool.not_true, Bool.not_false, decide_true, beq_self_eq_true, eq_self]
          refine at_call t22 (toG (d := d2) (i := 1) (a := 2) (b := 3) (c := 10) (j := 5) (p := 6) (q := 11) ⟨rfl, rfl, rfl, rfl, by decide⟩ ⟨rfl, by rw [← ed2, wrD_safe]; rfl, rfl, by decide⟩ hP2.ok hP2.sn (by decide)) ?_
          simp -implicitDefEqProofs only [go_sem, ↓reduceIte, Nat.reduceEqDiff, Nat.reduceAdd, Nat.reduceMul, Nat.reduceLT, Nat.reduceLeDiff, Nat.reduceSub, Int.reduceToNat, Int.reduceLE, Int.reduceLT, reduceCtorEq, Int.reduceEq, Int.reduceGT, Int.reduceGE, Int.reduceNeg, hw]
          refine kLoop_mk (t + 1, d2) ⟨by simp only; omega, hP2⟩ (by simp only; omega) ?_
          unfold devL refL
          refine sub_mk [(4, 10), (7, 11)] rfl rfl rfl ?_
          simp only [tmSub, hpSub, objSub, eqTm, eqHp, rn, lk, SV.ren, SV.renC, SV.renB, SV.renA, ren_ints, ren_strs, ren_pl, ren_svs, SV.v.injEq, Value.int.injEq, Body.ints.injEq, SV.ptr.injEq, SV.sl.injEq, Value.string.injEq, Value.bool.injEq, List.map_cons, List.map_nil, forall_const, Nat.reduceLT, Nat.lt_add_one, imp_self, true_and, and_true, and_self, ob_some, get_mk, lk_cons, ↓reduceIte, Nat.reduceEqDiff, ne_eq, not_true_eq_false, not_false_eq_true, Nat.one_ne_zero, Nat.zero_ne_one, Nat.succ_ne_self, Nat.reduceAdd, Bool.false_eq_true, false_implies, implies_true, reduceCtorEq]
          repeat' (first | rfl | apply And.intro)
      · simp -implicitDefEqProofs only [go_sem, ↓reduceIte, Nat.reduceEqDiff, Nat.reduceAdd, Nat.reduceMul, Nat.reduceLT, Nat.reduceLeDiff, Nat.reduceSub, Int.reduceToNat, Int.reduceLE, Int.reduceLT, reduceCtorEq, Int.reduceEq, Int.reduceGT, Int.reduceGE, Int.reduceNeg]
        refine at_call t22 (toG (d := d) (i := 1) (a := 2) (b := 3) (c := 4) (j := 5) (p := 6) (q := 7) ⟨rfl, rfl, rfl, rfl, by decide⟩ ⟨rfl, rfl, rfl, by decide⟩ hP.ok hP.sn (by decide)) ?_
        simp -implicitDefEqProofs only [go_sem, ↓reduceIte, Nat.reduceEqDiff, Nat.reduceAdd, Nat.reduceMul, Nat.reduceLT, Nat.reduceLeDiff, Nat.reduceSub, Int.reduceToNat, Int.reduceLE, Int.reduceLT, reduceCtorEq, Int.reduceEq, Int.reduceGT, Int.reduceGE, Int.reduceNeg]
        exact sub_val rfl (by decide) (by decide) rfl
theorem s6 {v : Int} {ops : List OpV} {m1 : Nat} (h1 : m1 ≤ ops.length) (hrng : ∀ j, j < ops.length → (ops.getD j ⟨0, 0, .empty, [], 0⟩).rng) (hz : ∀ j, j < ops.length → (ops.getD j ⟨0, 0, .empty, [], 0⟩).m ≤ (ops.getD j ⟨0, 0, .empty, [], 0⟩).zs.length)
    (hx1 : x 1003 = some ⟨false, .sv (orow 0 0 ops)⟩) (hx2 : ∀ j, j < ops.length → x (1000 + 4 * j + 0) = some ⟨false, .ints .i64 (ops.getD j ⟨0, 0, .empty, [], 0⟩).zs⟩) :
    SpecAt Try.prog 6 [.v (.int .i64 v), .sl 1003 0 m1 4] ⟨[], x⟩ 1 (.v (.bool true)) ⟨[], x⟩ 1 := ok3.spec t6 (w6 h1 hrng hz hx1 hx2)
end Go.Sx
