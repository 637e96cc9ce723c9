/- Delta: Close. -/
import Derived.Test.YtmcilmfnnpfdjaaDelB

set_option linter.unusedVariables false
set_option linter.unusedSimpArgs false
set_option maxRecDepth 100000
namespace Go.Sx
attribute [local go_sem ↓] bind_mk intsB_mk strsB_mk svB_mk fnVC ob_some vc_skip vc_exit vc_ret vc_seq vc_block kSeq_normal kSeq_exit kSeq_ret kBlock_normal kBlock_exit kBlock_ret vc_reg vc_regD vc_cond condK_true condK_false vc_loop kLoop_exit kLoop_ret kRoll_normal kRoll_exit kRoll_ret vcOps_nil vcOps_cons gd_bool gd_undef put_some put_none vcT_fin vcT_pure vcT_act vcT_acts vcT_stop stab_none stab_some stabM_nil stabM_cons stabO_ld stabO_ldn stabO_slP stabO_b2s fldOf_ai fldOf_agg fldOf_ait fldOf_aggt intsOf_nil intsOf_cons strsOf_nil strsOf_cons c_omap ob_if lk_nil lk_cons ev_t ev_k z_mov z_pick z_bin z_binB z_binP z_un z_r2s z_conv z_s2b z_b2s z_mkM z_luM z_upM plV_v plV_agg mpOf_mp mpOf_nil mpUp_mp asM_mp luV_ok luV_v z_allocT aggOf_mk z_boxT z_alloc z_bld z_bldI z_rowI z_rowS z_ld z_ldn z_st z_stn asN_ptr asN_fn z_nilck z_fld z_fadr z_idxA z_idxP z_idxS z_idxV z_slS z_slL z_slP z_mk z_lenS z_lenL z_app appC_ints appC_pl appC_sv appC_strs isS_strs loose_ints loose_pl loose_sv z_slM z_callv callvK_fn callvK_f callvK_yl vc_rangeF rfEnd_eq rfGo_none rfGo_ret rfGo_exit yGo_mk yEnd_n yEnd_r yEnd_e yRdy_mk yMid_n putPs_nil putPs_cons leaf_v leaf_ptr leaf_sl leaf_yl leaf_mp z_appS z_appST z_appZ z_cpyS z_mkfn reps_int reps_str z_rowV z_slnil nilK_zero z_cpy z_call asT_tup z_extT z_box boxOf_ai boxOf_agg boxOf_int boxOf_str boxOf_bool boxOf_ptr boxOf_sl sbin_int sbin_str sbinB_mk sbinP_nn sbinP_pn sbinP_np i_add i_sub i_mul i_quo i_rem i_and i_or i_xor i_andNot i_shl i_shr i_eql i_neq i_lss i_leq i_gtr i_geq st_add st_eql st_neq st_lss st_leq st_gtr st_geq bo_eql bo_neq pt_eql pt_neq un_neg un_xor un_not asI_mk asB_mk asS_mk asP_mk asSl_mk asBy_mk bnd_none bnd_some get_mk hput_mk hdel_mk kill_eq wrOf_eq rowOf_eq rsvs_0 rsvs_1 rsvs_2 rsvs_3 rsv_t rsv_c1 rsv_cn nt_v nt_ptr nt_sl nt_agg nt_ai get_ints get_strs get_pl get_sv getN_ints getN_sv set_ints set_strs set_sv setN_ints setN_sv part_ints part_strs part_sv cat_ints cat_strs cat_sv over_ints over_strs over_sv ones_ints ones_strs evs_nil evs_cons condK_eqt condK_eqf det_callP V_ns V_nn V_gs V_gn obC_mk fresh_ev freshT_ev freshR_ev setN_plagg setN_intsv setN_svai setN_svagg over_intsv set_pl setN_pl setN_plai getN_pl getN_strs part_pl cat_pl over_pl over_plints z_mm
attribute [local go_sem] initTm ne_eq not_true_eq_false not_false_eq_true true_and and_true List.length_cons List.length_nil Int.toNat_natCast Nat.add_zero Nat.zero_add Nat.mul_one List.getElem?_cons_zero List.drop_zero List.take_length List.take_succ_cons List.take_zero List.take_nil List.drop_succ_cons Option.map_some Nat.le_refl implies_true List.getElem?_cons_succ decide_true decide_false Bool.not_true Bool.not_false beq_self_eq_true Nat.succ_ne_self Nat.one_ne_zero Nat.zero_ne_one vk_mk hk_mk nk_mk tok_eq plsOf_map intsOf_map bodyOf_pl bodyOf_ints bodyOf_strs bodyOf_sv part_aggv part_agg part_ai part_int part_str part_bool part_sl part_ptr part_nil numsOf_map u_int u_str u_bool u_pnil u_sl u_ptr u_oci u_ocs evq_nil evq_cons fillS_nil fillS_cons u_ocb ones_pl cells_sv cells_ints cells_strs cells_pl smms_nil smms_cons smm_min smm_max plsOf_nil List.nil_append List.all_cons List.all_nil Bool.and_self Bool.true_and Bool.and_true zws_len zw_len zi_len List.set_cons_zero List.set_cons_succ List.flatMap_cons List.flatMap_nil List.append_nil
attribute [local go_sem_proc] Nat.reduceEqDiff Nat.reduceAdd Nat.reduceMul Nat.reduceLT Nat.reduceLeDiff Nat.reduceSub Int.reduceToNat Int.reduceLE Int.reduceLT reduceCtorEq Int.reduceEq Int.reduceGT Int.reduceGE Int.reduceNeg
attribute [local go_sem_proc ↓] reduceIte
section
open Go.Proofs
variable {H : Hp} {n : Nat} {x : Nat → Option SO}
def clP (p : Pt) : (ByteArray × Int) × Pt :=
  if p.e ≠ 0 then ((⟨#[]⟩, p.e), { p with closed := true })
  else if p.begun = false ∨ 0 < p.adds ∨ ¬p.wait.size = 0 ∨ p.made.size < p.size then ((⟨#[]⟩, 2), { p with closed := true, e := 2 })
  else if sha (bts p.made) ≠ p.hash then ((⟨#[]⟩, 10), { p with closed := true, e := 10 })
  else ((p.made, 0), { p with closed := true })
def clV (p : Pt) : SV := .tup [.v (.string (clP p).1.1), .v (.int .i64 (clP p).1.2)]
/-- The text was taken. -/
def hF (p : Pt) (x : Nat → Option SO) : Hp := ⟨[(1, some ⟨true, .sv (patC p (.ptr 1 7) (.sl 3 0 p.made.size 1))⟩), (2, some ⟨false, .mp (.shp 1 57 (some 11))⟩), (3, some ⟨false, .mp (.frz 5 (bts p.made))⟩)], x⟩
/-- What was made is no more looked at. -/
def hD (p : Pt) (x : Nat → Option SO) : Hp := ⟨[(1, some ⟨true, .sv (patC p (.ptr 1 7) (.sl 3 0 p.made.size 1))⟩), (2, some ⟨false, .mp (.shp 1 57 (some 11))⟩), (3, none)], x⟩
def hC (p : Pt) (x : Nat → Option SO) : Hp := hE p x
def clH (p : Pt) (x : Nat → Option SO) : Hp := if p.e = 0 then hF p x else hD p x
theorem clH_F {p : Pt} (h : p.e = 0) : clH p x = hF p x := if_pos h
theorem clH_D {p : Pt} (h : ¬p.e = 0) : clH p x = hD p x := if_neg h
theorem closeE {p : Pt} (hp : p.ok) (hm : p.made.size = 0) :
    fnVC CT mDClose [.ptr 1 0] (hE p x) 3 fun v H' n' => Sub 3 ⟨[(0, clV p)], hC (clP p).2 x, 3⟩ ⟨[(0, v)], H', n'⟩ := by
  unfold mDClose hE patC
  simp -implicitDefEqProofs only [↓fnVC, initTm]
  simp -implicitDefEqProofs only [go_sem]
  have hom := hp.om
  by_cases he : p.e = 0
  rotate_left
  · have b0 : decide (p.e = 0) = false := decide_eq_false he
    simp -implicitDefEqProofs only [go_sem, b0]
    unfold clV
    rw [show clP p = ((⟨#[]⟩, p.e), { p with closed := true }) from if_pos he]
    unfold hC hE patC
    refine sub_mk [] rfl rfl rfl ?_
    simp only [tmSub, hpSub, objSub, eqTm, eqHp, rn, lk, SV.ren, SV.renC, SV.renB, SV.renA, ren_ints, ren_strs, ren_pl, ren_svs, SV.v.injEq, Value.int.injEq, Body.ints.injEq, SV.ptr.injEq, SV.sl.injEq, Value.string.injEq, Value.bool.injEq, List.map_cons, List.map_nil, forall_const, Nat.reduceLT, Nat.lt_add_one, imp_self, true_and, and_true, and_self, ob_some, get_mk, lk_cons, ↓reduceIte, Nat.reduceEqDiff, ne_eq, not_true_eq_false, not_false_eq_true, Nat.one_ne_zero, Nat.zero_ne_one, Nat.succ_ne_self, Nat.reduceAdd, Bool.false_eq_true, false_implies, implies_true, reduceCtorEq]
    repeat' (first | rfl | apply And.intro)
  have b0 : decide (p.e = 0) = true := decide_eq_true he
  simp -implicitDefEqProofs only [go_sem, b0]
  by_cases c0 : p.begun = false ∨ 0 < p.adds ∨ ¬p.wait.size = 0 ∨ p.made.size < p.size
  · unfold clV
    rw [show clP p = ((⟨#[]⟩, 2), { p with closed := true, e := 2 }) by unfold clP; rw [if_neg (fun h => h he), if_pos c0]]
    by_cases c1 : p.begun = false
    · rw [c1]
      simp -implicitDefEqProofs only [go_sem, b0]
      unfold hC hE patC
      refine sub_mk [] rfl rfl rfl ?_
      simp only [tmSub, hpSub, objSub, eqTm, eqHp, rn, lk, SV.ren, SV.renC, SV.renB, SV.renA, ren_ints, ren_strs, ren_pl, ren_svs, SV.v.injEq, Value.int.injEq, Body.ints.injEq, SV.ptr.injEq, SV.sl.injEq, Value.string.injEq, Value.bool.injEq, List.map_cons, List.map_nil, forall_const, Nat.reduceLT, Nat.lt_add_one, imp_self, true_and, and_true, and_self, ob_some, get_mk, lk_cons, ↓reduceIte, Nat.reduceEqDiff, ne_eq, not_true_eq_false, not_false_eq_true, Nat.one_ne_zero, Nat.zero_ne_one, Nat.succ_ne_self, Nat.reduceAdd, Bool.false_eq_true, false_implies, implies_true, reduceCtorEq]
      try rw [c1]
      repeat' (first | rfl | apply And.intro)
    have b1 : p.begun = true := by simpa using c1
    rw [b1]
    simp -implicitDefEqProofs only [go_sem, b0]
    by_cases c2 : 0 < p.adds
    · have b2 : decide ((p.adds : Int) > 0) = true := decide_eq_true (by omega)
      simp -implicitDefEqProofs only [go_sem, b0, b2]
      unfold hC hE patC
      refine sub_mk [] rfl rfl rfl ?_
      simp only [tmSub, hpSub, objSub, eqTm, eqHp, rn, lk, SV.ren, SV.renC, SV.renB, SV.renA, ren_ints, ren_strs, ren_pl, ren_svs, SV.v.injEq, Value.int.injEq, Body.ints.injEq, SV.ptr.injEq, SV.sl.injEq, Value.string.injEq, Value.bool.injEq, List.map_cons, List.map_nil, forall_const, Nat.reduceLT, Nat.lt_add_one, imp_self, true_and, and_true, and_self, ob_some, get_mk, lk_cons, ↓reduceIte, Nat.reduceEqDiff, ne_eq, not_true_eq_false, not_false_eq_true, Nat.one_ne_zero, Nat.zero_ne_one, Nat.succ_ne_self, Nat.reduceAdd, Bool.false_eq_true, false_implies, implies_true, reduceCtorEq]
      try rw [b1]
      repeat' (first | rfl | apply And.intro)
    have b2 : decide ((p.adds : Int) > 0) = false := decide_eq_false (by omega)
    simp -implicitDefEqProofs only [go_sem, b0, b2]
    by_cases c3 : p.wait.size = 0
    rotate_left
    · have b3 : seq p.wait ⟨#[]⟩ = false := seq_nemp c3
      simp -implicitDefEqProofs only [go_sem, b0, b2, b3]
      unfold hC hE patC
      refine sub_mk [] rfl rfl rfl ?_
      simp only [tmSub, hpSub, objSub, eqTm, eqHp, rn, lk, SV.ren, SV.renC, SV.renB, SV.renA, ren_ints, ren_strs, ren_pl, ren_svs, SV.v.injEq, Value.int.injEq, Body.ints.injEq, SV.ptr.injEq, SV.sl.injEq, Value.string.injEq, Value.bool.injEq, List.map_cons, List.map_nil, forall_const, Nat.reduceLT, Nat.lt_add_one, imp_self, true_and, and_true, and_self, ob_some, get_mk, lk_cons, ↓reduceIte, Nat.reduceEqDiff, ne_eq, not_true_eq_false, not_false_eq_true, Nat.one_ne_zero, Nat.zero_ne_one, Nat.succ_ne_self, Nat.reduceAdd, Bool.false_eq_true, false_implies, implies_true, reduceCtorEq]
      try rw [b1]
      repeat' (first | rfl | apply And.intro)
    have b3 : seq p.wait ⟨#[]⟩ = true := seq_emp c3
    simp -implicitDefEqProofs only [go_sem, b0, b2, b3]
    refine in_call mixT tBLen ?_
    unfold mBLen
    simp -implicitDefEqProofs only [↓fnVC, initTm]
    simp -implicitDefEqProofs only [go_sem]
    have b4 : decide (((0 : Nat) : Int) < (p.size : Int)) = true := decide_eq_true (by rcases c0 with h | h | h | h <;> first | exact absurd h c1 | omega)
    simp -implicitDefEqProofs only [go_sem, b0, b2, b3, b4]
    unfold hC hE patC
    refine sub_mk [] rfl rfl rfl ?_
    simp only [tmSub, hpSub, objSub, eqTm, eqHp, rn, lk, SV.ren, SV.renC, SV.renB, SV.renA, ren_ints, ren_strs, ren_pl, ren_svs, SV.v.injEq, Value.int.injEq, Body.ints.injEq, SV.ptr.injEq, SV.sl.injEq, Value.string.injEq, Value.bool.injEq, List.map_cons, List.map_nil, forall_const, Nat.reduceLT, Nat.lt_add_one, imp_self, true_and, and_true, and_self, ob_some, get_mk, lk_cons, ↓reduceIte, Nat.reduceEqDiff, ne_eq, not_true_eq_false, not_false_eq_true, Nat.one_ne_zero, Nat.zero_ne_one, Nat.succ_ne_self, Nat.reduceAdd, Bool.false_eq_true, false_implies, implies_true, reduceCtorEq]
    try rw [b1]
    repeat' (first | rfl | apply And.intro)
  unfold clV
  have b1 : p.begun = true := by cases hb : p.begun with | false => exact absurd (.inl hb) c0 | true => rfl
  have b2 : decide ((p.adds : Int) > 0) = false := decide_eq_false (fun h => c0 (.inr (.inl (by omega))))
  have b3 : seq p.wait ⟨#[]⟩ = true := seq_emp (by by_cases h : p.wait.size = 0; exact h; exact absurd (.inr (.inr (.inl h))) c0)
  have b4' : ¬p.made.size < p.size := fun h => c0 (.inr (.inr (.inr h)))
  have b4 : decide (((0 : Nat) : Int) < (p.size : Int)) = false := decide_eq_false (by omega)
  rw [b1]
  simp -implicitDefEqProofs only [go_sem, b0, b2, b3]
  refine in_call mixT tBLen ?_
  unfold mBLen
  simp -implicitDefEqProofs only [↓fnVC, initTm]
  simp -implicitDefEqProofs only [go_sem]
  simp -implicitDefEqProofs only [go_sem, b0, b2, b3, b4]
  refine at_ext (enters_mk Try.func35 rfl rfl) (str07 (i := 1) (by rfl) rfl) ?_
  simp -implicitDefEqProofs only [go_sem]
  refine at_call t9 (sum1S (s := ⟨#[]⟩) (by rfl) (by decide)) ?_
  by_cases c5 : sha (bts p.made) = p.hash
  rotate_left
  · rw [show clP p = ((⟨#[]⟩, 10), { p with closed := true, e := 10 }) by unfold clP; rw [if_neg (fun h => h he), if_neg c0, if_pos c5]]
    have b5 : seq (sha (bts ⟨#[]⟩)) p.hash = false := seq_ne (by rw [← ba_zero hm]; exact c5)
    simp -implicitDefEqProofs only [go_sem, b5]
    unfold hC hE patC
    refine sub_mk [] rfl rfl rfl ?_
    simp only [tmSub, hpSub, objSub, eqTm, eqHp, rn, lk, SV.ren, SV.renC, SV.renB, SV.renA, ren_ints, ren_strs, ren_pl, ren_svs, SV.v.injEq, Value.int.injEq, Body.ints.injEq, SV.ptr.injEq, SV.sl.injEq, Value.string.injEq, Value.bool.injEq, List.map_cons, List.map_nil, forall_const, Nat.reduceLT, Nat.lt_add_one, imp_self, true_and, and_true, and_self, ob_some, get_mk, lk_cons, ↓reduceIte, Nat.reduceEqDiff, ne_eq, not_true_eq_false, not_false_eq_true, Nat.one_ne_zero, Nat.zero_ne_one, Nat.succ_ne_self, Nat.reduceAdd, Bool.false_eq_true, false_implies, implies_true, reduceCtorEq]
    try rw [b1]
    repeat' (first | rfl | apply And.intro)
  have b5 : seq (sha (bts ⟨#[]⟩)) p.hash = true := by rw [← ba_zero hm, c5]; exact seq_self _
  rw [show clP p = ((p.made, 0), { p with closed := true }) by unfold clP; rw [if_neg (fun h => h he), if_neg c0, if_neg (fun h => h c5)]]
  simp -implicitDefEqProofs only [go_sem, b5]
  refine at_ext (enters_mk Try.func35 rfl rfl) (str07 (i := 1) (by rfl) rfl) ?_
  simp -implicitDefEqProofs only [go_sem]
  unfold hC hE patC
  refine sub_mk [] rfl rfl rfl ?_
  simp only [tmSub, hpSub, objSub, eqTm, eqHp, rn, lk, SV.ren, SV.renC, SV.renB, SV.renA, ren_ints, ren_strs, ren_pl, ren_svs, SV.v.injEq, Value.int.injEq, Body.ints.injEq, SV.ptr.injEq, SV.sl.injEq, Value.string.injEq, Value.bool.injEq, List.map_cons, List.map_nil, forall_const, Nat.reduceLT, Nat.lt_add_one, imp_self, true_and, and_true, and_self, ob_some, get_mk, lk_cons, ↓reduceIte, Nat.reduceEqDiff, ne_eq, not_true_eq_false, not_false_eq_true, Nat.one_ne_zero, Nat.zero_ne_one, Nat.succ_ne_self, Nat.reduceAdd, Bool.false_eq_true, false_implies, implies_true, reduceCtorEq]
  try rw [b1]
  rw [ba_zero hm]
  repeat' (first | rfl | apply And.intro)
theorem closeN {p : Pt} (hp : p.ok) (hm : ¬p.made.size = 0) :
    fnVC CT mDClose [.ptr 1 0] (hN p 3 x) 5 fun v H' n' => Sub 5 ⟨[(0, clV p)], clH (clP p).2 x, 5⟩ ⟨[(0, v)], H', n'⟩ := by
  unfold mDClose hN patC
  simp -implicitDefEqProofs only [↓fnVC, initTm]
  simp -implicitDefEqProofs only [go_sem]
  have hom := hp.om
  by_cases he : p.e = 0
  rotate_left
  · have b0 : decide (p.e = 0) = false := decide_eq_false he
    simp -implicitDefEqProofs only [go_sem, b0]
    unfold clV
    rw [show clP p = ((⟨#[]⟩, p.e), { p with closed := true }) from if_pos he]
    rw [clH_D (by first | exact he | exact (by decide : ¬(2 : Int) = 0) | exact (by decide : ¬(10 : Int) = 0))]
    unfold hD patC
    refine sub_mk [] rfl rfl rfl ?_
    simp only [tmSub, hpSub, objSub, eqTm, eqHp, rn, lk, SV.ren, SV.renC, SV.renB, SV.renA, ren_ints, ren_strs, ren_pl, ren_svs, SV.v.injEq, Value.int.injEq, Body.ints.injEq, SV.ptr.injEq, SV.sl.injEq, Value.string.injEq, Value.bool.injEq, List.map_cons, List.map_nil, forall_const, Nat.reduceLT, Nat.lt_add_one, imp_self, true_and, and_true, and_self, ob_some, get_mk, lk_cons, ↓reduceIte, Nat.reduceEqDiff, ne_eq, not_true_eq_false, not_false_eq_true, Nat.one_ne_zero, Nat.zero_ne_one, Nat.succ_ne_self, Nat.reduceAdd, Bool.false_eq_true, false_implies, implies_true, reduceCtorEq]
    repeat' (first | rfl | apply And.intro)
  have b0 : decide (p.e = 0) = true := decide_eq_true he
  simp -implicitDefEqProofs only [go_sem, b0]
  by_cases c0 : p.begun = false ∨ 0 < p.adds ∨ ¬p.wait.size = 0 ∨ p.made.size < p.size
  · unfold clV
    rw [show clP p = ((⟨#[]⟩, 2), { p with closed := true, e := 2 }) by unfold clP; rw [if_neg (fun h => h he), if_pos c0]]
    by_cases c1 : p.begun = false
    · rw [c1]
      simp -implicitDefEqProofs only [go_sem, b0]
      rw [clH_D (by first | exact he | exact (by decide : ¬(2 : Int) = 0) | exact (by decide : ¬(10 : Int) = 0))]
      unfold hD patC
      refine sub_mk [] rfl rfl rfl ?_
      simp only [tmSub, hpSub, objSub, eqTm, eqHp, rn, lk, SV.ren, SV.renC, SV.renB, SV.renA, ren_ints, ren_strs, ren_pl, ren_svs, SV.v.injEq, Value.int.injEq, Body.ints.injEq, SV.ptr.injEq, SV.sl.injEq, Value.string.injEq, Value.bool.injEq, List.map_cons, List.map_nil, forall_const, Nat.reduceLT, Nat.lt_add_one, imp_self, true_and, and_true, and_self, ob_some, get_mk, lk_cons, ↓reduceIte, Nat.reduceEqDiff, ne_eq, not_true_eq_false, not_false_eq_true, Nat.one_ne_zero, Nat.zero_ne_one, Nat.succ_ne_self, Nat.reduceAdd, Bool.false_eq_true, false_implies, implies_true, reduceCtorEq]
      try rw [c1]
      repeat' (first | rfl | apply And.intro)
    have b1 : p.begun = true := by simpa using c1
    rw [b1]
    simp -implicitDefEqProofs only [go_sem, b0]
    by_cases c2 : 0 < p.adds
    · have b2 : decide ((p.adds : Int) > 0) = true := decide_eq_true (by omega)
      simp -implicitDefEqProofs only [go_sem, b0, b2]
      rw [clH_D (by first | exact he | exact (by decide : ¬(2 : Int) = 0) | exact (by decide : ¬(10 : Int) = 0))]
      unfold hD patC
      refine sub_mk [] rfl rfl rfl ?_
      simp only [tmSub, hpSub, objSub, eqTm, eqHp, rn, lk, SV.ren, SV.renC, SV.renB, SV.renA, ren_ints, ren_strs, ren_pl, ren_svs, SV.v.injEq, Value.int.injEq, Body.ints.injEq, SV.ptr.injEq, SV.sl.injEq, Value.string.injEq, Value.bool.injEq, List.map_cons, List.map_nil, forall_const, Nat.reduceLT, Nat.lt_add_one, imp_self, true_and, and_true, and_self, ob_some, get_mk, lk_cons, ↓reduceIte, Nat.reduceEqDiff, ne_eq, not_true_eq_false, not_false_eq_true, Nat.one_ne_zero, Nat.zero_ne_one, Nat.succ_ne_self, Nat.reduceAdd, Bool.false_eq_true, false_implies, implies_true, reduceCtorEq]
      try rw [b1]
      repeat' (first | rfl | apply And.intro)
    have b2 : decide ((p.adds : Int) > 0) = false := decide_eq_false (by omega)
    simp -implicitDefEqProofs only [go_sem, b0, b2]
    by_cases c3 : p.wait.size = 0
    rotate_left
    · have b3 : seq p.wait ⟨#[]⟩ = false := seq_nemp c3
      simp -implicitDefEqProofs only [go_sem, b0, b2, b3]
      rw [clH_D (by first | exact he | exact (by decide : ¬(2 : Int) = 0) | exact (by decide : ¬(10 : Int) = 0))]
      unfold hD patC
      refine sub_mk [] rfl rfl rfl ?_
      simp only [tmSub, hpSub, objSub, eqTm, eqHp, rn, lk, SV.ren, SV.renC, SV.renB, SV.renA, ren_ints, ren_strs, ren_pl, ren_svs, SV.v.injEq, Value.int.injEq, Body.ints.injEq, SV.ptr.injEq, SV.sl.injEq, Value.string.injEq, Value.bool.injEq, List.map_cons, List.map_nil, forall_const, Nat.reduceLT, Nat.lt_add_one, imp_self, true_and, and_true, and_self, ob_some, get_mk, lk_cons, ↓reduceIte, Nat.reduceEqDiff, ne_eq, not_true_eq_false, not_false_eq_true, Nat.one_ne_zero, Nat.zero_ne_one, Nat.succ_ne_self, Nat.reduceAdd, Bool.false_eq_true, false_implies, implies_true, reduceCtorEq]
      try rw [b1]
      repeat' (first | rfl | apply And.intro)
    have b3 : seq p.wait ⟨#[]⟩ = true := seq_emp c3
    simp -implicitDefEqProofs only [go_sem, b0, b2, b3]
    refine in_call mixT tBLen ?_
    unfold mBLen
    simp -implicitDefEqProofs only [↓fnVC, initTm]
    simp -implicitDefEqProofs only [go_sem]
    have b4 : decide ((p.made.size : Int) < (p.size : Int)) = true := decide_eq_true (by rcases c0 with h | h | h | h <;> first | exact absurd h c1 | omega)
    simp -implicitDefEqProofs only [go_sem, b0, b2, b3, b4]
    rw [clH_D (by first | exact he | exact (by decide : ¬(2 : Int) = 0) | exact (by decide : ¬(10 : Int) = 0))]
    unfold hD patC
    refine sub_mk [] rfl rfl rfl ?_
    simp only [tmSub, hpSub, objSub, eqTm, eqHp, rn, lk, SV.ren, SV.renC, SV.renB, SV.renA, ren_ints, ren_strs, ren_pl, ren_svs, SV.v.injEq, Value.int.injEq, Body.ints.injEq, SV.ptr.injEq, SV.sl.injEq, Value.string.injEq, Value.bool.injEq, List.map_cons, List.map_nil, forall_const, Nat.reduceLT, Nat.lt_add_one, imp_self, true_and, and_true, and_self, ob_some, get_mk, lk_cons, ↓reduceIte, Nat.reduceEqDiff, ne_eq, not_true_eq_false, not_false_eq_true, Nat.one_ne_zero, Nat.zero_ne_one, Nat.succ_ne_self, Nat.reduceAdd, Bool.false_eq_true, false_implies, implies_true, reduceCtorEq]
    try rw [b1]
    repeat' (first | rfl | apply And.intro)
  unfold clV
  have b1 : p.begun = true := by cases hb : p.begun with | false => exact absurd (.inl hb) c0 | true => rfl
  have b2 : decide ((p.adds : Int) > 0) = false := decide_eq_false (fun h => c0 (.inr (.inl (by omega))))
  have b3 : seq p.wait ⟨#[]⟩ = true := seq_emp (by by_cases h : p.wait.size = 0; exact h; exact absurd (.inr (.inr (.inl h))) c0)
  have b4' : ¬p.made.size < p.size := fun h => c0 (.inr (.inr (.inr h)))
  have b4 : decide ((p.made.size : Int) < (p.size : Int)) = false := decide_eq_false (by omega)
  rw [b1]
  simp -implicitDefEqProofs only [go_sem, b0, b2, b3]
  refine in_call mixT tBLen ?_
  unfold mBLen
  simp -implicitDefEqProofs only [↓fnVC, initTm]
  simp -implicitDefEqProofs only [go_sem]
  simp -implicitDefEqProofs only [go_sem, b0, b2, b3, b4]
  refine at_ext (enters_mk Try.func35 rfl rfl) (str17 (i := 1) (r := 3) (q := 4) (k := p.made.size) (bs := bts p.made) (by rfl) rfl (by rfl) (by rw [bts_len]) hm (by omega) (by rfl) rfl bts_bytes) ?_
  rw [tx_bts]
  simp -implicitDefEqProofs only [go_sem]
  refine at_call t9 (sum1S (s := p.made) (by rfl) (by omega)) ?_
  by_cases c5 : sha (bts p.made) = p.hash
  rotate_left
  · rw [show clP p = ((⟨#[]⟩, 10), { p with closed := true, e := 10 }) by unfold clP; rw [if_neg (fun h => h he), if_neg c0, if_pos c5]]
    have b5 : seq (sha (bts p.made)) p.hash = false := seq_ne c5
    simp -implicitDefEqProofs only [go_sem, b5]
    rw [clH_D (by first | exact he | exact (by decide : ¬(2 : Int) = 0) | exact (by decide : ¬(10 : Int) = 0))]
    unfold hD patC
    refine sub_mk [] rfl rfl rfl ?_
    simp only [tmSub, hpSub, objSub, eqTm, eqHp, rn, lk, SV.ren, SV.renC, SV.renB, SV.renA, ren_ints, ren_strs, ren_pl, ren_svs, SV.v.injEq, Value.int.injEq, Body.ints.injEq, SV.ptr.injEq, SV.sl.injEq, Value.string.injEq, Value.bool.injEq, List.map_cons, List.map_nil, forall_const, Nat.reduceLT, Nat.lt_add_one, imp_self, true_and, and_true, and_self, ob_some, get_mk, lk_cons, ↓reduceIte, Nat.reduceEqDiff, ne_eq, not_true_eq_false, not_false_eq_true, Nat.one_ne_zero, Nat.zero_ne_one, Nat.succ_ne_self, Nat.reduceAdd, Bool.false_eq_true, false_implies, implies_true, reduceCtorEq]
    try rw [b1]
    repeat' (first | rfl | apply And.intro)
  have b5 : seq (sha (bts p.made)) p.hash = true := by rw [c5]; exact seq_self _
  rw [show clP p = ((p.made, 0), { p with closed := true }) by unfold clP; rw [if_neg (fun h => h he), if_neg c0, if_neg (fun h => h c5)]]
  simp -implicitDefEqProofs only [go_sem, b5]
  refine at_ext (enters_mk Try.func35 rfl rfl) (str27 (i := 1) (r := 3) (k := p.made.size) (bs := bts p.made) (by rfl) rfl (by rfl) rfl (by rw [bts_len]) hm (by omega) bts_bytes) ?_
  rw [tx_bts]
  simp -implicitDefEqProofs only [go_sem]
  rw [clH_F (by exact he)]
  unfold hF patC
  refine sub_mk [] rfl rfl rfl ?_
  simp only [tmSub, hpSub, objSub, eqTm, eqHp, rn, lk, SV.ren, SV.renC, SV.renB, SV.renA, ren_ints, ren_strs, ren_pl, ren_svs, SV.v.injEq, Value.int.injEq, Body.ints.injEq, SV.ptr.injEq, SV.sl.injEq, Value.string.injEq, Value.bool.injEq, List.map_cons, List.map_nil, forall_const, Nat.reduceLT, Nat.lt_add_one, imp_self, true_and, and_true, and_self, ob_some, get_mk, lk_cons, ↓reduceIte, Nat.reduceEqDiff, ne_eq, not_true_eq_false, not_false_eq_true, Nat.one_ne_zero, Nat.zero_ne_one, Nat.succ_ne_self, Nat.reduceAdd, Bool.false_eq_true, false_implies, implies_true, reduceCtorEq]
  try rw [b1]
  repeat' (first | rfl | apply And.intro)
end
section
/- Delta: New; Apply. -/
set_option linter.unusedVariables false
set_option linter.unusedSimpArgs false
set_option maxRecDepth 100000
open Go.Proofs
variable {H : Hp} {n : Nat} {x : Nat → Option SO}
def nwP (old : ByteArray) : Pt := ⟨old, ⟨#[]⟩, 0, ⟨#[]⟩, false, 0, 0, ⟨#[]⟩, if 8192 < old.size then 4 else 0, false⟩
theorem nw_good (old : ByteArray) : (nwP old).good := by
  refine ⟨⟨by show (0 : Nat) ≤ _; decide, by show (0 : Nat) ≤ _; decide, by show (0 : Nat) < _; decide, by show (0 : Nat) + 0 ≤ _; decide, fun h => ?_⟩, fun _ => rfl, by show (0 : Nat) ≤ _; decide, fun _ => ⟨by show (0 : Nat) ≤ _; decide, Nat.le_refl _⟩⟩
  have h : (if 8192 < old.size then (4 : Int) else 0) = 0 := h
  by_cases c : 8192 < old.size
  · rw [if_pos c] at h; exact absurd h (by decide)
  · exact ⟨by show old.size ≤ _; omega, by show (0 : Nat) ≤ _; decide, by show (0 : Nat) + 0 ≤ 0; decide⟩
theorem newW {old : ByteArray} : fnVC CT mDNew [.v (.string old)] ⟨[], x⟩ 1 fun v H' n' => Sub 1 ⟨[(0, .ptr 1 0)], hE (nwP old) x, 3⟩ ⟨[(0, v)], H', n'⟩ := by
  unfold mDNew
  simp -implicitDefEqProofs only [↓fnVC, initTm]
  simp -implicitDefEqProofs only [go_sem]
  by_cases c : 8192 < old.size
  · have a : decide ((old.size : Int) > 8192) = true := decide_eq_true (by omega)
    simp -implicitDefEqProofs only [go_sem, a]
    refine ⟨by show 9 < 11; decide, ?_⟩
    unfold hE patC nwP
    rw [if_pos c]
    refine sub_mk [] rfl rfl rfl ?_
    simp only [tmSub, hpSub, objSub, eqTm, eqHp, rn, lk, SV.ren, SV.renC, SV.renB, SV.renA, ren_ints, ren_strs, ren_pl, ren_svs, SV.v.injEq, Value.int.injEq, Body.ints.injEq, SV.ptr.injEq, SV.sl.injEq, Value.string.injEq, Value.bool.injEq, List.map_cons, List.map_nil, forall_const, Nat.reduceLT, Nat.lt_add_one, imp_self, true_and, and_true, and_self, ob_some, get_mk, lk_cons, ↓reduceIte, Nat.reduceEqDiff, ne_eq, not_true_eq_false, not_false_eq_true, Nat.one_ne_zero, Nat.zero_ne_one, Nat.succ_ne_self, Nat.reduceAdd, Bool.false_eq_true, false_implies, implies_true, reduceCtorEq]
    repeat' (first | rfl | apply And.intro)
  · have a : decide ((old.size : Int) > 8192) = false := decide_eq_false (by omega)
    simp -implicitDefEqProofs only [go_sem, a]
    unfold hE patC nwP
    rw [if_neg c]
    refine sub_mk [] rfl rfl rfl ?_
    simp only [tmSub, hpSub, objSub, eqTm, eqHp, rn, lk, SV.ren, SV.renC, SV.renB, SV.renA, ren_ints, ren_strs, ren_pl, ren_svs, SV.v.injEq, Value.int.injEq, Body.ints.injEq, SV.ptr.injEq, SV.sl.injEq, Value.string.injEq, Value.bool.injEq, List.map_cons, List.map_nil, forall_const, Nat.reduceLT, Nat.lt_add_one, imp_self, true_and, and_true, and_self, ob_some, get_mk, lk_cons, ↓reduceIte, Nat.reduceEqDiff, ne_eq, not_true_eq_false, not_false_eq_true, Nat.one_ne_zero, Nat.zero_ne_one, Nat.succ_ne_self, Nat.reduceAdd, Bool.false_eq_true, false_implies, implies_true, reduceCtorEq]
    repeat' (first | rfl | apply And.intro)
theorem clH_x {p : Pt} : (clH p x).x = x := by unfold clH; split <;> rfl
theorem out_ok {q : Pt} (h : q.ok) : (outP q).ok := by
  have := h.os
  refine ⟨h.ow, by show min q.seen 16385 ≤ _; omega, h.oz, h.om, fun e => ?_⟩
  have e : (if q.e = 0 ∧ 16384 < q.seen then (4 : Int) else q.e) = 0 := e
  by_cases c : q.e = 0 ∧ 16384 < q.seen
  · rw [if_pos c] at e; exact absurd e (by decide)
  · rw [if_neg c] at e; exact h.oe e
theorem wr_good {p : Pt} {s : ByteArray} (hp : p.good) (hs : s.size ≤ 1073000000) : (wrP p s).2.good ∧ p.made.size ≤ (wrP p s).2.made.size ∧ (wrP p s).2.old = p.old ∧ (wrP p s).2.closed = p.closed := by
  unfold wrP
  split
  · exact ⟨hp, Nat.le_refl _, rfl, rfl⟩
  rename_i he
  have he : p.e = 0 := by by_cases h : p.e = 0; exact h; exact absurd h he
  split
  · exact ⟨hp, Nat.le_refl _, rfl, rfl⟩
  obtain ⟨i1, i2⟩ := in_ok hp he hs
  obtain ⟨g1, g2⟩ := hp.g1 he
  have r := run_ok _ (Nat.le_refl _) i1 i2
  have hw : (inP p s).wait.size ≤ 16384 := i1.ow
  refine ⟨⟨out_ok r.ok, r.fr, by show min (runP (inP p s)).seen 16385 ≤ _; omega, fun e => ?_⟩, r.made, r.old, r.cl⟩
  have e : (if (runP (inP p s)).e = 0 ∧ 16384 < (runP (inP p s)).seen then (4 : Int) else (runP (inP p s)).e) = 0 := e
  by_cases c : (runP (inP p s)).e = 0 ∧ 16384 < (runP (inP p s)).seen
  · rw [if_pos c] at e; exact absurd e (by decide)
  · rw [if_neg c] at e
    have hs' : (runP (inP p s)).seen ≤ 16384 := by
      by_cases h : 16384 < (runP (inP p s)).seen
      · exact absurd ⟨e, h⟩ c
      · omega
    refine ⟨by show min (runP (inP p s)).seen 16385 ≤ 16384; omega, ?_⟩
    show (runP (inP p s)).wait.size ≤ min (runP (inP p s)).seen 16385
    have h1 : (inP p s).seen = p.seen + s.size := rfl
    have h2 : (inP p s).wait.size = p.wait.size + (s.extract 0 (min s.size (16384 - p.seen))).size := ByteArray.size_append
    have h3 := r.wait
    have h4 := r.seen
    rw [ex_size] at h2
    have m1 : min s.size (16384 - p.seen) ≤ s.size := Nat.min_le_left _ _
    omega
def apV (old s : ByteArray) : SV := clV (wrP (nwP old) s).2
theorem applyS {old s : ByteArray} (hs : s.size ≤ 1073000000) : SpecAt Try.prog nDApply [.v (.string old), .v (.string s)] H n (apV old s) H n := lift_pure (okT.spec tDApply (by
  unfold mDApply
  simp -implicitDefEqProofs only [↓fnVC, initTm]
  simp -implicitDefEqProofs only [go_sem]
  refine at_call tDNew (okT.spec tDNew (newW (x := H.x) (old := old))) ?_
  simp -implicitDefEqProofs only [go_sem]
  have hg := nw_good old
  have hm : (nwP old).made.size = 0 := rfl
  refine at_call tDWrite (okT.spec tDWrite (writeE (x := H.x) hg hs hm)) ?_
  obtain ⟨w1, w2, w3, w4⟩ := wr_good hg hs
  generalize hq : (wrP (nwP old) s).2 = q at w1
  by_cases hz : q.made.size = 0
  · rw [tkH_E hz, tkN_E hz]
    simp -implicitDefEqProofs only [go_sem]
    refine at_call tDClose (okT.spec tDClose (closeE (x := H.x) w1.ok hz)) ?_
    unfold clV
    simp -implicitDefEqProofs only [go_sem]
    refine sub_mk [] rfl rfl rfl ?_
    simp only [tmSub, hpSub, objSub, eqTm, eqHp, rn, lk, SV.ren, SV.renC, SV.renB, SV.renA, ren_ints, ren_strs, ren_pl, ren_svs, SV.v.injEq, Value.int.injEq, Body.ints.injEq, SV.ptr.injEq, SV.sl.injEq, Value.string.injEq, Value.bool.injEq, List.map_cons, List.map_nil, forall_const, Nat.reduceLT, Nat.lt_add_one, imp_self, true_and, and_true, and_self, ob_some, get_mk, lk_cons, ↓reduceIte, Nat.reduceEqDiff, ne_eq, not_true_eq_false, not_false_eq_true, Nat.one_ne_zero, Nat.zero_ne_one, Nat.succ_ne_self, Nat.reduceAdd, Bool.false_eq_true, false_implies, implies_true, reduceCtorEq]
    unfold apV clV
    rw [hq]
    rfl
  · rw [tkH_N hz, tkN_N hz]
    simp -implicitDefEqProofs only [go_sem]
    refine at_call tDClose (okT.spec tDClose (closeN (x := H.x) w1.ok hz)) ?_
    unfold clV
    simp -implicitDefEqProofs only [go_sem]
    refine sub_mk [] rfl clH_x.symm rfl ?_
    simp only [tmSub, hpSub, objSub, eqTm, eqHp, rn, lk, SV.ren, SV.renC, SV.renB, SV.renA, ren_ints, ren_strs, ren_pl, ren_svs, SV.v.injEq, Value.int.injEq, Body.ints.injEq, SV.ptr.injEq, SV.sl.injEq, Value.string.injEq, Value.bool.injEq, List.map_cons, List.map_nil, forall_const, Nat.reduceLT, Nat.lt_add_one, imp_self, true_and, and_true, and_self, ob_some, get_mk, lk_cons, ↓reduceIte, Nat.reduceEqDiff, ne_eq, not_true_eq_false, not_false_eq_true, Nat.one_ne_zero, Nat.zero_ne_one, Nat.succ_ne_self, Nat.reduceAdd, Bool.false_eq_true, false_implies, implies_true, reduceCtorEq]
    unfold apV clV
    rw [hq]
    rfl)) rfl
end
section
/- Delta: what is laid; Make's head and places. -/
set_option linter.unusedVariables false
set_option linter.unusedSimpArgs false
set_option maxRecDepth 100000
open Go.Proofs
variable {H : Hp} {n : Nat} {x : Nat → Option SO}
theorem wKS {f : Nat} {m : MFn} {bs ys : List Int} {i r : Nat} (t : trFn Try.prog f = some m) {a : SV} (ha : ∀ π, a.ren π = a) (hlt : ltT 3 a = true)
    (hm : ∀ x, fnVC CT m [.ptr 1 0, a] ⟨[(1, some (wrO 2 bs.length false)), (2, some ⟨true, .ints .u8 bs⟩)], x⟩ 3 fun v H' n' => Sub 3 ⟨[(0, .tup [])], ⟨[(1, some (wrO 3 (bs ++ ys).length false)), (2, none), (3, some ⟨true, .ints .u8 (bs ++ ys)⟩)], x⟩, 4⟩ ⟨[(0, v)], H', n'⟩)
    (hg : H.get i = some (wrO r bs.length false)) (hr : H.get r = some ⟨true, .ints .u8 bs⟩) (hi : 0 < i ∧ i < 1000) (hr1 : 0 < r ∧ r < 1000) (hne : i ≠ r) (hn : n + 1 ≤ 1000) :
    SpecAt Try.prog f [.ptr i 0, a] H n (.tup []) ⟨(i, some (wrO n (bs ++ ys).length false)) :: (r, none) :: (n, some ⟨true, .ints .u8 (bs ++ ys)⟩) :: H.l, H.x⟩ (n + 1) := by
  have := lift (n := n) (okT.spec t (hm H.x)) [(1, i), (2, r)] rfl rfl (by simp [ltT, ltB, ltC, ltA, idOK] at hlt ⊢; exact hlt) (by omega) rfl rfl
    ⟨sub_wr rfl hi.1 hi.2 hg rfl, sub_wr rfl hr1.1 hr1.2 hr rfl, trivial⟩ (by simp [apartB, apart1, rn, lk, hne, Ne.symm hne]) (by simp [wrNZ, rn, lk]; omega) (by omega)
  rw [List.map_cons, List.map_cons, List.map_nil, ha] at this
  exact this
theorem wByteS {i r y : Nat} {bs : List Int} (hy : y < 256) (hb : bs.length ≤ 1099511627776) (hg : H.get i = some (wrO r bs.length false)) (hr : H.get r = some ⟨true, .ints .u8 bs⟩) (hi : 0 < i ∧ i < 1000) (hr1 : 0 < r ∧ r < 1000) (hne : i ≠ r) (hn : n + 1 ≤ 1000) :
    SpecAt Try.prog nWByte [.ptr i 0, .v (.int .i64 y)] H n (.tup []) ⟨(i, some (wrO n (bs ++ be y 1).length false)) :: (r, none) :: (n, some ⟨true, .ints .u8 (bs ++ be y 1)⟩) :: H.l, H.x⟩ (n + 1) := wKS tWByte (fun _ => rfl) rfl (by
  intro x
  unfold mWByte
  simp -implicitDefEqProofs only [↓fnVC, initTm]
  simp -implicitDefEqProofs only [go_sem]
  refine at_call tWNumber (wNumS (i := 1) (r := 2) (k := 1) (y := y) (bs := bs) (bad := false) (by rfl) (by rfl) (by decide) (by decide) (by decide) (by decide) (by decide) (by omega) (fun _ => hy) hb) ?_
  simp -implicitDefEqProofs only [go_sem]
  refine sub_mk [] rfl rfl rfl ?_
  simp only [tmSub, hpSub, objSub, eqTm, eqHp, rn, lk, SV.ren, SV.renC, SV.renB, SV.renA, ren_ints, ren_strs, ren_pl, ren_svs, SV.v.injEq, Value.int.injEq, Body.ints.injEq, SV.ptr.injEq, SV.sl.injEq, Value.string.injEq, Value.bool.injEq, List.map_cons, List.map_nil, forall_const, Nat.reduceLT, Nat.lt_add_one, imp_self, true_and, and_true, and_self, ob_some, get_mk, lk_cons, ↓reduceIte, Nat.reduceEqDiff, ne_eq, not_true_eq_false, not_false_eq_true, Nat.one_ne_zero, Nat.zero_ne_one, Nat.succ_ne_self, Nat.reduceAdd, Bool.false_eq_true, false_implies, implies_true, reduceCtorEq, wrO]) hg hr hi hr1 hne hn
theorem wTwoS {i r y : Nat} {bs : List Int} (hy : y < 65536) (hb : bs.length ≤ 1099511627776) (hg : H.get i = some (wrO r bs.length false)) (hr : H.get r = some ⟨true, .ints .u8 bs⟩) (hi : 0 < i ∧ i < 1000) (hr1 : 0 < r ∧ r < 1000) (hne : i ≠ r) (hn : n + 1 ≤ 1000) :
    SpecAt Try.prog nWTwo [.ptr i 0, .v (.int .i64 y)] H n (.tup []) ⟨(i, some (wrO n (bs ++ be y 2).length false)) :: (r, none) :: (n, some ⟨true, .ints .u8 (bs ++ be y 2)⟩) :: H.l, H.x⟩ (n + 1) := wKS tWTwo (fun _ => rfl) rfl (by
  intro x
  unfold mWTwo
  simp -implicitDefEqProofs only [↓fnVC, initTm]
  simp -implicitDefEqProofs only [go_sem]
  refine at_call tWNumber (wNumS (i := 1) (r := 2) (k := 2) (y := y) (bs := bs) (bad := false) (by rfl) (by rfl) (by decide) (by decide) (by decide) (by decide) (by decide) (by omega) (fun _ => hy) hb) ?_
  simp -implicitDefEqProofs only [go_sem]
  refine sub_mk [] rfl rfl rfl ?_
  simp only [tmSub, hpSub, objSub, eqTm, eqHp, rn, lk, SV.ren, SV.renC, SV.renB, SV.renA, ren_ints, ren_strs, ren_pl, ren_svs, SV.v.injEq, Value.int.injEq, Body.ints.injEq, SV.ptr.injEq, SV.sl.injEq, Value.string.injEq, Value.bool.injEq, List.map_cons, List.map_nil, forall_const, Nat.reduceLT, Nat.lt_add_one, imp_self, true_and, and_true, and_self, ob_some, get_mk, lk_cons, ↓reduceIte, Nat.reduceEqDiff, ne_eq, not_true_eq_false, not_false_eq_true, Nat.one_ne_zero, Nat.zero_ne_one, Nat.succ_ne_self, Nat.reduceAdd, Bool.false_eq_true, false_implies, implies_true, reduceCtorEq, wrO]) hg hr hi hr1 hne hn
theorem wFourS {i r y : Nat} {bs : List Int} (hy : y < 4294967296) (hb : bs.length ≤ 1099511627776) (hg : H.get i = some (wrO r bs.length false)) (hr : H.get r = some ⟨true, .ints .u8 bs⟩) (hi : 0 < i ∧ i < 1000) (hr1 : 0 < r ∧ r < 1000) (hne : i ≠ r) (hn : n + 1 ≤ 1000) :
    SpecAt Try.prog nWFour [.ptr i 0, .v (.int .i64 y)] H n (.tup []) ⟨(i, some (wrO n (bs ++ be y 4).length false)) :: (r, none) :: (n, some ⟨true, .ints .u8 (bs ++ be y 4)⟩) :: H.l, H.x⟩ (n + 1) := wKS tWFour (fun _ => rfl) rfl (by
  intro x
  unfold mWFour
  simp -implicitDefEqProofs only [↓fnVC, initTm]
  simp -implicitDefEqProofs only [go_sem]
  refine at_call tWNumber (wNumS (i := 1) (r := 2) (k := 4) (y := y) (bs := bs) (bad := false) (by rfl) (by rfl) (by decide) (by decide) (by decide) (by decide) (by decide) (by omega) (fun _ => hy) hb) ?_
  simp -implicitDefEqProofs only [go_sem]
  refine sub_mk [] rfl rfl rfl ?_
  simp only [tmSub, hpSub, objSub, eqTm, eqHp, rn, lk, SV.ren, SV.renC, SV.renB, SV.renA, ren_ints, ren_strs, ren_pl, ren_svs, SV.v.injEq, Value.int.injEq, Body.ints.injEq, SV.ptr.injEq, SV.sl.injEq, Value.string.injEq, Value.bool.injEq, List.map_cons, List.map_nil, forall_const, Nat.reduceLT, Nat.lt_add_one, imp_self, true_and, and_true, and_self, ob_some, get_mk, lk_cons, ↓reduceIte, Nat.reduceEqDiff, ne_eq, not_true_eq_false, not_false_eq_true, Nat.one_ne_zero, Nat.zero_ne_one, Nat.succ_ne_self, Nat.reduceAdd, Bool.false_eq_true, false_implies, implies_true, reduceCtorEq, wrO]) hg hr hi hr1 hne hn
theorem wTextS {i r : Nat} {s : ByteArray} {bs : List Int} (hs : s.size < 65536) (hb : bs.length ≤ 1048576) (hg : H.get i = some (wrO r bs.length false)) (hr : H.get r = some ⟨true, .ints .u8 bs⟩) (hi : 0 < i ∧ i < 1000) (hr1 : 0 < r ∧ r < 1000) (hne : i ≠ r) (hn : n + 1 ≤ 1000) :
    SpecAt Try.prog nWText [.ptr i 0, .v (.string s)] H n (.tup []) ⟨(i, some (wrO n (bs ++ (be s.size 2 ++ bts s)).length false)) :: (r, none) :: (n, some ⟨true, .ints .u8 (bs ++ (be s.size 2 ++ bts s))⟩) :: H.l, H.x⟩ (n + 1) := wKS tWText (fun _ => rfl) rfl (by
  intro x
  unfold mWText
  simp -implicitDefEqProofs only [↓fnVC, initTm]
  unfold wrO
  simp -implicitDefEqProofs only [go_sem]
  refine at_call tWNumber (wNumS (i := 1) (r := 2) (k := 2) (y := s.size) (bs := bs) (bad := false) (by rfl) (by rfl) (by decide) (by decide) (by decide) (by decide) (by decide) (by omega) (fun _ => hs) (by omega)) ?_
  unfold wrO
  simp -implicitDefEqProofs only [go_sem]
  refine ⟨by rw [List.length_append, be_len]; omega, ?_⟩
  refine sub_mk [(3, 4)] rfl rfl rfl ?_
  simp only [tmSub, hpSub, objSub, eqTm, eqHp, rn, lk, SV.ren, SV.renC, SV.renB, SV.renA, ren_ints, ren_strs, ren_pl, ren_svs, SV.v.injEq, Value.int.injEq, Body.ints.injEq, SV.ptr.injEq, SV.sl.injEq, Value.string.injEq, Value.bool.injEq, List.map_cons, List.map_nil, forall_const, Nat.reduceLT, Nat.lt_add_one, imp_self, true_and, and_true, and_self, ob_some, get_mk, lk_cons, ↓reduceIte, Nat.reduceEqDiff, ne_eq, not_true_eq_false, not_false_eq_true, Nat.one_ne_zero, Nat.zero_ne_one, Nat.succ_ne_self, Nat.reduceAdd, Bool.false_eq_true, false_implies, implies_true, reduceCtorEq]
  rw [← List.append_assoc, List.length_append (bs := bts s), bts_len]
  repeat' (first | rfl | apply And.intro)) hg hr hi hr1 hne hn
/-- The places: behind j rounds, the last m of them first. -/
def plcE (old : ByteArray) (m : Nat) : Nat → List (Value × Value)
  | 0 => []
  | j + 1 => upS (plcE old m j) (old.extract (m - j) (m - j + 16)) (.int .i64 ((m - j : Nat) : Int))
def hdB (old text : ByteArray) : List Int := be old.size 4 ++ bts (sha (bts old)) ++ be text.size 4 ++ bts (sha (bts text))
theorem keysS_up {es : List (Value × Value)} {s : ByteArray} {y : Value} (h : keysS es = true) : keysS (upS es s y) = true := by
  induction es with
  | nil => rfl
  | cons e es ih =>
    unfold upS
    unfold keysS at h ih ⊢
    rw [List.all_cons, Bool.and_eq_true] at h
    split
    · rw [List.all_cons, Bool.and_eq_true]; exact ⟨rfl, h.2⟩
    · rw [List.all_cons, Bool.and_eq_true]; exact ⟨h.1, ih h.2⟩
theorem plc_keys (old : ByteArray) (m : Nat) : ∀ j, keysS (plcE old m j) = true
  | 0 => rfl
  | j + 1 => keysS_up (plc_keys old m j)
theorem lu_up {es : List (Value × Value)} {s t : ByteArray} {y v : Value} (h : luS (upS es s y) t = some v) : (t = s ∧ v = y) ∨ luS es t = some v := by
  induction es with
  | nil =>
    unfold upS luS at h
    split at h
    · rename_i hk
      have hk : s = t := of_decide_eq_true hk
      exact .inl ⟨hk.symm, (Option.some.inj h).symm⟩
    · exact absurd h (by simp [luS])
  | cons e es ih =>
    unfold upS at h
    split at h
    · rename_i hk
      unfold luS at h
      split at h
      · rename_i hk2
        have hk2 : s = t := of_decide_eq_true hk2
        exact .inl ⟨hk2.symm, (Option.some.inj h).symm⟩
      · rename_i hk2
        have hk2 : ¬s = t := fun e => hk2 (decide_eq_true e)
        right
        unfold luS
        have : keyIs e.1 t = false := by
          unfold keyIs at hk ⊢
          split at hk
          · have := of_decide_eq_true hk; subst this; exact decide_eq_false hk2
          · cases hk
        rw [this, if_neg (by simp)]
        exact h
    · unfold luS at h ⊢
      split at h
      · rename_i hk2; rw [hk2, if_pos rfl]; exact .inr h
      · rename_i hk2
        rcases ih h with h1 | h1
        · exact .inl h1
        · right; rw [if_neg hk2]; exact h1
theorem plc_lu (old : ByteArray) (m : Nat) (hm : m + 16 ≤ old.size) {t : ByteArray} {v : Value} : ∀ j, j ≤ m + 1 → luS (plcE old m j) t = some v → ∃ i : Nat, v = .int .i64 i ∧ i + 16 ≤ old.size ∧ old.extract i (i + 16) = t
  | 0, _, h => by cases h
  | j + 1, hj, h => by
    rcases lu_up h with ⟨h1, h2⟩ | h1
    · exact ⟨m - j, h2, by omega, h1.symm⟩
    · exact plc_lu old m hm j (by omega) h1
def plc (old : ByteArray) : List (Value × Value) := plcE old (old.size - 16) (old.size - 15)
theorem plc_ok {old t : ByteArray} {v : Value} (h : luS (plc old) t = some v) : ∃ i : Nat, v = .int .i64 i ∧ i + 16 ≤ old.size ∧ old.extract i (i + 16) = t := by
  by_cases c : 16 ≤ old.size
  · exact plc_lu old (old.size - 16) (by omega) (old.size - 15) (by omega) h
  · unfold plc at h
    rw [show old.size - 15 = 0 by omega] at h
    cases h
def luN (old t : ByteArray) : Option Nat := match luS (plc old) t with
  | some (.int _ i) => some i.toNat
  | _ => none
def extL (old text : ByteArray) (f a : Nat) : Nat → Nat → Nat
  | 0, k => k
  | g + 1, k => if f + k < old.size ∧ a + k < text.size ∧ (bts old).getD (f + k) 0 = (bts text).getD (a + k) 0 then extL old text f a g (k + 1) else k
def hpre (s t : ByteArray) : Bool := decide (t.size ≤ s.size) && seq (s.extract 0 t.size) t
def fnP (old text : ByteArray) (a : Nat) : Nat × Nat :=
  if ¬old.size = 0 ∧ hpre (text.extract a text.size) old = true then (0, old.size)
  else if a + 16 ≤ text.size then match luN old (text.extract a (a + 16)) with
    | none => (0, 0)
    | some i => (i, extL old text i a old.size 16)
  else (0, 0)
structure Mk where
  at_ : Nat
  rest : ByteArray
  bs : List Int
def addB (rest : ByteArray) (bs : List Int) : List Int := if rest.size = 0 then bs else bs ++ be 2 1 ++ (be rest.size 2 ++ bts rest)
def mkStep (old text : ByteArray) (s : Mk) : Mk :=
  if (fnP old text s.at_).2 < 10 ∧ (fnP old text s.at_).2 ≠ text.size then ⟨s.at_ + 1, s.rest ++ text.extract s.at_ (s.at_ + 1), s.bs⟩
  else ⟨s.at_ + (fnP old text s.at_).2, ⟨#[]⟩, addB s.rest s.bs ++ be 1 1 ++ be (fnP old text s.at_).1 4 ++ be (fnP old text s.at_).2 2⟩
def mkRun (old text : ByteArray) : Nat → Mk → Mk
  | 0, s => s
  | k + 1, s => if s.at_ < text.size then mkRun old text k (mkStep old text s) else s
def mkFin (old text : ByteArray) (s : Mk) : Mk := mkRun old text (text.size - s.at_) s
def mk0 (old text : ByteArray) : Mk := ⟨0, ⟨#[]⟩, hdB old text⟩
def mkB (old text : ByteArray) : List Int := addB (mkFin old text (mk0 old text)).rest (mkFin old text (mk0 old text)).bs
theorem ext_ge {old text : ByteArray} {f a : Nat} : ∀ (g k : Nat), k ≤ extL old text f a g k ∧ (f + k ≤ old.size → f + extL old text f a g k ≤ old.size) ∧ (a + k ≤ text.size → a + extL old text f a g k ≤ text.size)
  | 0, k => ⟨Nat.le_refl _, fun h => h, fun h => h⟩
  | g + 1, k => by
    unfold extL
    split
    · rename_i h
      obtain ⟨h1, h2, h3⟩ := ext_ge (old := old) (text := text) (f := f) (a := a) g (k + 1)
      exact ⟨by omega, fun _ => h2 (by omega), fun _ => h3 (by omega)⟩
    · exact ⟨Nat.le_refl _, fun h => h, fun h => h⟩
theorem hpre_ok {s t : ByteArray} (h : hpre s t = true) : t.size ≤ s.size ∧ s.extract 0 t.size = t := by
  unfold hpre at h
  rw [Bool.and_eq_true] at h
  refine ⟨of_decide_eq_true h.1, ?_⟩
  by_cases c : s.extract 0 t.size = t
  · exact c
  · rw [seq_ne c] at h; exact absurd h.2 (by simp)
theorem luN_ok {old t : ByteArray} {i : Nat} (h : luN old t = some i) : i + 16 ≤ old.size ∧ old.extract i (i + 16) = t ∧ luS (plc old) t = some (.int .i64 (i : Int)) := by
  unfold luN at h
  cases hl : luS (plc old) t with
  | none => rw [hl] at h; cases h
  | some v =>
    obtain ⟨j, rfl, h2, h3⟩ := plc_ok hl
    rw [hl] at h
    have : j = i := by simpa using h
    subst this
    exact ⟨h2, h3, rfl⟩
theorem luN_none {old t : ByteArray} (h : luN old t = none) : luS (plc old) t = none := by
  unfold luN at h
  cases hl : luS (plc old) t with
  | none => rfl
  | some v =>
    obtain ⟨j, rfl, h2, h3⟩ := plc_ok hl
    rw [hl] at h
    cases h
theorem fn_bd {old text : ByteArray} {a : Nat} (ha : a ≤ text.size) : (fnP old text a).1 + (fnP old text a).2 ≤ old.size ∧ a + (fnP old text a).2 ≤ text.size := by
  unfold fnP
  split
  · rename_i h
    have := (hpre_ok h.2).1
    rw [ex_size] at this
    exact ⟨by show 0 + old.size ≤ _; omega, by show a + old.size ≤ _; omega⟩
  split
  · split
    · exact ⟨by show 0 + 0 ≤ _; omega, by show a + 0 ≤ _; omega⟩
    · rename_i i hi
      obtain ⟨h1, h2, h3⟩ := luN_ok hi
      obtain ⟨e1, e2, e3⟩ := ext_ge (old := old) (text := text) (f := i) (a := a) old.size 16
      exact ⟨e2 (by omega), e3 (by omega)⟩
  · exact ⟨by show 0 + 0 ≤ _; omega, by show a + 0 ≤ _; omega⟩
structure Mk.ok (text : ByteArray) (s : Mk) : Prop where
  a : s.at_ ≤ text.size
  r : s.rest.size ≤ s.at_
  b : s.bs.length + s.rest.size ≤ 72 + 20 * s.at_
theorem step_ok {old text : ByteArray} {s : Mk} (h : s.ok text) (hlt : s.at_ < text.size) : (mkStep old text s).ok text ∧ s.at_ < (mkStep old text s).at_ := by
  obtain ⟨h1, h2, h3⟩ := h
  obtain ⟨f1, f2⟩ := fn_bd (old := old) (Nat.le_of_lt hlt)
  unfold mkStep
  split
  · have e1 : (text.extract s.at_ (s.at_ + 1)).size = 1 := by rw [ex_size]; omega
    have e2 : (s.rest ++ text.extract s.at_ (s.at_ + 1)).size = s.rest.size + 1 := by rw [ByteArray.size_append, e1]
    exact ⟨⟨by show s.at_ + 1 ≤ _; omega, by show (s.rest ++ _).size ≤ s.at_ + 1; omega, by show s.bs.length + (s.rest ++ _).size ≤ 72 + 20 * (s.at_ + 1); omega⟩, by show s.at_ < s.at_ + 1; omega⟩
  · rename_i c
    generalize fnP old text s.at_ = fn at f1 f2 c
    have hn : 0 < fn.2 := by
      by_cases h0 : fn.2 = 0
      · exact absurd ⟨by omega, by omega⟩ c
      · omega
    refine ⟨⟨f2, by show (0 : Nat) ≤ _; omega, ?_⟩, by show s.at_ < s.at_ + fn.2; omega⟩
    show (addB s.rest s.bs ++ be 1 1 ++ be fn.1 4 ++ be fn.2 2).length + 0 ≤ 72 + 20 * (s.at_ + fn.2)
    have ha : (addB s.rest s.bs).length ≤ s.bs.length + s.rest.size + 3 := by
      unfold addB
      split
      · omega
      · simp only [List.length_append, be_len, bts_len]; omega
    simp only [List.length_append, be_len]
    omega
theorem mk_fuel {old text : ByteArray} (g : Nat) : ∀ {h : Nat} {s : Mk}, s.ok text → text.size - s.at_ ≤ g → text.size - s.at_ ≤ h → mkRun old text g s = mkRun old text h s := by
  have stop : ∀ (g : Nat) {s : Mk}, ¬s.at_ < text.size → mkRun old text g s = s := by
    intro g s h
    cases g with
    | zero => rfl
    | succ g => unfold mkRun; rw [if_neg h]
  induction g with
  | zero => intro h s hs h1 h2; rw [stop 0 (by omega), stop h (by omega)]
  | succ g ih =>
    intro h s hs h1 h2
    cases h with
    | zero => rw [stop 0 (by omega), stop _ (by omega)]
    | succ h =>
      by_cases c : s.at_ < text.size
      · obtain ⟨o1, o2⟩ := step_ok (old := old) hs c
        unfold mkRun
        rw [if_pos c, if_pos c]
        exact ih o1 (by omega) (by omega)
      · rw [stop _ c, stop _ c]
theorem fin_step {old text : ByteArray} {s : Mk} (hs : s.ok text) (c : s.at_ < text.size) : mkFin old text (mkStep old text s) = mkFin old text s := by
  obtain ⟨o1, o2⟩ := step_ok (old := old) hs c
  unfold mkFin
  cases hk : text.size - s.at_ with
  | zero => omega
  | succ k =>
    show _ = (if s.at_ < text.size then mkRun old text k (mkStep old text s) else s)
    rw [if_pos c]
    exact mk_fuel _ o1 (Nat.le_refl _) (by omega)
theorem fin_stop {old text : ByteArray} {s : Mk} (c : ¬s.at_ < text.size) : mkFin old text s = s := by
  unfold mkFin
  rw [show text.size - s.at_ = 0 by omega]
  rfl
theorem mk0_ok {old text : ByteArray} : (mk0 old text).ok text := by
  refine ⟨Nat.zero_le _, Nat.le_refl _, ?_⟩
  show (hdB old text).length + 0 ≤ 72 + 20 * 0
  unfold hdB
  simp only [List.length_append, be_len, bts_len, sha_size]
  omega
end
section
/- Delta: Make, walked. -/
set_option linter.unusedVariables false
set_option linter.unusedSimpArgs false
set_option maxRecDepth 100000
open Go.Proofs
variable {H : Hp} {n : Nat} {x : Nat → Option SO}
theorem hpreS {s t : ByteArray} : SpecAt Try.prog nHasPrefix [.v (.string s), .v (.string t)] H n (.v (.bool (hpre s t))) H n := okT.pure tHasPrefix (by
  unfold mHasPrefix
  simp -implicitDefEqProofs only [↓fnVC, initTm]
  simp -implicitDefEqProofs only [go_sem]
  refine in_call mixT tHasPrefix2 ?_
  unfold mHasPrefix2
  simp -implicitDefEqProofs only [↓fnVC, initTm]
  simp -implicitDefEqProofs only [go_sem]
  unfold hpre
  by_cases c : t.size ≤ s.size
  · have a : decide ((s.size : Int) ≥ t.size) = true := decide_eq_true (by omega)
    rw [decide_eq_true c, Bool.true_and]
    simp -implicitDefEqProofs only [go_sem, a]
    omega
  · have a : decide ((s.size : Int) ≥ t.size) = false := decide_eq_false (by omega)
    rw [decide_eq_false c, Bool.false_and]
    simp -implicitDefEqProofs only [go_sem, a])
theorem asM_so {wr : Bool} {es : List (Value × Value)} {K : List (Value × Value) → Prop} : asM (SO.b ⟨wr, .mp (.map es)⟩) K = K es := rfl
def mkF (old text : ByteArray) (a : Mk) (x : Nat → Option SO) : St := ⟨[(0, .v (.string old)), (1, .v (.string text)), (6, .ptr 1 0), (7, .mp 8), (10, .fn 25 [.ptr 9 0, .ptr 1 0]), (9, .ptr 9 0), (11, .v (.int .i64 a.at_))],
  ⟨[(1, some (wrO 7 a.bs.length false)), (7, some ⟨true, .ints .u8 a.bs⟩), (8, some ⟨true, .mp (.map (plc old))⟩), (9, some ⟨true, .sv [.v (.string a.rest)]⟩)], x⟩, 10⟩
set_option maxHeartbeats 1000000 in
theorem makeW {old text : ByteArray} (ho : old.size ≤ 8192) (ht : text.size ≤ 8192) : fnVC CT mDMake [.v (.string old), .v (.string text)] ⟨[], x⟩ 1 fun v H' n' => Sub 1 ⟨[(0, .tup [.v (.string (tx (mkB old text))), .v (.int .i64 0)])], ⟨[], x⟩, 1⟩ ⟨[(0, v)], H', n'⟩ := by
  unfold mDMake
  simp -implicitDefEqProofs only [↓fnVC, initTm]
  have a1 : decide ((old.size : Int) > 8192) = false := decide_eq_false (by omega)
  have a2 : decide ((text.size : Int) > 8192) = false := decide_eq_false (by omega)
  simp -implicitDefEqProofs only [go_sem, a1, a2]
  refine in_call mixT tWFour ?_
  unfold mWFour
  simp -implicitDefEqProofs only [↓fnVC, initTm]
  simp -implicitDefEqProofs only [go_sem]
  refine at_call tWNumber (wNum0S (i := 1) (k := 4) (y := old.size) (by rfl) (by decide) (by decide) (by decide) (by omega) (fun _ => by omega)) ?_
  simp -implicitDefEqProofs only [go_sem]
  refine at_call t9 (sum1S (s := old) (by rfl) (by omega)) ?_
  simp -implicitDefEqProofs only [go_sem]
  refine at_call tWHash (wHashS (i := 1) (r := 2) (bs := be old.size 4) (bad := false) (by rfl) (by rfl) (by decide) (by decide) (by decide) (by decide) (by rw [be_len]; decide) (by rw [sha_size]; decide)) ?_
  rw [sha_size]
  simp -implicitDefEqProofs only [go_sem]
  refine at_call tWFour (wFourS (i := 1) (r := 4) (y := text.size) (bs := be old.size 4 ++ bts (sha (bts old))) (by omega) (by rw [List.length_append, be_len, bts_len, sha_size]; decide) (by rfl) (by rfl) (by decide) (by decide) (by decide) (by decide)) ?_
  simp -implicitDefEqProofs only [go_sem]
  refine at_call t9 (sum1S (s := text) (by rfl) (by omega)) ?_
  simp -implicitDefEqProofs only [go_sem]
  refine at_call tWHash (wHashS (i := 1) (r := 5) (bs := be old.size 4 ++ bts (sha (bts old)) ++ be text.size 4) (bad := false) (by rfl) (by rfl) (by decide) (by decide) (by decide) (by decide) (by rw [List.length_append, List.length_append, be_len, bts_len, sha_size, be_len]; decide) (by rw [sha_size]; decide)) ?_
  rw [sha_size, show be old.size 4 ++ bts (sha (bts old)) ++ be text.size 4 ++ bts (sha (bts text)) = hdB old text from rfl]
  have w16 : IntKind.i64.wrap ((old.size : Int) - 16) = (old.size : Int) - 16 := wrap_i64 (by omega) (by omega)
  simp -implicitDefEqProofs only [go_sem, w16, Bool.or_self]
  refine loop_fam (fun (j : Nat) => j ≤ old.size - 15) (fun j => ⟨[(0, .v (.string old)), (1, .v (.string text)), (6, .ptr 1 0), (7, .mp 8), (8, .v (.int .i64 ((old.size : Int) - 16 - j)))], ⟨[(1, some (wrO 7 (hdB old text).length false)), (7, some ⟨true, .ints .u8 (hdB old text)⟩), (8, some ⟨true, .mp (.map (plcE old (old.size - 16) j))⟩)], x⟩, 9⟩) (fun j => old.size - 15 - j) 0 (Nat.zero_le _) ?_ ?_
  · refine sub_mk [] rfl rfl rfl ?_
    simp only [tmSub, hpSub, objSub, eqTm, eqHp, rn, lk, SV.ren, SV.renC, SV.renB, SV.renA, ren_ints, ren_strs, ren_pl, ren_svs, SV.v.injEq, Value.int.injEq, Body.ints.injEq, SV.ptr.injEq, SV.sl.injEq, Value.string.injEq, Value.bool.injEq, List.map_cons, List.map_nil, forall_const, Nat.reduceLT, Nat.lt_add_one, imp_self, true_and, and_true, and_self, ob_some, get_mk, lk_cons, ↓reduceIte, Nat.reduceEqDiff, ne_eq, not_true_eq_false, not_false_eq_true, Nat.one_ne_zero, Nat.zero_ne_one, Nat.succ_ne_self, Nat.reduceAdd, Bool.false_eq_true, false_implies, implies_true, reduceCtorEq]
    refine ⟨by omega, ?_⟩
    repeat' (first | rfl | apply And.intro)
  · intro j hj
    simp -implicitDefEqProofs only [go_sem]
    refine condK_bb (fun c => ?_) (fun c => ?_)
    · have c1 : j + 16 ≤ old.size := by have := of_decide_eq_true c; omega
      have e1 : (old.size : Int) - 16 - j = ((old.size - 16 - j : Nat) : Int) := by omega
      rw [e1] at c ⊢
      have w1 : IntKind.i64.wrap (((old.size - 16 - j : Nat) : Int) + 16) = ((old.size - 16 - j + 16 : Nat) : Int) := by rw [wrap_i64 (by omega) (by omega)]; omega
      have w2 : IntKind.i64.wrap (((old.size - 16 - j : Nat) : Int) - 1) = (old.size : Int) - 16 - ((j + 1 : Nat) : Int) := by rw [wrap_i64 (by omega) (by omega)]; omega
      have k1 : keysS (plcE old (old.size - 16) j) = true := plc_keys _ _ _
      simp -implicitDefEqProofs only [go_sem, c, w1, k1]
      refine ⟨by omega, ?_⟩
      simp -implicitDefEqProofs only [go_sem, w2, asM_so, k1]
      refine kLoop_mk (j + 1) (by omega) (by omega) ?_
      refine sub_mk [] rfl rfl rfl ?_
      simp only [tmSub, hpSub, objSub, eqTm, eqHp, rn, lk, SV.ren, SV.renC, SV.renB, SV.renA, ren_ints, ren_strs, ren_pl, ren_svs, SV.v.injEq, Value.int.injEq, Body.ints.injEq, SV.ptr.injEq, SV.sl.injEq, Value.string.injEq, Value.bool.injEq, List.map_cons, List.map_nil, forall_const, Nat.reduceLT, Nat.lt_add_one, imp_self, true_and, and_true, and_self, ob_some, get_mk, lk_cons, ↓reduceIte, Nat.reduceEqDiff, ne_eq, not_true_eq_false, not_false_eq_true, Nat.one_ne_zero, Nat.zero_ne_one, Nat.succ_ne_self, Nat.reduceAdd, Bool.false_eq_true, false_implies, implies_true, reduceCtorEq]
      repeat' (first | rfl | apply And.intro)
    · have c1 : ¬j + 16 ≤ old.size := by have := of_decide_eq_false c; omega
      have ej : j = old.size - 15 := by omega
      subst ej
      rw [show plcE old (old.size - 16) (old.size - 15) = plc old from rfl]
      simp -implicitDefEqProofs only [go_sem, c]
      refine loop_fam (fun a : Mk => a.ok text ∧ mkFin old text a = mkFin old text (mk0 old text)) (fun a => mkF old text a x) (fun a => text.size - a.at_) (mk0 old text) ⟨mk0_ok, rfl⟩ ?_ ?_
      · unfold mkF wrO
        refine sub_mk [] rfl rfl rfl ?_
        simp only [tmSub, hpSub, objSub, eqTm, eqHp, rn, lk, SV.ren, SV.renC, SV.renB, SV.renA, ren_ints, ren_strs, ren_pl, ren_svs, SV.v.injEq, Value.int.injEq, Body.ints.injEq, SV.ptr.injEq, SV.sl.injEq, Value.string.injEq, Value.bool.injEq, List.map_cons, List.map_nil, forall_const, Nat.reduceLT, Nat.lt_add_one, imp_self, true_and, and_true, and_self, ob_some, get_mk, lk_cons, ↓reduceIte, Nat.reduceEqDiff, ne_eq, not_true_eq_false, not_false_eq_true, Nat.one_ne_zero, Nat.zero_ne_one, Nat.succ_ne_self, Nat.reduceAdd, Bool.false_eq_true, false_implies, implies_true, reduceCtorEq]
        repeat' (first | rfl | apply And.intro)
      · rintro a ⟨hok, hQ⟩
        have k1 : keysS (plc old) = true := plc_keys _ _ _
        unfold mkF
        simp -implicitDefEqProofs only [go_sem]
        refine condK_bb (fun c => ?_) (fun c => ?_)
        · have c1 : a.at_ < text.size := by have := of_decide_eq_true c; omega
          simp -implicitDefEqProofs only [go_sem, c]
          have hbs := hok.b
          have hra := hok.r
          by_cases c2 : ¬old.size = 0 ∧ hpre (text.extract a.at_ text.size) old = true
          · have hfn : fnP old text a.at_ = (0, old.size) := if_pos c2
            obtain ⟨f1, f2⟩ := fn_bd (old := old) (Nat.le_of_lt c1)
            rw [hfn] at f1 f2
            have a3 : seq old ⟨#[]⟩ = false := seq_nemp c2.1
            have a4 := c2.2
            simp -implicitDefEqProofs only [go_sem, a3]
            refine ⟨by omega, ?_⟩
            refine at_call tHasPrefix hpreS ?_
            rw [a4]
            simp -implicitDefEqProofs only [go_sem, a3]
            by_cases hk : old.size < 10 ∧ old.size ≠ text.size
            · have hk1 := hk.1
              have hk2 := hk.2
              have b1 : decide ((old.size : Int) < 10) = true := decide_eq_true (by omega)
              have b2 : decide ((old.size : Int) = text.size) = false := decide_eq_false (by omega)
              have e1 : mkStep old text a = ⟨a.at_ + 1, a.rest ++ text.extract a.at_ (a.at_ + 1), a.bs⟩ := by unfold mkStep; rw [hfn]; exact if_pos ⟨hk1, hk2⟩
              have w5 : IntKind.i64.wrap ((a.at_ : Int) + 1) = ((a.at_ + 1 : Nat) : Int) := by rw [wrap_i64 (by omega) (by omega)]; omega
              simp -implicitDefEqProofs only [go_sem, b1, b2, w5]
              refine ⟨⟨by omega, by omega⟩, by rw [ex_size]; omega, ?_⟩
              have hstep := step_ok (old := old) hok c1
              have ha := hstep.1.a
              refine kLoop_mk (mkStep old text a) ⟨hstep.1, (fin_step hok c1).trans hQ⟩ (by omega) ?_
              rw [e1]
              unfold wrO
              refine sub_mk [] rfl rfl rfl ?_
              simp only [tmSub, hpSub, objSub, eqTm, eqHp, rn, lk, SV.ren, SV.renC, SV.renB, SV.renA, ren_ints, ren_strs, ren_pl, ren_svs, SV.v.injEq, Value.int.injEq, Body.ints.injEq, SV.ptr.injEq, SV.sl.injEq, Value.string.injEq, Value.bool.injEq, List.map_cons, List.map_nil, forall_const, Nat.reduceLT, Nat.lt_add_one, imp_self, true_and, and_true, and_self, ob_some, get_mk, lk_cons, ↓reduceIte, Nat.reduceEqDiff, ne_eq, not_true_eq_false, not_false_eq_true, Nat.one_ne_zero, Nat.zero_ne_one, Nat.succ_ne_self, Nat.reduceAdd, Bool.false_eq_true, false_implies, implies_true, reduceCtorEq]
              repeat' (first | rfl | apply And.intro)
            · by_cases hk1 : old.size < 10
              · have hk2 : old.size = text.size := by by_cases h : old.size = text.size; exact h; exact absurd ⟨hk1, h⟩ hk
                have b1 : decide ((old.size : Int) < 10) = true := decide_eq_true (by omega)
                have b2 : decide ((old.size : Int) = text.size) = true := decide_eq_true (by omega)
                have e1 : mkStep old text a = ⟨a.at_ + old.size, ⟨#[]⟩, addB a.rest a.bs ++ be 1 1 ++ be 0 4 ++ be old.size 2⟩ := by unfold mkStep; rw [hfn]; exact if_neg (fun h => hk h)
                have w5 : IntKind.i64.wrap ((a.at_ : Int) + (old.size : Int)) = ((a.at_ + old.size : Nat) : Int) := by rw [wrap_i64 (by omega) (by omega)]; omega
                have hstep := step_ok (old := old) hok c1
                have ha := hstep.1.a
                simp -implicitDefEqProofs only [go_sem, b1, b2]
                refine in_call mixT tDMake1 ?_
                unfold mDMake1
                simp -implicitDefEqProofs only [↓fnVC, initTm]
                simp -implicitDefEqProofs only [go_sem]
                by_cases hr0 : a.rest.size = 0
                · have ar : seq a.rest ⟨#[]⟩ = true := seq_emp hr0
                  simp -implicitDefEqProofs only [go_sem, ar]
                  refine at_call tWByte (wByteS (i := 1) (r := 7) (y := 1) (bs := a.bs) (by decide) (by omega) (by rfl) (by rfl) (by decide) (by decide) (by decide) (by decide)) ?_
                  simp -implicitDefEqProofs only [go_sem]
                  refine at_call tWFour (wFourS (i := 1) (r := 10) (y := 0) (bs := a.bs ++ be 1 1) (by omega) (by rw [List.length_append, be_len]; omega) (by rfl) (by rfl) (by decide) (by decide) (by decide) (by decide)) ?_
                  simp -implicitDefEqProofs only [go_sem]
                  refine at_call tWTwo (wTwoS (i := 1) (r := 11) (y := old.size) (bs := a.bs ++ be 1 1 ++ be 0 4) (by omega) (by rw [List.length_append, List.length_append, be_len, be_len]; omega) (by rfl) (by rfl) (by decide) (by decide) (by decide) (by decide)) ?_
                  simp -implicitDefEqProofs only [go_sem, w5]
                  refine kLoop_mk (mkStep old text a) ⟨hstep.1, (fin_step hok c1).trans hQ⟩ (by omega) ?_
                  rw [e1, show addB a.rest a.bs = a.bs from if_pos hr0]
                  unfold wrO
                  refine sub_mk [(7, 12)] rfl rfl rfl ?_
                  simp only [tmSub, hpSub, objSub, eqTm, eqHp, rn, lk, SV.ren, SV.renC, SV.renB, SV.renA, ren_ints, ren_strs, ren_pl, ren_svs, SV.v.injEq, Value.int.injEq, Body.ints.injEq, SV.ptr.injEq, SV.sl.injEq, Value.string.injEq, Value.bool.injEq, List.map_cons, List.map_nil, forall_const, Nat.reduceLT, Nat.lt_add_one, imp_self, true_and, and_true, and_self, ob_some, get_mk, lk_cons, ↓reduceIte, Nat.reduceEqDiff, ne_eq, not_true_eq_false, not_false_eq_true, Nat.one_ne_zero, Nat.zero_ne_one, Nat.succ_ne_self, Nat.reduceAdd, Bool.false_eq_true, false_implies, implies_true, reduceCtorEq]
                  rw [ba_zero hr0]
                  repeat' (first | rfl | apply And.intro)
                have ar : seq a.rest ⟨#[]⟩ = false := seq_nemp hr0
                simp -implicitDefEqProofs only [go_sem, ar]
                refine at_call tWByte (wByteS (i := 1) (r := 7) (y := 2) (bs := a.bs) (by decide) (by omega) (by rfl) (by rfl) (by decide) (by decide) (by decide) (by decide)) ?_
                simp -implicitDefEqProofs only [go_sem]
                refine at_call tWText (wTextS (i := 1) (r := 10) (s := a.rest) (bs := a.bs ++ be 2 1) (by omega) (by rw [List.length_append, be_len]; omega) (by rfl) (by rfl) (by decide) (by decide) (by decide) (by decide)) ?_
                have hab : addB a.rest a.bs = a.bs ++ be 2 1 ++ (be a.rest.size 2 ++ bts a.rest) := if_neg hr0
                have hal : (addB a.rest a.bs).length ≤ a.bs.length + a.rest.size + 3 := by rw [hab]; simp only [List.length_append, be_len, bts_len]; omega
                have hfin := (fin_step hok c1).trans hQ
                rw [e1] at hfin hstep
                rw [← hab]
                clear hab e1
                generalize addB a.rest a.bs = ab at hal hstep hfin ⊢
                simp -implicitDefEqProofs only [go_sem]
                refine at_call tWByte (wByteS (i := 1) (r := 11) (y := 1) (bs := ab) (by decide) (by omega) (by rfl) (by rfl) (by decide) (by decide) (by decide) (by decide)) ?_
                simp -implicitDefEqProofs only [go_sem]
                refine at_call tWFour (wFourS (i := 1) (r := 12) (y := 0) (bs := ab ++ be 1 1) (by omega) (by rw [List.length_append, be_len]; omega) (by rfl) (by rfl) (by decide) (by decide) (by decide) (by decide)) ?_
                simp -implicitDefEqProofs only [go_sem]
                refine at_call tWTwo (wTwoS (i := 1) (r := 13) (y := old.size) (bs := ab ++ be 1 1 ++ be 0 4) (by omega) (by rw [List.length_append, List.length_append, be_len, be_len]; omega) (by rfl) (by rfl) (by decide) (by decide) (by decide) (by decide)) ?_
                simp -implicitDefEqProofs only [go_sem, w5]
                refine kLoop_mk ⟨a.at_ + old.size, ⟨#[]⟩, ab ++ be 1 1 ++ be 0 4 ++ be old.size 2⟩ ⟨hstep.1, hfin⟩ (by show text.size - (a.at_ + old.size) < _; omega) ?_
                unfold wrO
                refine sub_mk [(7, 14)] rfl rfl rfl ?_
                simp only [tmSub, hpSub, objSub, eqTm, eqHp, rn, lk, SV.ren, SV.renC, SV.renB, SV.renA, ren_ints, ren_strs, ren_pl, ren_svs, SV.v.injEq, Value.int.injEq, Body.ints.injEq, SV.ptr.injEq, SV.sl.injEq, Value.string.injEq, Value.bool.injEq, List.map_cons, List.map_nil, forall_const, Nat.reduceLT, Nat.lt_add_one, imp_self, true_and, and_true, and_self, ob_some, get_mk, lk_cons, ↓reduceIte, Nat.reduceEqDiff, ne_eq, not_true_eq_false, not_false_eq_true, Nat.one_ne_zero, Nat.zero_ne_one, Nat.succ_ne_self, Nat.reduceAdd, Bool.false_eq_true, false_implies, implies_true, reduceCtorEq]
                repeat' (first | rfl | apply And.intro)
              · have b1 : decide ((old.size : Int) < 10) = false := decide_eq_false (by omega)
                have e1 : mkStep old text a = ⟨a.at_ + old.size, ⟨#[]⟩, addB a.rest a.bs ++ be 1 1 ++ be 0 4 ++ be old.size 2⟩ := by unfold mkStep; rw [hfn]; exact if_neg (fun h => hk h)
                have w5 : IntKind.i64.wrap ((a.at_ : Int) + (old.size : Int)) = ((a.at_ + old.size : Nat) : Int) := by rw [wrap_i64 (by omega) (by omega)]; omega
                have hstep := step_ok (old := old) hok c1
                have ha := hstep.1.a
                simp -implicitDefEqProofs only [go_sem, b1]
                refine in_call mixT tDMake1 ?_
                unfold mDMake1
                simp -implicitDefEqProofs only [↓fnVC, initTm]
                simp -implicitDefEqProofs only [go_sem]
                by_cases hr0 : a.rest.size = 0
                · have ar : seq a.rest ⟨#[]⟩ = true := seq_emp hr0
                  simp -implicitDefEqProofs only [go_sem, ar]
                  refine at_call tWByte (wByteS (i := 1) (r := 7) (y := 1) (bs := a.bs) (by decide) (by omega) (by rfl) (by rfl) (by decide) (by decide) (by decide) (by decide)) ?_
                  simp -implicitDefEqProofs only [go_sem]
                  refine at_call tWFour (wFourS (i := 1) (r := 10) (y := 0) (bs := a.bs ++ be 1 1) (by omega) (by rw [List.length_append, be_len]; omega) (by rfl) (by rfl) (by decide) (by decide) (by decide) (by decide)) ?_
                  simp -implicitDefEqProofs only [go_sem]
                  refine at_call tWTwo (wTwoS (i := 1) (r := 11) (y := old.size) (bs := a.bs ++ be 1 1 ++ be 0 4) (by omega) (by rw [List.length_append, List.length_append, be_len, be_len]; omega) (by rfl) (by rfl) (by decide) (by decide) (by decide) (by decide)) ?_
                  simp -implicitDefEqProofs only [go_sem, w5]
                  refine kLoop_mk (mkStep old text a) ⟨hstep.1, (fin_step hok c1).trans hQ⟩ (by omega) ?_
                  rw [e1, show addB a.rest a.bs = a.bs from if_pos hr0]
                  unfold wrO
                  refine sub_mk [(7, 12)] rfl rfl rfl ?_
                  simp only [tmSub, hpSub, objSub, eqTm, eqHp, rn, lk, SV.ren, SV.renC, SV.renB, SV.renA, ren_ints, ren_strs, ren_pl, ren_svs, SV.v.injEq, Value.int.injEq, Body.ints.injEq, SV.ptr.injEq, SV.sl.injEq, Value.string.injEq, Value.bool.injEq, List.map_cons, List.map_nil, forall_const, Nat.reduceLT, Nat.lt_add_one, imp_self, true_and, and_true, and_self, ob_some, get_mk, lk_cons, ↓reduceIte, Nat.reduceEqDiff, ne_eq, not_true_eq_false, not_false_eq_true, Nat.one_ne_zero, Nat.zero_ne_one, Nat.succ_ne_self, Nat.reduceAdd, Bool.false_eq_true, false_implies, implies_true, reduceCtorEq]
                  rw [ba_zero hr0]
                  repeat' (first | rfl | apply And.intro)
                have ar : seq a.rest ⟨#[]⟩ = false := seq_nemp hr0
                simp -implicitDefEqProofs only [go_sem, ar]
                refine at_call tWByte (wByteS (i := 1) (r := 7) (y := 2) (bs := a.bs) (by decide) (by omega) (by rfl) (by rfl) (by decide) (by decide) (by decide) (by decide)) ?_
                simp -implicitDefEqProofs only [go_sem]
                refine at_call tWText (wTextS (i := 1) (r := 10) (s := a.rest) (bs := a.bs ++ be 2 1) (by omega) (by rw [List.length_append, be_len]; omega) (by rfl) (by rfl) (by decide) (by decide) (by decide) (by decide)) ?_
                have hab : addB a.rest a.bs = a.bs ++ be 2 1 ++ (be a.rest.size 2 ++ bts a.rest) := if_neg hr0
                have hal : (addB a.rest a.bs).length ≤ a.bs.length + a.rest.size + 3 := by rw [hab]; simp only [List.length_append, be_len, bts_len]; omega
                have hfin := (fin_step hok c1).trans hQ
                rw [e1] at hfin hstep
                rw [← hab]
                clear hab e1
                generalize addB a.rest a.bs = ab at hal hstep hfin ⊢
                simp -implicitDefEqProofs only [go_sem]
                refine at_call tWByte (wByteS (i := 1) (r := 11) (y := 1) (bs := ab) (by decide) (by omega) (by rfl) (by rfl) (by decide) (by decide) (by decide) (by decide)) ?_
                simp -implicitDefEqProofs only [go_sem]
                refine at_call tWFour (wFourS (i := 1) (r := 12) (y := 0) (bs := ab ++ be 1 1) (by omega) (by rw [List.length_append, be_len]; omega) (by rfl) (by rfl) (by decide) (by decide) (by decide) (by decide)) ?_
                simp -implicitDefEqProofs only [go_sem]
                refine at_call tWTwo (wTwoS (i := 1) (r := 13) (y := old.size) (bs := ab ++ be 1 1 ++ be 0 4) (by omega) (by rw [List.length_append, List.length_append, be_len, be_len]; omega) (by rfl) (by rfl) (by decide) (by decide) (by decide) (by decide)) ?_
                simp -implicitDefEqProofs only [go_sem, w5]
                refine kLoop_mk ⟨a.at_ + old.size, ⟨#[]⟩, ab ++ be 1 1 ++ be 0 4 ++ be old.size 2⟩ ⟨hstep.1, hfin⟩ (by show text.size - (a.at_ + old.size) < _; omega) ?_
                unfold wrO
                refine sub_mk [(7, 14)] rfl rfl rfl ?_
                simp only [tmSub, hpSub, objSub, eqTm, eqHp, rn, lk, SV.ren, SV.renC, SV.renB, SV.renA, ren_ints, ren_strs, ren_pl, ren_svs, SV.v.injEq, Value.int.injEq, Body.ints.injEq, SV.ptr.injEq, SV.sl.injEq, Value.string.injEq, Value.bool.injEq, List.map_cons, List.map_nil, forall_const, Nat.reduceLT, Nat.lt_add_one, imp_self, true_and, and_true, and_self, ob_some, get_mk, lk_cons, ↓reduceIte, Nat.reduceEqDiff, ne_eq, not_true_eq_false, not_false_eq_true, Nat.one_ne_zero, Nat.zero_ne_one, Nat.succ_ne_self, Nat.reduceAdd, Bool.false_eq_true, false_implies, implies_true, reduceCtorEq]
                repeat' (first | rfl | apply And.intro)
          have hfn0 : fnP old text a.at_ = if a.at_ + 16 ≤ text.size then match luN old (text.extract a.at_ (a.at_ + 16)) with
              | none => (0, 0)
              | some i => (i, extL old text i a.at_ old.size 16)
            else (0, 0) := if_neg c2
          have w6 : IntKind.i64.wrap ((a.at_ : Int) + 16) = ((a.at_ + 16 : Nat) : Int) := by rw [wrap_i64 (by omega) (by omega)]; omega
          by_cases c3 : old.size = 0
          · have a3 : seq old ⟨#[]⟩ = true := seq_emp c3
            simp -implicitDefEqProofs only [go_sem, a3, w6]
            by_cases c4 : a.at_ + 16 ≤ text.size
            · have a5 : decide (((a.at_ + 16 : Nat) : Int) ≤ text.size) = true := decide_eq_true (by omega)
              rw [if_pos c4] at hfn0
              simp -implicitDefEqProofs only [go_sem, a5, w6]
              refine ⟨by omega, ?_⟩
              simp -implicitDefEqProofs only [go_sem, asM_so, k1]
              cases hl : luN old (text.extract a.at_ (a.at_ + 16)) with
              | none =>
                have hfn : fnP old text a.at_ = (0, 0) := by rw [hfn0, hl]
                rw [luN_none hl]
                have hk1 : (0 : Nat) < 10 := by decide
                have hk2 : (0 : Nat) ≠ text.size := by omega
                have b1 : decide ((0 : Int) < 10) = true := rfl
                have b2 : decide ((0 : Int) = text.size) = false := decide_eq_false (by omega)
                simp -implicitDefEqProofs only [go_sem, luV_ok, Option.getD_none, Option.isSome_none, elemSV]
                have e1 : mkStep old text a = ⟨a.at_ + 1, a.rest ++ text.extract a.at_ (a.at_ + 1), a.bs⟩ := by unfold mkStep; rw [hfn]; exact if_pos ⟨hk1, hk2⟩
                have w5 : IntKind.i64.wrap ((a.at_ : Int) + 1) = ((a.at_ + 1 : Nat) : Int) := by rw [wrap_i64 (by omega) (by omega)]; omega
                simp -implicitDefEqProofs only [go_sem, b1, b2, w5]
                refine ⟨⟨by omega, by omega⟩, by rw [ex_size]; omega, ?_⟩
                have hstep := step_ok (old := old) hok c1
                have ha := hstep.1.a
                refine kLoop_mk (mkStep old text a) ⟨hstep.1, (fin_step hok c1).trans hQ⟩ (by omega) ?_
                rw [e1]
                unfold wrO
                refine sub_mk [] rfl rfl rfl ?_
                simp only [tmSub, hpSub, objSub, eqTm, eqHp, rn, lk, SV.ren, SV.renC, SV.renB, SV.renA, ren_ints, ren_strs, ren_pl, ren_svs, SV.v.injEq, Value.int.injEq, Body.ints.injEq, SV.ptr.injEq, SV.sl.injEq, Value.string.injEq, Value.bool.injEq, List.map_cons, List.map_nil, forall_const, Nat.reduceLT, Nat.lt_add_one, imp_self, true_and, and_true, and_self, ob_some, get_mk, lk_cons, ↓reduceIte, Nat.reduceEqDiff, ne_eq, not_true_eq_false, not_false_eq_true, Nat.one_ne_zero, Nat.zero_ne_one, Nat.succ_ne_self, Nat.reduceAdd, Bool.false_eq_true, false_implies, implies_true, reduceCtorEq]
                repeat' (first | rfl | apply And.intro)
              | some i =>
                obtain ⟨l1, l2, l3⟩ := luN_ok hl
                have hfn : fnP old text a.at_ = (i, extL old text i a.at_ old.size 16) := by rw [hfn0, hl]
                rw [l3]
                simp -implicitDefEqProofs only [go_sem, luV_ok, Option.getD_some, Option.isSome_some, elemSV]
                have haa := hok.a
                refine loop_fam (fun (k : Nat) => 16 ≤ k ∧ i + k ≤ old.size ∧ a.at_ + k ≤ text.size ∧ ∃ g, old.size ≤ g + k ∧ extL old text i a.at_ g k = extL old text i a.at_ old.size 16)
                  (fun k => ⟨[(0, .v (.string old)), (1, .v (.string text)), (6, .ptr 1 0), (7, .mp 8), (10, .fn 25 [.ptr 9 0, .ptr 1 0]), (9, .ptr 9 0), (11, .v (.int .i64 a.at_)), (12, .v (.int .i64 i)), (13, .v (.int .i64 k))],
                  ⟨[(1, some (wrO 7 a.bs.length false)), (7, some ⟨true, .ints .u8 a.bs⟩), (8, some ⟨true, .mp (.map (plc old))⟩), (9, some ⟨true, .sv [.v (.string a.rest)]⟩)], x⟩, 10⟩) (fun k => old.size - k) 16 ⟨Nat.le_refl _, l1, c4, old.size, by omega, rfl⟩ ?_ ?_
                · unfold wrO
                  refine sub_mk [] rfl rfl rfl ?_
                  simp only [tmSub, hpSub, objSub, eqTm, eqHp, rn, lk, SV.ren, SV.renC, SV.renB, SV.renA, ren_ints, ren_strs, ren_pl, ren_svs, SV.v.injEq, Value.int.injEq, Body.ints.injEq, SV.ptr.injEq, SV.sl.injEq, Value.string.injEq, Value.bool.injEq, List.map_cons, List.map_nil, forall_const, Nat.reduceLT, Nat.lt_add_one, imp_self, true_and, and_true, and_self, ob_some, get_mk, lk_cons, ↓reduceIte, Nat.reduceEqDiff, ne_eq, not_true_eq_false, not_false_eq_true, Nat.one_ne_zero, Nat.zero_ne_one, Nat.succ_ne_self, Nat.reduceAdd, Bool.false_eq_true, false_implies, implies_true, reduceCtorEq]
                  repeat' (first | rfl | apply And.intro)
                · rintro k ⟨k16, ki, ka, g, hg, he⟩
                  have v1 : IntKind.i64.wrap ((i : Int) + (k : Int)) = ((i + k : Nat) : Int) := by rw [wrap_i64 (by omega) (by omega)]; omega
                  have v2 : IntKind.i64.wrap ((a.at_ : Int) + (k : Int)) = ((a.at_ + k : Nat) : Int) := by rw [wrap_i64 (by omega) (by omega)]; omega
                  have v3 : IntKind.i64.wrap ((k : Int) + 1) = ((k + 1 : Nat) : Int) := by rw [wrap_i64 (by omega) (by omega)]; omega
                  unfold wrO
                  simp -implicitDefEqProofs only [go_sem, v1]
                  by_cases d1 : i + k < old.size
                  · have b1 : decide (((i + k : Nat) : Int) < old.size) = true := decide_eq_true (by omega)
                    simp -implicitDefEqProofs only [go_sem, v1, b1, v2]
                    by_cases d2 : a.at_ + k < text.size
                    · have b2 : decide (((a.at_ + k : Nat) : Int) < text.size) = true := decide_eq_true (by omega)
                      simp -implicitDefEqProofs only [go_sem, v1, b1, v2, b2]
                      refine ⟨⟨by omega, by omega⟩, ⟨by omega, by omega⟩, ?_⟩
                      by_cases d3 : (bts old).getD (i + k) 0 = (bts text).getD (a.at_ + k) 0
                      · have b3 : decide ((bts old).getD (i + k) 0 = (bts text).getD (a.at_ + k) 0) = true := decide_eq_true d3
                        simp -implicitDefEqProofs only [go_sem, v1, b1, v2, b2, b3, v3]
                        refine kLoop_mk (k + 1) ⟨by omega, by omega, by omega, ?_⟩ (by omega) ?_
                        · cases g with
                          | zero => omega
                          | succ g =>
                            refine ⟨g, by omega, ?_⟩
                            rw [← he]
                            show _ = (if i + k < old.size ∧ a.at_ + k < text.size ∧ (bts old).getD (i + k) 0 = (bts text).getD (a.at_ + k) 0 then extL old text i a.at_ g (k + 1) else k)
                            rw [if_pos ⟨d1, d2, d3⟩]
                        · refine sub_mk [] rfl rfl rfl ?_
                          simp only [tmSub, hpSub, objSub, eqTm, eqHp, rn, lk, SV.ren, SV.renC, SV.renB, SV.renA, ren_ints, ren_strs, ren_pl, ren_svs, SV.v.injEq, Value.int.injEq, Body.ints.injEq, SV.ptr.injEq, SV.sl.injEq, Value.string.injEq, Value.bool.injEq, List.map_cons, List.map_nil, forall_const, Nat.reduceLT, Nat.lt_add_one, imp_self, true_and, and_true, and_self, ob_some, get_mk, lk_cons, ↓reduceIte, Nat.reduceEqDiff, ne_eq, not_true_eq_false, not_false_eq_true, Nat.one_ne_zero, Nat.zero_ne_one, Nat.succ_ne_self, Nat.reduceAdd, Bool.false_eq_true, false_implies, implies_true, reduceCtorEq, wrO]
                          repeat' (first | rfl | apply And.intro)
                      · have b3 : decide ((bts old).getD (i + k) 0 = (bts text).getD (a.at_ + k) 0) = false := decide_eq_false d3
                        have hd : ¬(i + k < old.size ∧ a.at_ + k < text.size ∧ (bts old).getD (i + k) 0 = (bts text).getD (a.at_ + k) 0) := fun h => d3 h.2.2
                        simp -implicitDefEqProofs only [go_sem, v1, b1, v2, b2, b3]
                        have hek : extL old text i a.at_ g k = k := by
                          cases g with
                          | zero => rfl
                          | succ g => exact if_neg hd
                        rw [he] at hek
                        rw [hek] at hfn
                        have hk : ¬(k < 10 ∧ k ≠ text.size) := fun h => by omega
                        have b9 : decide ((k : Int) < 10) = false := decide_eq_false (by omega)

                        have e1 : mkStep old text a = ⟨a.at_ + k, ⟨#[]⟩, addB a.rest a.bs ++ be 1 1 ++ be i 4 ++ be k 2⟩ := by unfold mkStep; rw [hfn]; exact if_neg (fun h => hk h)
                        have w5 : IntKind.i64.wrap ((a.at_ : Int) + (k : Int)) = ((a.at_ + k : Nat) : Int) := by rw [wrap_i64 (by omega) (by omega)]; omega
                        have hstep := step_ok (old := old) hok c1
                        have ha := hstep.1.a
                        simp -implicitDefEqProofs only [go_sem, b9]
                        refine in_call mixT tDMake1 ?_
                        unfold mDMake1
                        simp -implicitDefEqProofs only [↓fnVC, initTm]
                        simp -implicitDefEqProofs only [go_sem]
                        by_cases hr0 : a.rest.size = 0
                        · have ar : seq a.rest ⟨#[]⟩ = true := seq_emp hr0
                          simp -implicitDefEqProofs only [go_sem, ar]
                          refine at_call tWByte (wByteS (i := 1) (r := 7) (y := 1) (bs := a.bs) (by decide) (by omega) (by rfl) (by rfl) (by decide) (by decide) (by decide) (by decide)) ?_
                          simp -implicitDefEqProofs only [go_sem]
                          refine at_call tWFour (wFourS (i := 1) (r := 10) (y := i) (bs := a.bs ++ be 1 1) (by omega) (by rw [List.length_append, be_len]; omega) (by rfl) (by rfl) (by decide) (by decide) (by decide) (by decide)) ?_
                          simp -implicitDefEqProofs only [go_sem]
                          refine at_call tWTwo (wTwoS (i := 1) (r := 11) (y := k) (bs := a.bs ++ be 1 1 ++ be i 4) (by omega) (by rw [List.length_append, List.length_append, be_len, be_len]; omega) (by rfl) (by rfl) (by decide) (by decide) (by decide) (by decide)) ?_
                          simp -implicitDefEqProofs only [go_sem, w5]
                          refine kLoop_mk (mkStep old text a) ⟨hstep.1, (fin_step hok c1).trans hQ⟩ (by omega) ?_
                          rw [e1, show addB a.rest a.bs = a.bs from if_pos hr0]
                          unfold wrO
                          refine sub_mk [(7, 12)] rfl rfl rfl ?_
                          simp only [tmSub, hpSub, objSub, eqTm, eqHp, rn, lk, SV.ren, SV.renC, SV.renB, SV.renA, ren_ints, ren_strs, ren_pl, ren_svs, SV.v.injEq, Value.int.injEq, Body.ints.injEq, SV.ptr.injEq, SV.sl.injEq, Value.string.injEq, Value.bool.injEq, List.map_cons, List.map_nil, forall_const, Nat.reduceLT, Nat.lt_add_one, imp_self, true_and, and_true, and_self, ob_some, get_mk, lk_cons, ↓reduceIte, Nat.reduceEqDiff, ne_eq, not_true_eq_false, not_false_eq_true, Nat.one_ne_zero, Nat.zero_ne_one, Nat.succ_ne_self, Nat.reduceAdd, Bool.false_eq_true, false_implies, implies_true, reduceCtorEq]
                          rw [ba_zero hr0]
                          repeat' (first | rfl | apply And.intro)
                        have ar : seq a.rest ⟨#[]⟩ = false := seq_nemp hr0
                        simp -implicitDefEqProofs only [go_sem, ar]
                        refine at_call tWByte (wByteS (i := 1) (r := 7) (y := 2) (bs := a.bs) (by decide) (by omega) (by rfl) (by rfl) (by decide) (by decide) (by decide) (by decide)) ?_
                        simp -implicitDefEqProofs only [go_sem]
                        refine at_call tWText (wTextS (i := 1) (r := 10) (s := a.rest) (bs := a.bs ++ be 2 1) (by omega) (by rw [List.length_append, be_len]; omega) (by rfl) (by rfl) (by decide) (by decide) (by decide) (by decide)) ?_
                        have hab : addB a.rest a.bs = a.bs ++ be 2 1 ++ (be a.rest.size 2 ++ bts a.rest) := if_neg hr0
                        have hal : (addB a.rest a.bs).length ≤ a.bs.length + a.rest.size + 3 := by rw [hab]; simp only [List.length_append, be_len, bts_len]; omega
                        have hfin := (fin_step hok c1).trans hQ
                        rw [e1] at hfin hstep
                        rw [← hab]
                        clear hab e1
                        generalize addB a.rest a.bs = ab at hal hstep hfin ⊢
                        simp -implicitDefEqProofs only [go_sem]
                        refine at_call tWByte (wByteS (i := 1) (r := 11) (y := 1) (bs := ab) (by decide) (by omega) (by rfl) (by rfl) (by decide) (by decide) (by decide) (by decide)) ?_
                        simp -implicitDefEqProofs only [go_sem]
                        refine at_call tWFour (wFourS (i := 1) (r := 12) (y := i) (bs := ab ++ be 1 1) (by omega) (by rw [List.length_append, be_len]; omega) (by rfl) (by rfl) (by decide) (by decide) (by decide) (by decide)) ?_
                        simp -implicitDefEqProofs only [go_sem]
                        refine at_call tWTwo (wTwoS (i := 1) (r := 13) (y := k) (bs := ab ++ be 1 1 ++ be i 4) (by omega) (by rw [List.length_append, List.length_append, be_len, be_len]; omega) (by rfl) (by rfl) (by decide) (by decide) (by decide) (by decide)) ?_
                        simp -implicitDefEqProofs only [go_sem, w5]
                        refine kLoop_mk ⟨a.at_ + k, ⟨#[]⟩, ab ++ be 1 1 ++ be i 4 ++ be k 2⟩ ⟨hstep.1, hfin⟩ (by show text.size - (a.at_ + k) < _; omega) ?_
                        unfold wrO
                        refine sub_mk [(7, 14)] rfl rfl rfl ?_
                        simp only [tmSub, hpSub, objSub, eqTm, eqHp, rn, lk, SV.ren, SV.renC, SV.renB, SV.renA, ren_ints, ren_strs, ren_pl, ren_svs, SV.v.injEq, Value.int.injEq, Body.ints.injEq, SV.ptr.injEq, SV.sl.injEq, Value.string.injEq, Value.bool.injEq, List.map_cons, List.map_nil, forall_const, Nat.reduceLT, Nat.lt_add_one, imp_self, true_and, and_true, and_self, ob_some, get_mk, lk_cons, ↓reduceIte, Nat.reduceEqDiff, ne_eq, not_true_eq_false, not_false_eq_true, Nat.one_ne_zero, Nat.zero_ne_one, Nat.succ_ne_self, Nat.reduceAdd, Bool.false_eq_true, false_implies, implies_true, reduceCtorEq]
                        repeat' (first | rfl | apply And.intro)
                    · have b2 : decide (((a.at_ + k : Nat) : Int) < text.size) = false := decide_eq_false (by omega)
                      have hd : ¬(i + k < old.size ∧ a.at_ + k < text.size ∧ (bts old).getD (i + k) 0 = (bts text).getD (a.at_ + k) 0) := fun h => d2 h.2.1
                      simp -implicitDefEqProofs only [go_sem, v1, b1, v2, b2]
                      have hek : extL old text i a.at_ g k = k := by
                        cases g with
                        | zero => rfl
                        | succ g => exact if_neg hd
                      rw [he] at hek
                      rw [hek] at hfn
                      have hk : ¬(k < 10 ∧ k ≠ text.size) := fun h => by omega
                      have b9 : decide ((k : Int) < 10) = false := decide_eq_false (by omega)

                      have e1 : mkStep old text a = ⟨a.at_ + k, ⟨#[]⟩, addB a.rest a.bs ++ be 1 1 ++ be i 4 ++ be k 2⟩ := by unfold mkStep; rw [hfn]; exact if_neg (fun h => hk h)
                      have w5 : IntKind.i64.wrap ((a.at_ : Int) + (k : Int)) = ((a.at_ + k : Nat) : Int) := by rw [wrap_i64 (by omega) (by omega)]; omega
                      have hstep := step_ok (old := old) hok c1
                      have ha := hstep.1.a
                      simp -implicitDefEqProofs only [go_sem, b9]
                      refine in_call mixT tDMake1 ?_
                      unfold mDMake1
                      simp -implicitDefEqProofs only [↓fnVC, initTm]
                      simp -implicitDefEqProofs only [go_sem]
                      by_cases hr0 : a.rest.size = 0
                      · have ar : seq a.rest ⟨#[]⟩ = true := seq_emp hr0
                        simp -implicitDefEqProofs only [go_sem, ar]
                        refine at_call tWByte (wByteS (i := 1) (r := 7) (y := 1) (bs := a.bs) (by decide) (by omega) (by rfl) (by rfl) (by decide) (by decide) (by decide) (by decide)) ?_
                        simp -implicitDefEqProofs only [go_sem]
                        refine at_call tWFour (wFourS (i := 1) (r := 10) (y := i) (bs := a.bs ++ be 1 1) (by omega) (by rw [List.length_append, be_len]; omega) (by rfl) (by rfl) (by decide) (by decide) (by decide) (by decide)) ?_
                        simp -implicitDefEqProofs only [go_sem]
                        refine at_call tWTwo (wTwoS (i := 1) (r := 11) (y := k) (bs := a.bs ++ be 1 1 ++ be i 4) (by omega) (by rw [List.length_append, List.length_append, be_len, be_len]; omega) (by rfl) (by rfl) (by decide) (by decide) (by decide) (by decide)) ?_
                        simp -implicitDefEqProofs only [go_sem, w5]
                        refine kLoop_mk (mkStep old text a) ⟨hstep.1, (fin_step hok c1).trans hQ⟩ (by omega) ?_
                        rw [e1, show addB a.rest a.bs = a.bs from if_pos hr0]
                        unfold wrO
                        refine sub_mk [(7, 12)] rfl rfl rfl ?_
                        simp only [tmSub, hpSub, objSub, eqTm, eqHp, rn, lk, SV.ren, SV.renC, SV.renB, SV.renA, ren_ints, ren_strs, ren_pl, ren_svs, SV.v.injEq, Value.int.injEq, Body.ints.injEq, SV.ptr.injEq, SV.sl.injEq, Value.string.injEq, Value.bool.injEq, List.map_cons, List.map_nil, forall_const, Nat.reduceLT, Nat.lt_add_one, imp_self, true_and, and_true, and_self, ob_some, get_mk, lk_cons, ↓reduceIte, Nat.reduceEqDiff, ne_eq, not_true_eq_false, not_false_eq_true, Nat.one_ne_zero, Nat.zero_ne_one, Nat.succ_ne_self, Nat.reduceAdd, Bool.false_eq_true, false_implies, implies_true, reduceCtorEq]
                        rw [ba_zero hr0]
                        repeat' (first | rfl | apply And.intro)
                      have ar : seq a.rest ⟨#[]⟩ = false := seq_nemp hr0
                      simp -implicitDefEqProofs only [go_sem, ar]
                      refine at_call tWByte (wByteS (i := 1) (r := 7) (y := 2) (bs := a.bs) (by decide) (by omega) (by rfl) (by rfl) (by decide) (by decide) (by decide) (by decide)) ?_
                      simp -implicitDefEqProofs only [go_sem]
                      refine at_call tWText (wTextS (i := 1) (r := 10) (s := a.rest) (bs := a.bs ++ be 2 1) (by omega) (by rw [List.length_append, be_len]; omega) (by rfl) (by rfl) (by decide) (by decide) (by decide) (by decide)) ?_
                      have hab : addB a.rest a.bs = a.bs ++ be 2 1 ++ (be a.rest.size 2 ++ bts a.rest) := if_neg hr0
                      have hal : (addB a.rest a.bs).length ≤ a.bs.length + a.rest.size + 3 := by rw [hab]; simp only [List.length_append, be_len, bts_len]; omega
                      have hfin := (fin_step hok c1).trans hQ
                      rw [e1] at hfin hstep
                      rw [← hab]
                      clear hab e1
                      generalize addB a.rest a.bs = ab at hal hstep hfin ⊢
                      simp -implicitDefEqProofs only [go_sem]
                      refine at_call tWByte (wByteS (i := 1) (r := 11) (y := 1) (bs := ab) (by decide) (by omega) (by rfl) (by rfl) (by decide) (by decide) (by decide) (by decide)) ?_
                      simp -implicitDefEqProofs only [go_sem]
                      refine at_call tWFour (wFourS (i := 1) (r := 12) (y := i) (bs := ab ++ be 1 1) (by omega) (by rw [List.length_append, be_len]; omega) (by rfl) (by rfl) (by decide) (by decide) (by decide) (by decide)) ?_
                      simp -implicitDefEqProofs only [go_sem]
                      refine at_call tWTwo (wTwoS (i := 1) (r := 13) (y := k) (bs := ab ++ be 1 1 ++ be i 4) (by omega) (by rw [List.length_append, List.length_append, be_len, be_len]; omega) (by rfl) (by rfl) (by decide) (by decide) (by decide) (by decide)) ?_
                      simp -implicitDefEqProofs only [go_sem, w5]
                      refine kLoop_mk ⟨a.at_ + k, ⟨#[]⟩, ab ++ be 1 1 ++ be i 4 ++ be k 2⟩ ⟨hstep.1, hfin⟩ (by show text.size - (a.at_ + k) < _; omega) ?_
                      unfold wrO
                      refine sub_mk [(7, 14)] rfl rfl rfl ?_
                      simp only [tmSub, hpSub, objSub, eqTm, eqHp, rn, lk, SV.ren, SV.renC, SV.renB, SV.renA, ren_ints, ren_strs, ren_pl, ren_svs, SV.v.injEq, Value.int.injEq, Body.ints.injEq, SV.ptr.injEq, SV.sl.injEq, Value.string.injEq, Value.bool.injEq, List.map_cons, List.map_nil, forall_const, Nat.reduceLT, Nat.lt_add_one, imp_self, true_and, and_true, and_self, ob_some, get_mk, lk_cons, ↓reduceIte, Nat.reduceEqDiff, ne_eq, not_true_eq_false, not_false_eq_true, Nat.one_ne_zero, Nat.zero_ne_one, Nat.succ_ne_self, Nat.reduceAdd, Bool.false_eq_true, false_implies, implies_true, reduceCtorEq]
                      repeat' (first | rfl | apply And.intro)
                  · have b1 : decide (((i + k : Nat) : Int) < old.size) = false := decide_eq_false (by omega)
                    have hd : ¬(i + k < old.size ∧ a.at_ + k < text.size ∧ (bts old).getD (i + k) 0 = (bts text).getD (a.at_ + k) 0) := fun h => d1 h.1
                    simp -implicitDefEqProofs only [go_sem, v1, b1, v2]
                    have hek : extL old text i a.at_ g k = k := by
                      cases g with
                      | zero => rfl
                      | succ g => exact if_neg hd
                    rw [he] at hek
                    rw [hek] at hfn
                    have hk : ¬(k < 10 ∧ k ≠ text.size) := fun h => by omega
                    have b9 : decide ((k : Int) < 10) = false := decide_eq_false (by omega)

                    have e1 : mkStep old text a = ⟨a.at_ + k, ⟨#[]⟩, addB a.rest a.bs ++ be 1 1 ++ be i 4 ++ be k 2⟩ := by unfold mkStep; rw [hfn]; exact if_neg (fun h => hk h)
                    have w5 : IntKind.i64.wrap ((a.at_ : Int) + (k : Int)) = ((a.at_ + k : Nat) : Int) := by rw [wrap_i64 (by omega) (by omega)]; omega
                    have hstep := step_ok (old := old) hok c1
                    have ha := hstep.1.a
                    simp -implicitDefEqProofs only [go_sem, b9]
                    refine in_call mixT tDMake1 ?_
                    unfold mDMake1
                    simp -implicitDefEqProofs only [↓fnVC, initTm]
                    simp -implicitDefEqProofs only [go_sem]
                    by_cases hr0 : a.rest.size = 0
                    · have ar : seq a.rest ⟨#[]⟩ = true := seq_emp hr0
                      simp -implicitDefEqProofs only [go_sem, ar]
                      refine at_call tWByte (wByteS (i := 1) (r := 7) (y := 1) (bs := a.bs) (by decide) (by omega) (by rfl) (by rfl) (by decide) (by decide) (by decide) (by decide)) ?_
                      simp -implicitDefEqProofs only [go_sem]
                      refine at_call tWFour (wFourS (i := 1) (r := 10) (y := i) (bs := a.bs ++ be 1 1) (by omega) (by rw [List.length_append, be_len]; omega) (by rfl) (by rfl) (by decide) (by decide) (by decide) (by decide)) ?_
                      simp -implicitDefEqProofs only [go_sem]
                      refine at_call tWTwo (wTwoS (i := 1) (r := 11) (y := k) (bs := a.bs ++ be 1 1 ++ be i 4) (by omega) (by rw [List.length_append, List.length_append, be_len, be_len]; omega) (by rfl) (by rfl) (by decide) (by decide) (by decide) (by decide)) ?_
                      simp -implicitDefEqProofs only [go_sem, w5]
                      refine kLoop_mk (mkStep old text a) ⟨hstep.1, (fin_step hok c1).trans hQ⟩ (by omega) ?_
                      rw [e1, show addB a.rest a.bs = a.bs from if_pos hr0]
                      unfold wrO
                      refine sub_mk [(7, 12)] rfl rfl rfl ?_
                      simp only [tmSub, hpSub, objSub, eqTm, eqHp, rn, lk, SV.ren, SV.renC, SV.renB, SV.renA, ren_ints, ren_strs, ren_pl, ren_svs, SV.v.injEq, Value.int.injEq, Body.ints.injEq, SV.ptr.injEq, SV.sl.injEq, Value.string.injEq, Value.bool.injEq, List.map_cons, List.map_nil, forall_const, Nat.reduceLT, Nat.lt_add_one, imp_self, true_and, and_true, and_self, ob_some, get_mk, lk_cons, ↓reduceIte, Nat.reduceEqDiff, ne_eq, not_true_eq_false, not_false_eq_true, Nat.one_ne_zero, Nat.zero_ne_one, Nat.succ_ne_self, Nat.reduceAdd, Bool.false_eq_true, false_implies, implies_true, reduceCtorEq]
                      rw [ba_zero hr0]
                      repeat' (first | rfl | apply And.intro)
                    have ar : seq a.rest ⟨#[]⟩ = false := seq_nemp hr0
                    simp -implicitDefEqProofs only [go_sem, ar]
                    refine at_call tWByte (wByteS (i := 1) (r := 7) (y := 2) (bs := a.bs) (by decide) (by omega) (by rfl) (by rfl) (by decide) (by decide) (by decide) (by decide)) ?_
                    simp -implicitDefEqProofs only [go_sem]
                    refine at_call tWText (wTextS (i := 1) (r := 10) (s := a.rest) (bs := a.bs ++ be 2 1) (by omega) (by rw [List.length_append, be_len]; omega) (by rfl) (by rfl) (by decide) (by decide) (by decide) (by decide)) ?_
                    have hab : addB a.rest a.bs = a.bs ++ be 2 1 ++ (be a.rest.size 2 ++ bts a.rest) := if_neg hr0
                    have hal : (addB a.rest a.bs).length ≤ a.bs.length + a.rest.size + 3 := by rw [hab]; simp only [List.length_append, be_len, bts_len]; omega
                    have hfin := (fin_step hok c1).trans hQ
                    rw [e1] at hfin hstep
                    rw [← hab]
                    clear hab e1
                    generalize addB a.rest a.bs = ab at hal hstep hfin ⊢
                    simp -implicitDefEqProofs only [go_sem]
                    refine at_call tWByte (wByteS (i := 1) (r := 11) (y := 1) (bs := ab) (by decide) (by omega) (by rfl) (by rfl) (by decide) (by decide) (by decide) (by decide)) ?_
                    simp -implicitDefEqProofs only [go_sem]
                    refine at_call tWFour (wFourS (i := 1) (r := 12) (y := i) (bs := ab ++ be 1 1) (by omega) (by rw [List.length_append, be_len]; omega) (by rfl) (by rfl) (by decide) (by decide) (by decide) (by decide)) ?_
                    simp -implicitDefEqProofs only [go_sem]
                    refine at_call tWTwo (wTwoS (i := 1) (r := 13) (y := k) (bs := ab ++ be 1 1 ++ be i 4) (by omega) (by rw [List.length_append, List.length_append, be_len, be_len]; omega) (by rfl) (by rfl) (by decide) (by decide) (by decide) (by decide)) ?_
                    simp -implicitDefEqProofs only [go_sem, w5]
                    refine kLoop_mk ⟨a.at_ + k, ⟨#[]⟩, ab ++ be 1 1 ++ be i 4 ++ be k 2⟩ ⟨hstep.1, hfin⟩ (by show text.size - (a.at_ + k) < _; omega) ?_
                    unfold wrO
                    refine sub_mk [(7, 14)] rfl rfl rfl ?_
                    simp only [tmSub, hpSub, objSub, eqTm, eqHp, rn, lk, SV.ren, SV.renC, SV.renB, SV.renA, ren_ints, ren_strs, ren_pl, ren_svs, SV.v.injEq, Value.int.injEq, Body.ints.injEq, SV.ptr.injEq, SV.sl.injEq, Value.string.injEq, Value.bool.injEq, List.map_cons, List.map_nil, forall_const, Nat.reduceLT, Nat.lt_add_one, imp_self, true_and, and_true, and_self, ob_some, get_mk, lk_cons, ↓reduceIte, Nat.reduceEqDiff, ne_eq, not_true_eq_false, not_false_eq_true, Nat.one_ne_zero, Nat.zero_ne_one, Nat.succ_ne_self, Nat.reduceAdd, Bool.false_eq_true, false_implies, implies_true, reduceCtorEq]
                    repeat' (first | rfl | apply And.intro)
            · have a5 : decide (((a.at_ + 16 : Nat) : Int) ≤ text.size) = false := decide_eq_false (by omega)
              have hfn : fnP old text a.at_ = (0, 0) := by rw [hfn0, if_neg c4]
              have hk1 : (0 : Nat) < 10 := by decide
              have hk2 : (0 : Nat) ≠ text.size := by omega
              have b1 : decide ((0 : Int) < 10) = true := rfl
              have b2 : decide ((0 : Int) = text.size) = false := decide_eq_false (by omega)
              have e1 : mkStep old text a = ⟨a.at_ + 1, a.rest ++ text.extract a.at_ (a.at_ + 1), a.bs⟩ := by unfold mkStep; rw [hfn]; exact if_pos ⟨hk1, hk2⟩
              have w5 : IntKind.i64.wrap ((a.at_ : Int) + 1) = ((a.at_ + 1 : Nat) : Int) := by rw [wrap_i64 (by omega) (by omega)]; omega
              simp -implicitDefEqProofs only [go_sem, a5, b1, b2, w5]
              refine ⟨⟨by omega, by omega⟩, by rw [ex_size]; omega, ?_⟩
              have hstep := step_ok (old := old) hok c1
              have ha := hstep.1.a
              refine kLoop_mk (mkStep old text a) ⟨hstep.1, (fin_step hok c1).trans hQ⟩ (by omega) ?_
              rw [e1]
              unfold wrO
              refine sub_mk [] rfl rfl rfl ?_
              simp only [tmSub, hpSub, objSub, eqTm, eqHp, rn, lk, SV.ren, SV.renC, SV.renB, SV.renA, ren_ints, ren_strs, ren_pl, ren_svs, SV.v.injEq, Value.int.injEq, Body.ints.injEq, SV.ptr.injEq, SV.sl.injEq, Value.string.injEq, Value.bool.injEq, List.map_cons, List.map_nil, forall_const, Nat.reduceLT, Nat.lt_add_one, imp_self, true_and, and_true, and_self, ob_some, get_mk, lk_cons, ↓reduceIte, Nat.reduceEqDiff, ne_eq, not_true_eq_false, not_false_eq_true, Nat.one_ne_zero, Nat.zero_ne_one, Nat.succ_ne_self, Nat.reduceAdd, Bool.false_eq_true, false_implies, implies_true, reduceCtorEq]
              repeat' (first | rfl | apply And.intro)
          · have a3 : seq old ⟨#[]⟩ = false := seq_nemp c3
            have a4 : hpre (text.extract a.at_ text.size) old = false := by
              cases h : hpre (text.extract a.at_ text.size) old with
              | false => rfl
              | true => exact absurd ⟨c3, h⟩ c2
            simp -implicitDefEqProofs only [go_sem, a3]
            refine ⟨by omega, ?_⟩
            refine at_call tHasPrefix hpreS ?_
            rw [a4]
            simp -implicitDefEqProofs only [go_sem, a3, w6]
            by_cases c4 : a.at_ + 16 ≤ text.size
            · have a5 : decide (((a.at_ + 16 : Nat) : Int) ≤ text.size) = true := decide_eq_true (by omega)
              rw [if_pos c4] at hfn0
              simp -implicitDefEqProofs only [go_sem, a5, w6]
              refine ⟨by omega, ?_⟩
              simp -implicitDefEqProofs only [go_sem, asM_so, k1]
              cases hl : luN old (text.extract a.at_ (a.at_ + 16)) with
              | none =>
                have hfn : fnP old text a.at_ = (0, 0) := by rw [hfn0, hl]
                rw [luN_none hl]
                have hk1 : (0 : Nat) < 10 := by decide
                have hk2 : (0 : Nat) ≠ text.size := by omega
                have b1 : decide ((0 : Int) < 10) = true := rfl
                have b2 : decide ((0 : Int) = text.size) = false := decide_eq_false (by omega)
                simp -implicitDefEqProofs only [go_sem, luV_ok, Option.getD_none, Option.isSome_none, elemSV]
                have e1 : mkStep old text a = ⟨a.at_ + 1, a.rest ++ text.extract a.at_ (a.at_ + 1), a.bs⟩ := by unfold mkStep; rw [hfn]; exact if_pos ⟨hk1, hk2⟩
                have w5 : IntKind.i64.wrap ((a.at_ : Int) + 1) = ((a.at_ + 1 : Nat) : Int) := by rw [wrap_i64 (by omega) (by omega)]; omega
                simp -implicitDefEqProofs only [go_sem, b1, b2, w5]
                refine ⟨⟨by omega, by omega⟩, by rw [ex_size]; omega, ?_⟩
                have hstep := step_ok (old := old) hok c1
                have ha := hstep.1.a
                refine kLoop_mk (mkStep old text a) ⟨hstep.1, (fin_step hok c1).trans hQ⟩ (by omega) ?_
                rw [e1]
                unfold wrO
                refine sub_mk [] rfl rfl rfl ?_
                simp only [tmSub, hpSub, objSub, eqTm, eqHp, rn, lk, SV.ren, SV.renC, SV.renB, SV.renA, ren_ints, ren_strs, ren_pl, ren_svs, SV.v.injEq, Value.int.injEq, Body.ints.injEq, SV.ptr.injEq, SV.sl.injEq, Value.string.injEq, Value.bool.injEq, List.map_cons, List.map_nil, forall_const, Nat.reduceLT, Nat.lt_add_one, imp_self, true_and, and_true, and_self, ob_some, get_mk, lk_cons, ↓reduceIte, Nat.reduceEqDiff, ne_eq, not_true_eq_false, not_false_eq_true, Nat.one_ne_zero, Nat.zero_ne_one, Nat.succ_ne_self, Nat.reduceAdd, Bool.false_eq_true, false_implies, implies_true, reduceCtorEq]
                repeat' (first | rfl | apply And.intro)
              | some i =>
                obtain ⟨l1, l2, l3⟩ := luN_ok hl
                have hfn : fnP old text a.at_ = (i, extL old text i a.at_ old.size 16) := by rw [hfn0, hl]
                rw [l3]
                simp -implicitDefEqProofs only [go_sem, luV_ok, Option.getD_some, Option.isSome_some, elemSV]
                have haa := hok.a
                refine loop_fam (fun (k : Nat) => 16 ≤ k ∧ i + k ≤ old.size ∧ a.at_ + k ≤ text.size ∧ ∃ g, old.size ≤ g + k ∧ extL old text i a.at_ g k = extL old text i a.at_ old.size 16)
                  (fun k => ⟨[(0, .v (.string old)), (1, .v (.string text)), (6, .ptr 1 0), (7, .mp 8), (10, .fn 25 [.ptr 9 0, .ptr 1 0]), (9, .ptr 9 0), (11, .v (.int .i64 a.at_)), (12, .v (.int .i64 i)), (13, .v (.int .i64 k))],
                  ⟨[(1, some (wrO 7 a.bs.length false)), (7, some ⟨true, .ints .u8 a.bs⟩), (8, some ⟨true, .mp (.map (plc old))⟩), (9, some ⟨true, .sv [.v (.string a.rest)]⟩)], x⟩, 10⟩) (fun k => old.size - k) 16 ⟨Nat.le_refl _, l1, c4, old.size, by omega, rfl⟩ ?_ ?_
                · unfold wrO
                  refine sub_mk [] rfl rfl rfl ?_
                  simp only [tmSub, hpSub, objSub, eqTm, eqHp, rn, lk, SV.ren, SV.renC, SV.renB, SV.renA, ren_ints, ren_strs, ren_pl, ren_svs, SV.v.injEq, Value.int.injEq, Body.ints.injEq, SV.ptr.injEq, SV.sl.injEq, Value.string.injEq, Value.bool.injEq, List.map_cons, List.map_nil, forall_const, Nat.reduceLT, Nat.lt_add_one, imp_self, true_and, and_true, and_self, ob_some, get_mk, lk_cons, ↓reduceIte, Nat.reduceEqDiff, ne_eq, not_true_eq_false, not_false_eq_true, Nat.one_ne_zero, Nat.zero_ne_one, Nat.succ_ne_self, Nat.reduceAdd, Bool.false_eq_true, false_implies, implies_true, reduceCtorEq]
                  repeat' (first | rfl | apply And.intro)
                · rintro k ⟨k16, ki, ka, g, hg, he⟩
                  have v1 : IntKind.i64.wrap ((i : Int) + (k : Int)) = ((i + k : Nat) : Int) := by rw [wrap_i64 (by omega) (by omega)]; omega
                  have v2 : IntKind.i64.wrap ((a.at_ : Int) + (k : Int)) = ((a.at_ + k : Nat) : Int) := by rw [wrap_i64 (by omega) (by omega)]; omega
                  have v3 : IntKind.i64.wrap ((k : Int) + 1) = ((k + 1 : Nat) : Int) := by rw [wrap_i64 (by omega) (by omega)]; omega
                  unfold wrO
                  simp -implicitDefEqProofs only [go_sem, v1]
                  by_cases d1 : i + k < old.size
                  · have b1 : decide (((i + k : Nat) : Int) < old.size) = true := decide_eq_true (by omega)
                    simp -implicitDefEqProofs only [go_sem, v1, b1, v2]
                    by_cases d2 : a.at_ + k < text.size
                    · have b2 : decide (((a.at_ + k : Nat) : Int) < text.size) = true := decide_eq_true (by omega)
                      simp -implicitDefEqProofs only [go_sem, v1, b1, v2, b2]
                      refine ⟨⟨by omega, by omega⟩, ⟨by omega, by omega⟩, ?_⟩
                      by_cases d3 : (bts old).getD (i + k) 0 = (bts text).getD (a.at_ + k) 0
                      · have b3 : decide ((bts old).getD (i + k) 0 = (bts text).getD (a.at_ + k) 0) = true := decide_eq_true d3
                        simp -implicitDefEqProofs only [go_sem, v1, b1, v2, b2, b3, v3]
                        refine kLoop_mk (k + 1) ⟨by omega, by omega, by omega, ?_⟩ (by omega) ?_
                        · cases g with
                          | zero => omega
                          | succ g =>
                            refine ⟨g, by omega, ?_⟩
                            rw [← he]
                            show _ = (if i + k < old.size ∧ a.at_ + k < text.size ∧ (bts old).getD (i + k) 0 = (bts text).getD (a.at_ + k) 0 then extL old text i a.at_ g (k + 1) else k)
                            rw [if_pos ⟨d1, d2, d3⟩]
                        · refine sub_mk [] rfl rfl rfl ?_
                          simp only [tmSub, hpSub, objSub, eqTm, eqHp, rn, lk, SV.ren, SV.renC, SV.renB, SV.renA, ren_ints, ren_strs, ren_pl, ren_svs, SV.v.injEq, Value.int.injEq, Body.ints.injEq, SV.ptr.injEq, SV.sl.injEq, Value.string.injEq, Value.bool.injEq, List.map_cons, List.map_nil, forall_const, Nat.reduceLT, Nat.lt_add_one, imp_self, true_and, and_true, and_self, ob_some, get_mk, lk_cons, ↓reduceIte, Nat.reduceEqDiff, ne_eq, not_true_eq_false, not_false_eq_true, Nat.one_ne_zero, Nat.zero_ne_one, Nat.succ_ne_self, Nat.reduceAdd, Bool.false_eq_true, false_implies, implies_true, reduceCtorEq, wrO]
                          repeat' (first | rfl | apply And.intro)
                      · have b3 : decide ((bts old).getD (i + k) 0 = (bts text).getD (a.at_ + k) 0) = false := decide_eq_false d3
                        have hd : ¬(i + k < old.size ∧ a.at_ + k < text.size ∧ (bts old).getD (i + k) 0 = (bts text).getD (a.at_ + k) 0) := fun h => d3 h.2.2
                        simp -implicitDefEqProofs only [go_sem, v1, b1, v2, b2, b3]
                        have hek : extL old text i a.at_ g k = k := by
                          cases g with
                          | zero => rfl
                          | succ g => exact if_neg hd
                        rw [he] at hek
                        rw [hek] at hfn
                        have hk : ¬(k < 10 ∧ k ≠ text.size) := fun h => by omega
                        have b9 : decide ((k : Int) < 10) = false := decide_eq_false (by omega)

                        have e1 : mkStep old text a = ⟨a.at_ + k, ⟨#[]⟩, addB a.rest a.bs ++ be 1 1 ++ be i 4 ++ be k 2⟩ := by unfold mkStep; rw [hfn]; exact if_neg (fun h => hk h)
                        have w5 : IntKind.i64.wrap ((a.at_ : Int) + (k : Int)) = ((a.at_ + k : Nat) : Int) := by rw [wrap_i64 (by omega) (by omega)]; omega
                        have hstep := step_ok (old := old) hok c1
                        have ha := hstep.1.a
                        simp -implicitDefEqProofs only [go_sem, b9]
                        refine in_call mixT tDMake1 ?_
                        unfold mDMake1
                        simp -implicitDefEqProofs only [↓fnVC, initTm]
                        simp -implicitDefEqProofs only [go_sem]
                        by_cases hr0 : a.rest.size = 0
                        · have ar : seq a.rest ⟨#[]⟩ = true := seq_emp hr0
                          simp -implicitDefEqProofs only [go_sem, ar]
                          refine at_call tWByte (wByteS (i := 1) (r := 7) (y := 1) (bs := a.bs) (by decide) (by omega) (by rfl) (by rfl) (by decide) (by decide) (by decide) (by decide)) ?_
                          simp -implicitDefEqProofs only [go_sem]
                          refine at_call tWFour (wFourS (i := 1) (r := 10) (y := i) (bs := a.bs ++ be 1 1) (by omega) (by rw [List.length_append, be_len]; omega) (by rfl) (by rfl) (by decide) (by decide) (by decide) (by decide)) ?_
                          simp -implicitDefEqProofs only [go_sem]
                          refine at_call tWTwo (wTwoS (i := 1) (r := 11) (y := k) (bs := a.bs ++ be 1 1 ++ be i 4) (by omega) (by rw [List.length_append, List.length_append, be_len, be_len]; omega) (by rfl) (by rfl) (by decide) (by decide) (by decide) (by decide)) ?_
                          simp -implicitDefEqProofs only [go_sem, w5]
                          refine kLoop_mk (mkStep old text a) ⟨hstep.1, (fin_step hok c1).trans hQ⟩ (by omega) ?_
                          rw [e1, show addB a.rest a.bs = a.bs from if_pos hr0]
                          unfold wrO
                          refine sub_mk [(7, 12)] rfl rfl rfl ?_
                          simp only [tmSub, hpSub, objSub, eqTm, eqHp, rn, lk, SV.ren, SV.renC, SV.renB, SV.renA, ren_ints, ren_strs, ren_pl, ren_svs, SV.v.injEq, Value.int.injEq, Body.ints.injEq, SV.ptr.injEq, SV.sl.injEq, Value.string.injEq, Value.bool.injEq, List.map_cons, List.map_nil, forall_const, Nat.reduceLT, Nat.lt_add_one, imp_self, true_and, and_true, and_self, ob_some, get_mk, lk_cons, ↓reduceIte, Nat.reduceEqDiff, ne_eq, not_true_eq_false, not_false_eq_true, Nat.one_ne_zero, Nat.zero_ne_one, Nat.succ_ne_self, Nat.reduceAdd, Bool.false_eq_true, false_implies, implies_true, reduceCtorEq]
                          rw [ba_zero hr0]
                          repeat' (first | rfl | apply And.intro)
                        have ar : seq a.rest ⟨#[]⟩ = false := seq_nemp hr0
                        simp -implicitDefEqProofs only [go_sem, ar]
                        refine at_call tWByte (wByteS (i := 1) (r := 7) (y := 2) (bs := a.bs) (by decide) (by omega) (by rfl) (by rfl) (by decide) (by decide) (by decide) (by decide)) ?_
                        simp -implicitDefEqProofs only [go_sem]
                        refine at_call tWText (wTextS (i := 1) (r := 10) (s := a.rest) (bs := a.bs ++ be 2 1) (by omega) (by rw [List.length_append, be_len]; omega) (by rfl) (by rfl) (by decide) (by decide) (by decide) (by decide)) ?_
                        have hab : addB a.rest a.bs = a.bs ++ be 2 1 ++ (be a.rest.size 2 ++ bts a.rest) := if_neg hr0
                        have hal : (addB a.rest a.bs).length ≤ a.bs.length + a.rest.size + 3 := by rw [hab]; simp only [List.length_append, be_len, bts_len]; omega
                        have hfin := (fin_step hok c1).trans hQ
                        rw [e1] at hfin hstep
                        rw [← hab]
                        clear hab e1
                        generalize addB a.rest a.bs = ab at hal hstep hfin ⊢
                        simp -implicitDefEqProofs only [go_sem]
                        refine at_call tWByte (wByteS (i := 1) (r := 11) (y := 1) (bs := ab) (by decide) (by omega) (by rfl) (by rfl) (by decide) (by decide) (by decide) (by decide)) ?_
                        simp -implicitDefEqProofs only [go_sem]
                        refine at_call tWFour (wFourS (i := 1) (r := 12) (y := i) (bs := ab ++ be 1 1) (by omega) (by rw [List.length_append, be_len]; omega) (by rfl) (by rfl) (by decide) (by decide) (by decide) (by decide)) ?_
                        simp -implicitDefEqProofs only [go_sem]
                        refine at_call tWTwo (wTwoS (i := 1) (r := 13) (y := k) (bs := ab ++ be 1 1 ++ be i 4) (by omega) (by rw [List.length_append, List.length_append, be_len, be_len]; omega) (by rfl) (by rfl) (by decide) (by decide) (by decide) (by decide)) ?_
                        simp -implicitDefEqProofs only [go_sem, w5]
                        refine kLoop_mk ⟨a.at_ + k, ⟨#[]⟩, ab ++ be 1 1 ++ be i 4 ++ be k 2⟩ ⟨hstep.1, hfin⟩ (by show text.size - (a.at_ + k) < _; omega) ?_
                        unfold wrO
                        refine sub_mk [(7, 14)] rfl rfl rfl ?_
                        simp only [tmSub, hpSub, objSub, eqTm, eqHp, rn, lk, SV.ren, SV.renC, SV.renB, SV.renA, ren_ints, ren_strs, ren_pl, ren_svs, SV.v.injEq, Value.int.injEq, Body.ints.injEq, SV.ptr.injEq, SV.sl.injEq, Value.string.injEq, Value.bool.injEq, List.map_cons, List.map_nil, forall_const, Nat.reduceLT, Nat.lt_add_one, imp_self, true_and, and_true, and_self, ob_some, get_mk, lk_cons, ↓reduceIte, Nat.reduceEqDiff, ne_eq, not_true_eq_false, not_false_eq_true, Nat.one_ne_zero, Nat.zero_ne_one, Nat.succ_ne_self, Nat.reduceAdd, Bool.false_eq_true, false_implies, implies_true, reduceCtorEq]
                        repeat' (first | rfl | apply And.intro)
                    · have b2 : decide (((a.at_ + k : Nat) : Int) < text.size) = false := decide_eq_false (by omega)
                      have hd : ¬(i + k < old.size ∧ a.at_ + k < text.size ∧ (bts old).getD (i + k) 0 = (bts text).getD (a.at_ + k) 0) := fun h => d2 h.2.1
                      simp -implicitDefEqProofs only [go_sem, v1, b1, v2, b2]
                      have hek : extL old text i a.at_ g k = k := by
                        cases g with
                        | zero => rfl
                        | succ g => exact if_neg hd
                      rw [he] at hek
                      rw [hek] at hfn
                      have hk : ¬(k < 10 ∧ k ≠ text.size) := fun h => by omega
                      have b9 : decide ((k : Int) < 10) = false := decide_eq_false (by omega)

                      have e1 : mkStep old text a = ⟨a.at_ + k, ⟨#[]⟩, addB a.rest a.bs ++ be 1 1 ++ be i 4 ++ be k 2⟩ := by unfold mkStep; rw [hfn]; exact if_neg (fun h => hk h)
                      have w5 : IntKind.i64.wrap ((a.at_ : Int) + (k : Int)) = ((a.at_ + k : Nat) : Int) := by rw [wrap_i64 (by omega) (by omega)]; omega
                      have hstep := step_ok (old := old) hok c1
                      have ha := hstep.1.a
                      simp -implicitDefEqProofs only [go_sem, b9]
                      refine in_call mixT tDMake1 ?_
                      unfold mDMake1
                      simp -implicitDefEqProofs only [↓fnVC, initTm]
                      simp -implicitDefEqProofs only [go_sem]
                      by_cases hr0 : a.rest.size = 0
                      · have ar : seq a.rest ⟨#[]⟩ = true := seq_emp hr0
                        simp -implicitDefEqProofs only [go_sem, ar]
                        refine at_call tWByte (wByteS (i := 1) (r := 7) (y := 1) (bs := a.bs) (by decide) (by omega) (by rfl) (by rfl) (by decide) (by decide) (by decide) (by decide)) ?_
                        simp -implicitDefEqProofs only [go_sem]
                        refine at_call tWFour (wFourS (i := 1) (r := 10) (y := i) (bs := a.bs ++ be 1 1) (by omega) (by rw [List.length_append, be_len]; omega) (by rfl) (by rfl) (by decide) (by decide) (by decide) (by decide)) ?_
                        simp -implicitDefEqProofs only [go_sem]
                        refine at_call tWTwo (wTwoS (i := 1) (r := 11) (y := k) (bs := a.bs ++ be 1 1 ++ be i 4) (by omega) (by rw [List.length_append, List.length_append, be_len, be_len]; omega) (by rfl) (by rfl) (by decide) (by decide) (by decide) (by decide)) ?_
                        simp -implicitDefEqProofs only [go_sem, w5]
                        refine kLoop_mk (mkStep old text a) ⟨hstep.1, (fin_step hok c1).trans hQ⟩ (by omega) ?_
                        rw [e1, show addB a.rest a.bs = a.bs from if_pos hr0]
                        unfold wrO
                        refine sub_mk [(7, 12)] rfl rfl rfl ?_
                        simp only [tmSub, hpSub, objSub, eqTm, eqHp, rn, lk, SV.ren, SV.renC, SV.renB, SV.renA, ren_ints, ren_strs, ren_pl, ren_svs, SV.v.injEq, Value.int.injEq, Body.ints.injEq, SV.ptr.injEq, SV.sl.injEq, Value.string.injEq, Value.bool.injEq, List.map_cons, List.map_nil, forall_const, Nat.reduceLT, Nat.lt_add_one, imp_self, true_and, and_true, and_self, ob_some, get_mk, lk_cons, ↓reduceIte, Nat.reduceEqDiff, ne_eq, not_true_eq_false, not_false_eq_true, Nat.one_ne_zero, Nat.zero_ne_one, Nat.succ_ne_self, Nat.reduceAdd, Bool.false_eq_true, false_implies, implies_true, reduceCtorEq]
                        rw [ba_zero hr0]
                        repeat' (first | rfl | apply And.intro)
                      have ar : seq a.rest ⟨#[]⟩ = false := seq_nemp hr0
                      simp -implicitDefEqProofs only [go_sem, ar]
                      refine at_call tWByte (wByteS (i := 1) (r := 7) (y := 2) (bs := a.bs) (by decide) (by omega) (by rfl) (by rfl) (by decide) (by decide) (by decide) (by decide)) ?_
                      simp -implicitDefEqProofs only [go_sem]
                      refine at_call tWText (wTextS (i := 1) (r := 10) (s := a.rest) (bs := a.bs ++ be 2 1) (by omega) (by rw [List.length_append, be_len]; omega) (by rfl) (by rfl) (by decide) (by decide) (by decide) (by decide)) ?_
                      have hab : addB a.rest a.bs = a.bs ++ be 2 1 ++ (be a.rest.size 2 ++ bts a.rest) := if_neg hr0
                      have hal : (addB a.rest a.bs).length ≤ a.bs.length + a.rest.size + 3 := by rw [hab]; simp only [List.length_append, be_len, bts_len]; omega
                      have hfin := (fin_step hok c1).trans hQ
                      rw [e1] at hfin hstep
                      rw [← hab]
                      clear hab e1
                      generalize addB a.rest a.bs = ab at hal hstep hfin ⊢
                      simp -implicitDefEqProofs only [go_sem]
                      refine at_call tWByte (wByteS (i := 1) (r := 11) (y := 1) (bs := ab) (by decide) (by omega) (by rfl) (by rfl) (by decide) (by decide) (by decide) (by decide)) ?_
                      simp -implicitDefEqProofs only [go_sem]
                      refine at_call tWFour (wFourS (i := 1) (r := 12) (y := i) (bs := ab ++ be 1 1) (by omega) (by rw [List.length_append, be_len]; omega) (by rfl) (by rfl) (by decide) (by decide) (by decide) (by decide)) ?_
                      simp -implicitDefEqProofs only [go_sem]
                      refine at_call tWTwo (wTwoS (i := 1) (r := 13) (y := k) (bs := ab ++ be 1 1 ++ be i 4) (by omega) (by rw [List.length_append, List.length_append, be_len, be_len]; omega) (by rfl) (by rfl) (by decide) (by decide) (by decide) (by decide)) ?_
                      simp -implicitDefEqProofs only [go_sem, w5]
                      refine kLoop_mk ⟨a.at_ + k, ⟨#[]⟩, ab ++ be 1 1 ++ be i 4 ++ be k 2⟩ ⟨hstep.1, hfin⟩ (by show text.size - (a.at_ + k) < _; omega) ?_
                      unfold wrO
                      refine sub_mk [(7, 14)] rfl rfl rfl ?_
                      simp only [tmSub, hpSub, objSub, eqTm, eqHp, rn, lk, SV.ren, SV.renC, SV.renB, SV.renA, ren_ints, ren_strs, ren_pl, ren_svs, SV.v.injEq, Value.int.injEq, Body.ints.injEq, SV.ptr.injEq, SV.sl.injEq, Value.string.injEq, Value.bool.injEq, List.map_cons, List.map_nil, forall_const, Nat.reduceLT, Nat.lt_add_one, imp_self, true_and, and_true, and_self, ob_some, get_mk, lk_cons, ↓reduceIte, Nat.reduceEqDiff, ne_eq, not_true_eq_false, not_false_eq_true, Nat.one_ne_zero, Nat.zero_ne_one, Nat.succ_ne_self, Nat.reduceAdd, Bool.false_eq_true, false_implies, implies_true, reduceCtorEq]
                      repeat' (first | rfl | apply And.intro)
                  · have b1 : decide (((i + k : Nat) : Int) < old.size) = false := decide_eq_false (by omega)
                    have hd : ¬(i + k < old.size ∧ a.at_ + k < text.size ∧ (bts old).getD (i + k) 0 = (bts text).getD (a.at_ + k) 0) := fun h => d1 h.1
                    simp -implicitDefEqProofs only [go_sem, v1, b1, v2]
                    have hek : extL old text i a.at_ g k = k := by
                      cases g with
                      | zero => rfl
                      | succ g => exact if_neg hd
                    rw [he] at hek
                    rw [hek] at hfn
                    have hk : ¬(k < 10 ∧ k ≠ text.size) := fun h => by omega
                    have b9 : decide ((k : Int) < 10) = false := decide_eq_false (by omega)

                    have e1 : mkStep old text a = ⟨a.at_ + k, ⟨#[]⟩, addB a.rest a.bs ++ be 1 1 ++ be i 4 ++ be k 2⟩ := by unfold mkStep; rw [hfn]; exact if_neg (fun h => hk h)
                    have w5 : IntKind.i64.wrap ((a.at_ : Int) + (k : Int)) = ((a.at_ + k : Nat) : Int) := by rw [wrap_i64 (by omega) (by omega)]; omega
                    have hstep := step_ok (old := old) hok c1
                    have ha := hstep.1.a
                    simp -implicitDefEqProofs only [go_sem, b9]
                    refine in_call mixT tDMake1 ?_
                    unfold mDMake1
                    simp -implicitDefEqProofs only [↓fnVC, initTm]
                    simp -implicitDefEqProofs only [go_sem]
                    by_cases hr0 : a.rest.size = 0
                    · have ar : seq a.rest ⟨#[]⟩ = true := seq_emp hr0
                      simp -implicitDefEqProofs only [go_sem, ar]
                      refine at_call tWByte (wByteS (i := 1) (r := 7) (y := 1) (bs := a.bs) (by decide) (by omega) (by rfl) (by rfl) (by decide) (by decide) (by decide) (by decide)) ?_
                      simp -implicitDefEqProofs only [go_sem]
                      refine at_call tWFour (wFourS (i := 1) (r := 10) (y := i) (bs := a.bs ++ be 1 1) (by omega) (by rw [List.length_append, be_len]; omega) (by rfl) (by rfl) (by decide) (by decide) (by decide) (by decide)) ?_
                      simp -implicitDefEqProofs only [go_sem]
                      refine at_call tWTwo (wTwoS (i := 1) (r := 11) (y := k) (bs := a.bs ++ be 1 1 ++ be i 4) (by omega) (by rw [List.length_append, List.length_append, be_len, be_len]; omega) (by rfl) (by rfl) (by decide) (by decide) (by decide) (by decide)) ?_
                      simp -implicitDefEqProofs only [go_sem, w5]
                      refine kLoop_mk (mkStep old text a) ⟨hstep.1, (fin_step hok c1).trans hQ⟩ (by omega) ?_
                      rw [e1, show addB a.rest a.bs = a.bs from if_pos hr0]
                      unfold wrO
                      refine sub_mk [(7, 12)] rfl rfl rfl ?_
                      simp only [tmSub, hpSub, objSub, eqTm, eqHp, rn, lk, SV.ren, SV.renC, SV.renB, SV.renA, ren_ints, ren_strs, ren_pl, ren_svs, SV.v.injEq, Value.int.injEq, Body.ints.injEq, SV.ptr.injEq, SV.sl.injEq, Value.string.injEq, Value.bool.injEq, List.map_cons, List.map_nil, forall_const, Nat.reduceLT, Nat.lt_add_one, imp_self, true_and, and_true, and_self, ob_some, get_mk, lk_cons, ↓reduceIte, Nat.reduceEqDiff, ne_eq, not_true_eq_false, not_false_eq_true, Nat.one_ne_zero, Nat.zero_ne_one, Nat.succ_ne_self, Nat.reduceAdd, Bool.false_eq_true, false_implies, implies_true, reduceCtorEq]
                      rw [ba_zero hr0]
                      repeat' (first | rfl | apply And.intro)
                    have ar : seq a.rest ⟨#[]⟩ = false := seq_nemp hr0
                    simp -implicitDefEqProofs only [go_sem, ar]
                    refine at_call tWByte (wByteS (i := 1) (r := 7) (y := 2) (bs := a.bs) (by decide) (by omega) (by rfl) (by rfl) (by decide) (by decide) (by decide) (by decide)) ?_
                    simp -implicitDefEqProofs only [go_sem]
                    refine at_call tWText (wTextS (i := 1) (r := 10) (s := a.rest) (bs := a.bs ++ be 2 1) (by omega) (by rw [List.length_append, be_len]; omega) (by rfl) (by rfl) (by decide) (by decide) (by decide) (by decide)) ?_
                    have hab : addB a.rest a.bs = a.bs ++ be 2 1 ++ (be a.rest.size 2 ++ bts a.rest) := if_neg hr0
                    have hal : (addB a.rest a.bs).length ≤ a.bs.length + a.rest.size + 3 := by rw [hab]; simp only [List.length_append, be_len, bts_len]; omega
                    have hfin := (fin_step hok c1).trans hQ
                    rw [e1] at hfin hstep
                    rw [← hab]
                    clear hab e1
                    generalize addB a.rest a.bs = ab at hal hstep hfin ⊢
                    simp -implicitDefEqProofs only [go_sem]
                    refine at_call tWByte (wByteS (i := 1) (r := 11) (y := 1) (bs := ab) (by decide) (by omega) (by rfl) (by rfl) (by decide) (by decide) (by decide) (by decide)) ?_
                    simp -implicitDefEqProofs only [go_sem]
                    refine at_call tWFour (wFourS (i := 1) (r := 12) (y := i) (bs := ab ++ be 1 1) (by omega) (by rw [List.length_append, be_len]; omega) (by rfl) (by rfl) (by decide) (by decide) (by decide) (by decide)) ?_
                    simp -implicitDefEqProofs only [go_sem]
                    refine at_call tWTwo (wTwoS (i := 1) (r := 13) (y := k) (bs := ab ++ be 1 1 ++ be i 4) (by omega) (by rw [List.length_append, List.length_append, be_len, be_len]; omega) (by rfl) (by rfl) (by decide) (by decide) (by decide) (by decide)) ?_
                    simp -implicitDefEqProofs only [go_sem, w5]
                    refine kLoop_mk ⟨a.at_ + k, ⟨#[]⟩, ab ++ be 1 1 ++ be i 4 ++ be k 2⟩ ⟨hstep.1, hfin⟩ (by show text.size - (a.at_ + k) < _; omega) ?_
                    unfold wrO
                    refine sub_mk [(7, 14)] rfl rfl rfl ?_
                    simp only [tmSub, hpSub, objSub, eqTm, eqHp, rn, lk, SV.ren, SV.renC, SV.renB, SV.renA, ren_ints, ren_strs, ren_pl, ren_svs, SV.v.injEq, Value.int.injEq, Body.ints.injEq, SV.ptr.injEq, SV.sl.injEq, Value.string.injEq, Value.bool.injEq, List.map_cons, List.map_nil, forall_const, Nat.reduceLT, Nat.lt_add_one, imp_self, true_and, and_true, and_self, ob_some, get_mk, lk_cons, ↓reduceIte, Nat.reduceEqDiff, ne_eq, not_true_eq_false, not_false_eq_true, Nat.one_ne_zero, Nat.zero_ne_one, Nat.succ_ne_self, Nat.reduceAdd, Bool.false_eq_true, false_implies, implies_true, reduceCtorEq]
                    repeat' (first | rfl | apply And.intro)
            · have a5 : decide (((a.at_ + 16 : Nat) : Int) ≤ text.size) = false := decide_eq_false (by omega)
              have hfn : fnP old text a.at_ = (0, 0) := by rw [hfn0, if_neg c4]
              have hk1 : (0 : Nat) < 10 := by decide
              have hk2 : (0 : Nat) ≠ text.size := by omega
              have b1 : decide ((0 : Int) < 10) = true := rfl
              have b2 : decide ((0 : Int) = text.size) = false := decide_eq_false (by omega)
              have e1 : mkStep old text a = ⟨a.at_ + 1, a.rest ++ text.extract a.at_ (a.at_ + 1), a.bs⟩ := by unfold mkStep; rw [hfn]; exact if_pos ⟨hk1, hk2⟩
              have w5 : IntKind.i64.wrap ((a.at_ : Int) + 1) = ((a.at_ + 1 : Nat) : Int) := by rw [wrap_i64 (by omega) (by omega)]; omega
              simp -implicitDefEqProofs only [go_sem, a5, b1, b2, w5]
              refine ⟨⟨by omega, by omega⟩, by rw [ex_size]; omega, ?_⟩
              have hstep := step_ok (old := old) hok c1
              have ha := hstep.1.a
              refine kLoop_mk (mkStep old text a) ⟨hstep.1, (fin_step hok c1).trans hQ⟩ (by omega) ?_
              rw [e1]
              unfold wrO
              refine sub_mk [] rfl rfl rfl ?_
              simp only [tmSub, hpSub, objSub, eqTm, eqHp, rn, lk, SV.ren, SV.renC, SV.renB, SV.renA, ren_ints, ren_strs, ren_pl, ren_svs, SV.v.injEq, Value.int.injEq, Body.ints.injEq, SV.ptr.injEq, SV.sl.injEq, Value.string.injEq, Value.bool.injEq, List.map_cons, List.map_nil, forall_const, Nat.reduceLT, Nat.lt_add_one, imp_self, true_and, and_true, and_self, ob_some, get_mk, lk_cons, ↓reduceIte, Nat.reduceEqDiff, ne_eq, not_true_eq_false, not_false_eq_true, Nat.one_ne_zero, Nat.zero_ne_one, Nat.succ_ne_self, Nat.reduceAdd, Bool.false_eq_true, false_implies, implies_true, reduceCtorEq]
              repeat' (first | rfl | apply And.intro)
        · have hbs := hok.b
          have hra := hok.r
          have haa := hok.a
          have c1 : ¬a.at_ < text.size := by have := of_decide_eq_false c; omega
          have hfin : mkFin old text (mk0 old text) = a := by rw [← hQ, fin_stop c1]
          have hB : mkB old text = addB a.rest a.bs := by unfold mkB; rw [hfin]
          rw [hB]
          simp -implicitDefEqProofs only [go_sem, c]
          refine in_call mixT tDMake1 ?_
          unfold mDMake1
          simp -implicitDefEqProofs only [↓fnVC, initTm]
          simp -implicitDefEqProofs only [go_sem]
          by_cases hr0 : a.rest.size = 0
          · have ar : seq a.rest ⟨#[]⟩ = true := seq_emp hr0
            rw [show addB a.rest a.bs = a.bs from if_pos hr0]
            simp -implicitDefEqProofs only [go_sem, ar]
            refine at_call tWBytes (wBytesS (i := 1) (r := 7) (bs := a.bs) (bad := false) (by rfl) (by rfl) (by decide) rfl) ?_
            rw [if_neg Bool.false_ne_true]
            simp -implicitDefEqProofs only [go_sem]
            refine sub_mk [] rfl rfl rfl ?_
            simp only [tmSub, hpSub, objSub, eqTm, eqHp, rn, lk, SV.ren, SV.renC, SV.renB, SV.renA, ren_ints, ren_strs, ren_pl, ren_svs, SV.v.injEq, Value.int.injEq, Body.ints.injEq, SV.ptr.injEq, SV.sl.injEq, Value.string.injEq, Value.bool.injEq, List.map_cons, List.map_nil, forall_const, Nat.reduceLT, Nat.lt_add_one, imp_self, true_and, and_true, and_self, ob_some, get_mk, lk_cons, ↓reduceIte, Nat.reduceEqDiff, ne_eq, not_true_eq_false, not_false_eq_true, Nat.one_ne_zero, Nat.zero_ne_one, Nat.succ_ne_self, Nat.reduceAdd, Bool.false_eq_true, false_implies, implies_true, reduceCtorEq]
            try trivial
          have ar : seq a.rest ⟨#[]⟩ = false := seq_nemp hr0
          simp -implicitDefEqProofs only [go_sem, ar]
          refine at_call tWByte (wByteS (i := 1) (r := 7) (y := 2) (bs := a.bs) (by decide) (by omega) (by rfl) (by rfl) (by decide) (by decide) (by decide) (by decide)) ?_
          simp -implicitDefEqProofs only [go_sem]
          refine at_call tWText (wTextS (i := 1) (r := 10) (s := a.rest) (bs := a.bs ++ be 2 1) (by omega) (by rw [List.length_append, be_len]; omega) (by rfl) (by rfl) (by decide) (by decide) (by decide) (by decide)) ?_
          rw [show addB a.rest a.bs = a.bs ++ be 2 1 ++ (be a.rest.size 2 ++ bts a.rest) from if_neg hr0]
          simp -implicitDefEqProofs only [go_sem]
          refine at_call tWBytes (wBytesS (i := 1) (r := 11) (bs := a.bs ++ be 2 1 ++ (be a.rest.size 2 ++ bts a.rest)) (bad := false) (by rfl) (by rfl) (by decide) rfl) ?_
          rw [if_neg Bool.false_ne_true]
          simp -implicitDefEqProofs only [go_sem]
          refine sub_mk [] rfl rfl rfl ?_
          simp only [tmSub, hpSub, objSub, eqTm, eqHp, rn, lk, SV.ren, SV.renC, SV.renB, SV.renA, ren_ints, ren_strs, ren_pl, ren_svs, SV.v.injEq, Value.int.injEq, Body.ints.injEq, SV.ptr.injEq, SV.sl.injEq, Value.string.injEq, Value.bool.injEq, List.map_cons, List.map_nil, forall_const, Nat.reduceLT, Nat.lt_add_one, imp_self, true_and, and_true, and_self, ob_some, get_mk, lk_cons, ↓reduceIte, Nat.reduceEqDiff, ne_eq, not_true_eq_false, not_false_eq_true, Nat.one_ne_zero, Nat.zero_ne_one, Nat.succ_ne_self, Nat.reduceAdd, Bool.false_eq_true, false_implies, implies_true, reduceCtorEq]
          try trivial
end
end Go.Sx