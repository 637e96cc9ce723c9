/- Slots: a device's writes and barriers, whatever comes of them. -/
import Derived.Test.YtcgglehgpmehcaaFlashB

set_option linter.unusedVariables false
set_option linter.unusedSimpArgs false
set_option maxRecDepth 100000
namespace Go.Sx
open Go.Proofs
variable {H : Hp} {n : Nat} {x : Nat → Option SO} {d d' : Fd} {i a b c : Nat} {u1 u2 u3 : Bool}

/-- A contract that tells less, under other names. -/
theorem SpecAt.sub {P : Program} {f : Nat} {args : List SV} {v v2 : SV} {H' H2 : Hp} {n' n2 : Nat} (h : SpecAt P f args H n v H' n') (hs : Sub n ⟨[(0, v2)], H2, n2⟩ ⟨[(0, v)], H', n'⟩) : SpecAt P f args H n v2 H2 n2 := by
  intro F w0 w ρ xs hH hz hl
  refine (h F w0 w ρ xs hH hz hl).mono ?_
  rintro e w' ⟨x, ρ1, rfl, hr, hlt, hH1, hx, hn⟩
  obtain ⟨ρ', hR⟩ := hs.sound (N := 1) (ρ0 := ρ) (a := ⟨#[x], []⟩) hH.pos ⟨⟨F, w0, hH1, Sup.refl hH1, trivial⟩, ⟨⟨fun t u hu => by
    simp only [lk] at hu
    split at hu
    · rename_i e; subst e; cases hu; exact ⟨⟨x, rfl, hr⟩, hlt⟩
    · cases hu⟩, rfl, rfl⟩, hx, hn⟩
  obtain ⟨⟨y, hy, hry⟩, hly⟩ := hR.a.t.get 0 v2 rfl
  simp at hy; subst hy
  exact ⟨x, ρ', rfl, hry, hly, hR.h, hR.e, hR.b⟩
def wrT (d : Fd) (k : Int) (s : ByteArray) : Int × Fd := match wrNo d k s with
  | some p => p
  | none => (0, wrD d k.toNat s)
def baT (d : Fd) : Int × Fd := match baNo d with
  | some p => p
  | none => (0, baD d)
theorem wrT_pl {k : Int} {s : ByteArray} {m t : Nat} (hP : Pl d m t) (ht : t < 1000000) : Pl (wrT d k s).2 m (t + 1) := by
  unfold wrT
  cases hw : wrNo d k s with
  | some p => exact (hP.no hw).1
  | none =>
    obtain ⟨h1, ⟨j, rfl, hj⟩, h3, h4⟩ := wrNo_none hw
    exact hP.wr (by rw [← hP.len]; exact hj) h3 h4 ht
theorem baT_pl {m t : Nat} (hP : Pl d m t) (ht : t < 1000000) : Pl (baT d).2 m (t + 1) := by
  unfold baT
  cases hw : baNo d with
  | some p => exact (hP.bno hw).1
  | none => exact hP.ba (baNo_none hw).2 ht
theorem devC : DevAt (hp3 d x) d 1 2 3 4 := ⟨rfl, rfl, rfl, rfl, by decide⟩
def devK (d : Fd) : List (Nat × Option SO) := [(1, some ⟨true, devB d 5 6 7⟩), (2, none), (3, none), (4, none), (5, some ⟨true, secB d.seen⟩), (6, some ⟨true, secB d.safe⟩), (7, some ⟨true, .pl (prow d.pend)⟩)]
theorem wrTc {k : Int} {s : ByteArray} {m t : Nat} (hP : Pl d m t) (ht : t < 1000000) :
    SpecAt Try.prog nFWrite [.ptr 1 0, .v (.int .i64 k), .v (.string s)] (hp3 d x) 5 (.v (.int .i64 (wrT d k s).1)) ⟨devK (wrT d k s).2, x⟩ 8 := by
  unfold wrT
  cases hw : wrNo d k s with
  | some p =>
    obtain ⟨e, d'⟩ := p
    obtain ⟨hP', hr⟩ := hP.no hw
    refine (wrF devC hP.ok hw hr).sub ?_
    refine sub_mk [(5, 2), (6, 3), (7, 4)] rfl rfl rfl ?_
    obtain ⟨h1, h2, h3⟩ := hr
    simp only [devK, devB, secB, hp3, tmSub, hpSub, objSub, eqTm, eqHp, rn, lk, SV.ren, SV.renC, SV.renB, SV.renA, ren_ints, ren_strs, ren_pl, ren_svs, SV.v.injEq, Value.int.injEq, Body.ints.injEq, SV.ptr.injEq, SV.sl.injEq, Value.string.injEq, Value.bool.injEq, List.map_cons, List.map_nil, forall_const, Nat.reduceLT, Nat.lt_add_one, imp_self, true_and, and_true, and_self, ob_some, get_mk, lk_cons, ↓reduceIte, Nat.reduceEqDiff, ne_eq, not_true_eq_false, not_false_eq_true, Nat.one_ne_zero, Nat.zero_ne_one, Nat.succ_ne_self, Nat.reduceAdd, Bool.false_eq_true, false_implies, implies_true, reduceCtorEq, h1, h2, h3]
  | none =>
    obtain ⟨h1, ⟨j, rfl, hj⟩, h3, h4⟩ := wrNo_none hw
    refine (wrW devC hP.ok hj h3 h1 h4 (by decide) rfl).sub ?_
    refine sub_mk [(5, 2), (6, 3), (7, 5)] rfl rfl rfl ?_
    simp only [devK, devB, secB, hp3, tmSub, hpSub, objSub, eqTm, eqHp, rn, lk, SV.ren, SV.renC, SV.renB, SV.renA, ren_ints, ren_strs, ren_pl, ren_svs, SV.v.injEq, Value.int.injEq, Body.ints.injEq, SV.ptr.injEq, SV.sl.injEq, Value.string.injEq, Value.bool.injEq, List.map_cons, List.map_nil, forall_const, Nat.reduceLT, Nat.lt_add_one, imp_self, true_and, and_true, and_self, ob_some, get_mk, lk_cons, ↓reduceIte, Nat.reduceEqDiff, ne_eq, not_true_eq_false, not_false_eq_true, Nat.one_ne_zero, Nat.zero_ne_one, Nat.succ_ne_self, Nat.reduceAdd, Bool.false_eq_true, false_implies, implies_true, reduceCtorEq, Int.toNat_natCast]
theorem wrTS {k : Int} {s : ByteArray} {m t : Nat} (h : DevAt H d i a b c) (hP : Pl d m t) (ht : t < 1000000) (hn : n + 3 ≤ 1000) {e : Int} (hD : wrT d k s = (e, d')) :
    SpecAt Try.prog nFWrite [.ptr i 0, .v (.int .i64 k), .v (.string s)] H n (.v (.int .i64 e))
      ⟨(i, some ⟨true, devB d' n (n + 1) (n + 1 + 1)⟩) :: (a, none) :: (b, none) :: (c, none) :: (n, some ⟨true, secB d'.seen⟩) :: (n + 1, some ⟨true, secB d'.safe⟩) :: (n + 1 + 1, some ⟨true, .pl (prow d'.pend)⟩) :: H.l, H.x⟩ (n + 3) := by
  obtain ⟨hi, ha, hb, hc, ⟨p1, p2, p3, p4⟩, ⟨q1, q2, q3, q4⟩, n1, n2, n3, n4, n5, n6⟩ := h
  have e1 : (wrT d k s).1 = e := by rw [hD]
  have e2 : (wrT d k s).2 = d' := by rw [hD]
  subst e1; subst e2
  have := lift (n := n) (wrTc (x := H.x) (k := k) (s := s) hP ht) [(1, i), (2, a), (3, b), (4, c)] rfl rfl rfl (by omega) rfl rfl
    ⟨sub_wr rfl p1 q1 hi rfl, sub_wr rfl p2 q2 ha rfl, sub_wr rfl p3 q3 hb rfl, sub_wr rfl p4 q4 hc rfl, trivial⟩
    (by simp [devK, devL, apartB, apart1, rn, lk, n1, n2, n3, n4, n5, n6, Ne.symm n1, Ne.symm n2, Ne.symm n3, Ne.symm n4, Ne.symm n5, Ne.symm n6]) (by simp [devK, devL, wrNZ, rn, lk]; omega) (by omega)
  exact this
theorem baTc {m t : Nat} (hP : Pl d m t) (ht : t < 1000000) :
    SpecAt Try.prog nFBarrier [.ptr 1 0] (hp3 d x) 5 (.v (.int .i64 (baT d).1)) ⟨devK (baT d).2, x⟩ 8 := by
  unfold baT
  cases hw : baNo d with
  | some p =>
    obtain ⟨e, d'⟩ := p
    obtain ⟨hP', hr⟩ := hP.bno hw
    refine (baF devC hw).sub ?_
    refine sub_mk [(5, 2), (6, 3), (7, 4)] rfl rfl rfl ?_
    obtain ⟨h1, h2, h3⟩ := hr
    simp only [devK, devB, secB, hp3, tmSub, hpSub, objSub, eqTm, eqHp, rn, lk, SV.ren, SV.renC, SV.renB, SV.renA, ren_ints, ren_strs, ren_pl, ren_svs, SV.v.injEq, Value.int.injEq, Body.ints.injEq, SV.ptr.injEq, SV.sl.injEq, Value.string.injEq, Value.bool.injEq, List.map_cons, List.map_nil, forall_const, Nat.reduceLT, Nat.lt_add_one, imp_self, true_and, and_true, and_self, ob_some, get_mk, lk_cons, ↓reduceIte, Nat.reduceEqDiff, ne_eq, not_true_eq_false, not_false_eq_true, Nat.one_ne_zero, Nat.zero_ne_one, Nat.succ_ne_self, Nat.reduceAdd, Bool.false_eq_true, false_implies, implies_true, reduceCtorEq, h1, h2, h3]
  | none =>
    obtain ⟨h1, h4⟩ := baNo_none hw
    refine (baW devC hP.ok h1 h4 (by decide) rfl).sub ?_
    refine sub_mk [(5, 2), (6, 3), (7, 5)] rfl rfl rfl ?_
    simp only [devK, devB, secB, hp3, tmSub, hpSub, objSub, eqTm, eqHp, rn, lk, SV.ren, SV.renC, SV.renB, SV.renA, ren_ints, ren_strs, ren_pl, ren_svs, SV.v.injEq, Value.int.injEq, Body.ints.injEq, SV.ptr.injEq, SV.sl.injEq, Value.string.injEq, Value.bool.injEq, List.map_cons, List.map_nil, forall_const, Nat.reduceLT, Nat.lt_add_one, imp_self, true_and, and_true, and_self, ob_some, get_mk, lk_cons, ↓reduceIte, Nat.reduceEqDiff, ne_eq, not_true_eq_false, not_false_eq_true, Nat.one_ne_zero, Nat.zero_ne_one, Nat.succ_ne_self, Nat.reduceAdd, Bool.false_eq_true, false_implies, implies_true, reduceCtorEq]
theorem baTS {m t : Nat} (h : DevAt H d i a b c) (hP : Pl d m t) (ht : t < 1000000) (hn : n + 3 ≤ 1000) {e : Int} (hD : baT d = (e, d')) :
    SpecAt Try.prog nFBarrier [.ptr i 0] H n (.v (.int .i64 e))
      ⟨(i, some ⟨true, devB d' n (n + 1) (n + 1 + 1)⟩) :: (a, none) :: (b, none) :: (c, none) :: (n, some ⟨true, secB d'.seen⟩) :: (n + 1, some ⟨true, secB d'.safe⟩) :: (n + 1 + 1, some ⟨true, .pl (prow d'.pend)⟩) :: H.l, H.x⟩ (n + 3) := by
  obtain ⟨hi, ha, hb, hc, ⟨p1, p2, p3, p4⟩, ⟨q1, q2, q3, q4⟩, n1, n2, n3, n4, n5, n6⟩ := h
  have e1 : (baT d).1 = e := by rw [hD]
  have e2 : (baT d).2 = d' := by rw [hD]
  subst e1; subst e2
  have := lift (n := n) (baTc (x := H.x) hP ht) [(1, i), (2, a), (3, b), (4, c)] rfl rfl rfl (by omega) rfl rfl
    ⟨sub_wr rfl p1 q1 hi rfl, sub_wr rfl p2 q2 ha rfl, sub_wr rfl p3 q3 hb rfl, sub_wr rfl p4 q4 hc rfl, trivial⟩
    (by simp [devK, devL, apartB, apart1, rn, lk, n1, n2, n3, n4, n5, n6, Ne.symm n1, Ne.symm n2, Ne.symm n3, Ne.symm n4, Ne.symm n5, Ne.symm n6]) (by simp [devK, devL, wrNZ, rn, lk]; omega) (by omega)
  exact this
end Go.Sx

/- Slots: where they lie, what fits, opening, headers; the steps of a write. -/
set_option linter.unusedVariables false
set_option linter.unusedSimpArgs false
set_option maxRecDepth 100000
namespace Go.Sx
attribute [local go_sem ↓] bind_mk intsB_mk strsB_mk svB_mk fnVC ob_some vc_skip vc_exit vc_ret vc_seq vc_block kSeq_normal kSeq_exit kSeq_ret kBlock_normal kBlock_exit kBlock_ret vc_reg vc_regD vc_cond condK_true condK_false vc_loop kLoop_exit kLoop_ret kRoll_normal kRoll_exit kRoll_ret vcOps_nil vcOps_cons gd_bool gd_undef put_some put_none vcT_fin vcT_pure vcT_act vcT_acts vcT_stop stab_none stab_some stabM_nil stabM_cons stabO_ld stabO_ldn stabO_slP stabO_b2s fldOf_ai fldOf_agg fldOf_ait fldOf_aggt intsOf_nil intsOf_cons strsOf_nil strsOf_cons c_omap ob_if lk_nil lk_cons ev_t ev_k z_mov z_pick z_bin z_binB z_binP z_un z_r2s z_conv z_s2b z_b2s z_allocT aggOf_mk z_boxT z_alloc z_bld z_bldI z_rowI z_rowS z_ld z_ldn z_st z_stn asN_ptr asN_fn z_nilck z_fld z_fadr z_idxA z_idxP z_idxS z_idxV z_slS z_slL z_slP z_mk z_lenS z_lenL z_app appC_ints appC_pl appC_sv appC_strs isS_strs loose_ints loose_pl loose_sv z_slM z_callv callvK_fn callvK_f callvK_yl vc_rangeF rfEnd_eq rfGo_none rfGo_ret rfGo_exit yGo_mk yEnd_n yEnd_r yEnd_e yRdy_mk yMid_n putPs_nil putPs_cons leaf_v leaf_ptr leaf_sl leaf_yl leaf_mp z_appS z_appST z_appZ z_cpyS z_mkfn reps_int reps_str z_rowV z_slnil nilK_zero z_cpy z_call asT_tup z_extT z_box boxOf_ai boxOf_agg boxOf_int boxOf_str boxOf_bool boxOf_ptr boxOf_sl sbin_int sbin_str sbinB_mk sbinP_nn sbinP_pn sbinP_np i_add i_sub i_mul i_quo i_rem i_and i_or i_xor i_andNot i_shl i_shr i_eql i_neq i_lss i_leq i_gtr i_geq st_add st_eql st_neq st_lss st_leq st_gtr st_geq bo_eql bo_neq pt_eql pt_neq un_neg un_xor un_not asI_mk asB_mk asS_mk asP_mk asSl_mk asBy_mk bnd_none bnd_some get_mk hput_mk hdel_mk kill_eq wrOf_eq rowOf_eq rsvs_0 rsvs_1 rsvs_2 rsvs_3 rsv_t rsv_c1 rsv_cn nt_v nt_ptr nt_sl nt_agg nt_ai get_ints get_strs get_pl get_sv getN_ints getN_sv set_ints set_strs set_sv setN_ints setN_sv part_ints part_strs part_sv cat_ints cat_strs cat_sv over_ints over_strs over_sv ones_ints ones_strs evs_nil evs_cons condK_eqt condK_eqf det_callP V_ns V_nn V_gs V_gn obC_mk fresh_ev freshT_ev freshR_ev setN_plagg setN_intsv setN_svai setN_svagg over_intsv set_pl setN_pl setN_plai getN_pl getN_strs part_pl cat_pl over_pl over_plints z_mm
attribute [local go_sem] initTm ne_eq not_true_eq_false not_false_eq_true true_and and_true List.length_cons List.length_nil Int.toNat_natCast Nat.add_zero Nat.zero_add Nat.mul_one List.getElem?_cons_zero List.drop_zero List.take_length List.take_succ_cons List.take_zero List.take_nil List.drop_succ_cons Option.map_some Nat.le_refl implies_true List.getElem?_cons_succ decide_true decide_false Bool.not_true Bool.not_false beq_self_eq_true Nat.succ_ne_self Nat.one_ne_zero Nat.zero_ne_one vk_mk hk_mk nk_mk tok_eq plsOf_map intsOf_map bodyOf_pl bodyOf_ints bodyOf_strs bodyOf_sv part_aggv part_agg part_ai part_int part_str part_bool part_sl part_ptr part_nil numsOf_map u_int u_str u_bool u_pnil u_sl u_ptr u_oci u_ocs evq_nil evq_cons fillS_nil fillS_cons u_ocb ones_pl cells_sv cells_ints cells_strs cells_pl smms_nil smms_cons smm_min smm_max plsOf_nil List.nil_append List.all_cons List.all_nil Bool.and_self Bool.true_and Bool.and_true zws_len zw_len zi_len List.set_cons_zero List.set_cons_succ List.flatMap_cons List.flatMap_nil List.append_nil
section
open Go.Proofs
variable {H : Hp} {n : Nat} {x : Nat → Option SO} {d d' : Fd} {i a b c : Nat} {u1 u2 u3 : Bool}

def slB (D bs r : Nat) : Body := .sv [.ptr D 0, .v (.int .i64 bs), .v (.int .i64 r)]
def slOK (slot : Int) : Bool := decide (slot = 0 ∨ slot = 1)
def atV (bs r : Nat) (slot : Int) : Int := if slot = 1 then bs + (1 + r) else if slot = 0 then bs else 0
theorem satS {D bs r : Nat} {slot : Int} {w : Bool} (hg : H.get i = some ⟨w, slB D bs r⟩) (hb : bs ≤ 4096) (hr : r ≤ 128) :
    SpecAt Try.prog nSAt [.ptr i 0, .v (.int .i64 slot)] H n (.tup [.v (.int .i64 (atV bs r slot)), .v (.bool (slOK slot))]) H n := okT.pure tSAt (by
  unfold mSAt
  unfold slB at hg
  simp -implicitDefEqProofs only [↓fnVC, initTm]
  by_cases h0 : slot = 0
  · subst h0
    have w1 : IntKind.i64.wrap (1 + (r : Int)) = 1 + (r : Int) := wrap_i64 (by omega) (by omega)
    have w2 : IntKind.i64.wrap (0 * (1 + (r : Int))) = 0 := by rw [Int.zero_mul]; rfl
    have w3 : IntKind.i64.wrap ((bs : Int) + 0) = bs := by rw [Int.add_zero]; exact wrap_i64 (by omega) (by omega)
    simp -implicitDefEqProofs only [go_sem, ↓reduceIte, Nat.reduceEqDiff, Nat.reduceAdd, Nat.reduceMul, Nat.reduceLT, Nat.reduceLeDiff, Nat.reduceSub, Int.reduceToNat, Int.reduceLE, Int.reduceLT, reduceCtorEq, Int.reduceEq, Int.reduceGT, Int.reduceGE, Int.reduceNeg, hg, w1, w2, w3]
    rfl
  by_cases h1 : slot = 1
  · subst h1
    have w1 : IntKind.i64.wrap (1 + (r : Int)) = 1 + (r : Int) := wrap_i64 (by omega) (by omega)
    have w2 : IntKind.i64.wrap (1 * (1 + (r : Int))) = 1 + r := by rw [Int.one_mul]; exact w1
    have w3 : IntKind.i64.wrap ((bs : Int) + (1 + r)) = bs + (1 + r) := wrap_i64 (by omega) (by omega)
    simp -implicitDefEqProofs only [go_sem, ↓reduceIte, Nat.reduceEqDiff, Nat.reduceAdd, Nat.reduceMul, Nat.reduceLT, Nat.reduceLeDiff, Nat.reduceSub, Int.reduceToNat, Int.reduceLE, Int.reduceLT, reduceCtorEq, Int.reduceEq, Int.reduceGT, Int.reduceGE, Int.reduceNeg, hg, w1, w2, w3]
    rfl
  · have e1 : slOK slot = false := decide_eq_false (by omega)
    have e2 : atV bs r slot = 0 := by unfold atV; rw [if_neg h1, if_neg h0]
    rw [e1, e2]
    by_cases h2 : slot < 0
    · have a1 := decide_eq_true h2
      simp -implicitDefEqProofs only [go_sem, ↓reduceIte, Nat.reduceEqDiff, Nat.reduceAdd, Nat.reduceMul, Nat.reduceLT, Nat.reduceLeDiff, Nat.reduceSub, Int.reduceToNat, Int.reduceLE, Int.reduceLT, reduceCtorEq, Int.reduceEq, Int.reduceGT, Int.reduceGE, Int.reduceNeg, hg, a1]
    · have a1 := decide_eq_false h2
      have a2 : decide (slot > 1) = true := decide_eq_true (by omega)
      simp -implicitDefEqProofs only [go_sem, ↓reduceIte, Nat.reduceEqDiff, Nat.reduceAdd, Nat.reduceMul, Nat.reduceLT, Nat.reduceLeDiff, Nat.reduceSub, Int.reduceToNat, Int.reduceLE, Int.reduceLT, reduceCtorEq, Int.reduceEq, Int.reduceGT, Int.reduceGE, Int.reduceNeg, hg, a1, a2])
def fitB (r : Nat) (k : Int) : Bool := decide (k ≤ 8192 ∧ k ≤ r * 64)
theorem fitsS {D bs r : Nat} {k : Int} {w : Bool} (hg : H.get i = some ⟨w, slB D bs r⟩) (hr : r ≤ 128) :
    SpecAt Try.prog nSFits [.ptr i 0, .v (.int .i64 k)] H n (.v (.bool (fitB r k))) H n := okT.pure tSFits (by
  unfold mSFits
  unfold slB at hg
  have w1 : IntKind.i64.wrap ((r : Int) * 64) = r * 64 := wrap_i64 (by omega) (by omega)
  simp -implicitDefEqProofs only [↓fnVC, initTm]
  by_cases h0 : k ≤ 8192
  · have a0 := decide_eq_true h0
    have e1 : fitB r k = decide (k ≤ (r : Int) * 64) := by unfold fitB; simp [h0]
    rw [e1]
    simp -implicitDefEqProofs only [go_sem, ↓reduceIte, Nat.reduceEqDiff, Nat.reduceAdd, Nat.reduceMul, Nat.reduceLT, Nat.reduceLeDiff, Nat.reduceSub, Int.reduceToNat, Int.reduceLE, Int.reduceLT, reduceCtorEq, Int.reduceEq, Int.reduceGT, Int.reduceGE, Int.reduceNeg, hg, a0, w1]
  · have a0 := decide_eq_false h0
    have e1 : fitB r k = false := decide_eq_false (by omega)
    rw [e1]
    simp -implicitDefEqProofs only [go_sem, ↓reduceIte, Nat.reduceEqDiff, Nat.reduceAdd, Nat.reduceMul, Nat.reduceLT, Nat.reduceLeDiff, Nat.reduceSub, Int.reduceToNat, Int.reduceLE, Int.reduceLT, reduceCtorEq, Int.reduceEq, Int.reduceGT, Int.reduceGE, Int.reduceNeg, hg, a0])
/-- Is there such a pair on a device of m sectors? -/
def opP (m : Nat) (bs r : Int) : Prop := 0 ≤ bs ∧ 1 ≤ r ∧ r ≤ 128 ∧ bs + 2 * (1 + r) ≤ m
instance {m : Nat} {bs r : Int} : Decidable (opP m bs r) := by unfold opP; infer_instance
theorem openW {bs r : Nat} (hl : d.seen.length ≤ 4096) (hP : opP d.seen.length bs r) (ho : d.off = false) :
    fnVC CT mSOpen [.ptr 1 0, .v (.int .i64 bs), .v (.int .i64 r)] (hp3 d x) 5 fun v H' n' => Sub 5 ⟨[(0, .tup [.ptr 5 0, .v (.int .i64 0)])], ⟨devL d 1 2 3 4 [(5, some ⟨true, slB 1 bs r⟩)], x⟩, 6⟩ ⟨[(0, v)], H', n'⟩ := by
  unfold mSOpen
  unfold opP at hP
  have a0 : decide ((bs : Int) < 0) = false := decide_eq_false (by omega)
  have a1 : decide ((r : Int) < 1) = false := decide_eq_false (by omega)
  have a2 : decide ((r : Int) > 128) = false := decide_eq_false (by omega)
  have w1 : IntKind.i64.wrap (1 + (r : Int)) = 1 + r := wrap_i64 (by omega) (by omega)
  have w2 : IntKind.i64.wrap (2 * (1 + (r : Int))) = 2 * (1 + r) := wrap_i64 (by omega) (by omega)
  have w3 : IntKind.i64.wrap ((d.seen.length : Int) - 2 * (1 + r)) = (d.seen.length : Int) - 2 * (1 + r) := wrap_i64 (by omega) (by omega)
  have a3 : decide ((bs : Int) > (d.seen.length : Int) - 2 * (1 + r)) = false := decide_eq_false (by omega)
  unfold hp3
  simp -implicitDefEqProofs only [↓fnVC, initTm]
  simp -implicitDefEqProofs only [go_sem, ↓reduceIte, Nat.reduceEqDiff, Nat.reduceAdd, Nat.reduceMul, Nat.reduceLT, Nat.reduceLeDiff, Nat.reduceSub, Int.reduceToNat, Int.reduceLE, Int.reduceLT, reduceCtorEq, Int.reduceEq, Int.reduceGT, Int.reduceGE, Int.reduceNeg, a0, a1, a2]
  refine at_call tFSectors (seS (d := d) (a := 2) (b := 3) (c := 4) (by rfl)) ?_
  simp -implicitDefEqProofs only [go_sem, ↓reduceIte, Nat.reduceEqDiff, Nat.reduceAdd, Nat.reduceMul, Nat.reduceLT, Nat.reduceLeDiff, Nat.reduceSub, Int.reduceToNat, Int.reduceLE, Int.reduceLT, reduceCtorEq, Int.reduceEq, Int.reduceGT, Int.reduceGE, Int.reduceNeg, w1, w2, w3, a3]
  refine at_call tFOff (offS (d := d) (a := 2) (b := 3) (c := 4) (by rfl)) ?_
  simp -implicitDefEqProofs only [go_sem, ↓reduceIte, Nat.reduceEqDiff, Nat.reduceAdd, Nat.reduceMul, Nat.reduceLT, Nat.reduceLeDiff, Nat.reduceSub, Int.reduceToNat, Int.reduceLE, Int.reduceLT, reduceCtorEq, Int.reduceEq, Int.reduceGT, Int.reduceGE, Int.reduceNeg, ho]
  refine sub_mk [] rfl rfl rfl ?_
  simp only [tmSub, hpSub, objSub, eqTm, eqHp, rn, lk, SV.ren, SV.renC, SV.renB, SV.renA, ren_ints, ren_strs, ren_pl, ren_svs, SV.v.injEq, Value.int.injEq, Body.ints.injEq, SV.ptr.injEq, SV.sl.injEq, Value.string.injEq, Value.bool.injEq, List.map_cons, List.map_nil, forall_const, Nat.reduceLT, Nat.lt_add_one, imp_self, true_and, and_true, and_self, ob_some, get_mk, lk_cons, ↓reduceIte, Nat.reduceEqDiff, ne_eq, not_true_eq_false, not_false_eq_true, Nat.one_ne_zero, Nat.zero_ne_one, Nat.succ_ne_self, Nat.reduceAdd, Bool.false_eq_true, false_implies, implies_true, reduceCtorEq, slB, devB, devL, secB]
  rfl
theorem openS {bs r : Nat} (h : DevAt H d i a b c) (hl : d.seen.length ≤ 4096) (hP : opP d.seen.length bs r) (ho : d.off = false) (hn : n < 1000) :
    SpecAt Try.prog nSOpen [.ptr i 0, .v (.int .i64 bs), .v (.int .i64 r)] H n (.tup [.ptr n 0, .v (.int .i64 0)]) ⟨devL d i a b c ((n, some ⟨true, slB i bs r⟩) :: H.l), H.x⟩ (n + 1) := by
  obtain ⟨hi, ha, hb, hc, ⟨p1, p2, p3, p4⟩, ⟨q1, q2, q3, q4⟩, n1, n2, n3, n4, n5, n6⟩ := h
  have := lift (n := n) (okT.spec tSOpen (openW (x := H.x) hl hP ho)) [(1, i), (2, a), (3, b), (4, c)] rfl rfl rfl (by omega) rfl rfl
    ⟨sub_wr rfl p1 q1 hi rfl, sub_wr rfl p2 q2 ha rfl, sub_wr rfl p3 q3 hb rfl, sub_wr rfl p4 q4 hc rfl, trivial⟩
    (by simp [apartB, apart1, rn, lk, n1, n2, n3, n4, n5, n6, Ne.symm n1, Ne.symm n2, Ne.symm n3, Ne.symm n4, Ne.symm n5, Ne.symm n6]) (by simp [wrNZ, rn, lk]; omega) (by omega)
  exact this
def hdrL (v : Nat) (I : ByteArray) : List Int := be v 1 ++ be I.size 4 ++ bts (sha (bts I)) ++ be v 1
def hdrT (v : Nat) (I : ByteArray) : ByteArray := tx (hdrL v I)
theorem hdr_size {v : Nat} {I : ByteArray} : (hdrT v I).size = 38 := by
  unfold hdrT hdrL
  simp only [tx_sz, List.length_append, be_len, bts_len, sha_size]
theorem sum1S {i : Nat} {s : ByteArray} (hr : rowAt H i (.strs []) = some (.strs [s])) (hs : s.size ≤ 1073741824) : SpecAt Try.prog 33 [.sl i 0 1 1] H n (.v (.string (sha (bts s)))) H n := by
  have hc : catb (([s].drop 0).take 1) = bts s := by simp [catb]
  have hk := sumS (n := n) (o := 0) (m := 1) hr (by show 0 + 1 ≤ 1; decide) (by decide) (by rw [hc, bts_len]; omega)
  rw [hc] at hk
  exact hk
end
section
/- Slots: a write, step by step. -/
set_option linter.unusedVariables false
set_option linter.unusedSimpArgs false
set_option maxRecDepth 100000
open Go.Proofs
variable {H : Hp} {n : Nat} {x : Nat → Option SO} {d d' : Fd} {i a b c : Nat} {u1 u2 u3 : Bool}

/-- The next step, where there was no error. -/
def thn (p : Int × Fd) (f : Fd → Int × Fd) : Int × Fd := if p.1 = 0 then f p.2 else p
theorem thn_ok {p : Int × Fd} {f : Fd → Int × Fd} (h : p.1 = 0) : thn p f = f p.2 := if_pos h
theorem thn_no {p : Int × Fd} {f : Fd → Int × Fd} (h : p.1 ≠ 0) : thn p f = p := if_neg h
theorem thn_pl {p : Int × Fd} {f : Fd → Int × Fd} {m t : Nat} (hP : Pl p.2 m t) (hf : Pl p.2 m t → Pl (f p.2).2 m (t + 1)) : Pl (thn p f).2 m (t + 1) := by
  unfold thn; split
  · exact hf hP
  · exact hP.more
theorem Pl.mono {k t u : Nat} (h : Pl d k t) (hu : t ≤ u) : Pl d k u := ⟨h.ok, h.len, h.sn, by have := h.st; omega, by have := h.few; omega⟩
/-- A write's chunk. -/
def chk (I : ByteArray) (j : Nat) : ByteArray := I.extract (64 * j) (min (64 * j + 64) I.size)
def cws (at_ : Int) (I : ByteArray) (p : Int × Fd) : Nat → Int × Fd
  | 0 => p
  | j + 1 => thn (cws at_ I p j) fun d => wrT d (at_ + 1 + j) (chk I j)
def nCh (I : ByteArray) : Nat := (I.size + 63) / 64
def p1 (at_ : Int) (d : Fd) : Int × Fd := thn (wrT d at_ ⟨#[]⟩) baT
def pC (at_ : Int) (I : ByteArray) (d : Fd) (j : Nat) : Int × Fd := cws at_ I (p1 at_ d) j
def p2 (at_ : Int) (I : ByteArray) (d : Fd) : Int × Fd := thn (pC at_ I d (nCh I)) baT
def p3 (at_ : Int) (v : Nat) (I : ByteArray) (d : Fd) : Int × Fd := thn (p2 at_ I d) fun d => wrT d at_ (hdrT v I)
def slW (at_ : Int) (v : Nat) (I : ByteArray) (d : Fd) : Int × Fd := thn (p3 at_ v I d) baT
theorem p1_pl {at_ : Int} {m t : Nat} (hP : Pl d m t) (ht : t + 1000 < 1000000) : Pl (p1 at_ d).2 m (t + 2) :=
  thn_pl (wrT_pl hP (by omega)) fun h => baT_pl h (by omega)
theorem pC_pl {at_ : Int} {I : ByteArray} {m t : Nat} (hP : Pl d m t) (ht : t + 1000 < 1000000) : ∀ {j}, j ≤ 200 → Pl (pC at_ I d j).2 m (t + 2 + j)
  | 0, _ => p1_pl hP ht
  | j + 1, h => thn_pl (pC_pl hP ht (by omega)) fun h => wrT_pl h (by show t + 2 + j < 1000000; omega)
theorem nCh_lt {I : ByteArray} {j : Nat} : j < nCh I ↔ 64 * j < I.size := by unfold nCh; omega
theorem nCh_le {I : ByteArray} (h : I.size ≤ 8192) : nCh I ≤ 128 := by unfold nCh; omega
theorem p2_pl {at_ : Int} {I : ByteArray} {m t : Nat} (hP : Pl d m t) (ht : t + 1000 < 1000000) (hI : I.size ≤ 8192) : Pl (p2 at_ I d).2 m (t + 131) := by
  have h1 := pC_pl (at_ := at_) (I := I) hP ht (j := nCh I) (by have := nCh_le hI; omega)
  have h2 := thn_pl h1 (f := baT) fun h => baT_pl h (by have := nCh_le hI; omega)
  exact h2.mono (by have := nCh_le hI; omega)
theorem p3_pl {at_ : Int} {v : Nat} {I : ByteArray} {m t : Nat} (hP : Pl d m t) (ht : t + 1000 < 1000000) (hI : I.size ≤ 8192) : Pl (p3 at_ v I d).2 m (t + 132) :=
  thn_pl (p2_pl hP ht hI) fun h => wrT_pl h (by omega)
theorem slW_pl {at_ : Int} {v : Nat} {I : ByteArray} {m t : Nat} (hP : Pl d m t) (ht : t + 1000 < 1000000) (hI : I.size ≤ 8192) : Pl (slW at_ v I d).2 m (t + 133) :=
  thn_pl (p3_pl hP ht hI) fun h => baT_pl h (by omega)
/-- The heap of a step: the error's cell, the pair's cell, the pair, the device. -/
def stH (e : Int) (d : Fd) (bs r : Nat) (x : Nat → Option SO) : Hp := ⟨(1, some ⟨true, .sv [.v (.int .i64 e)]⟩) :: (2, some ⟨false, .sv [.ptr 3 0]⟩) :: (3, some ⟨false, slB 4 bs r⟩) :: devL d 4 5 6 7 [], x⟩
def stL (e : Int) (d : Fd) : List (Nat × Option SO) := [(1, some ⟨true, .sv [.v (.int .i64 e)]⟩), (4, some ⟨true, devB d 8 9 10⟩), (5, none), (6, none), (7, none), (8, some ⟨true, secB d.seen⟩), (9, some ⟨true, secB d.safe⟩), (10, some ⟨true, .pl (prow d.pend)⟩)]
theorem sw1W {p : Int × Fd} {bs r : Nat} {k : Int} {s : ByteArray} {m t : Nat} (hP : Pl p.2 m t) (ht : t < 1000000) :
    fnVC CT mSWrite1 [.v (.int .i64 k), .v (.string s), .ptr 1 0, .ptr 2 0] (stH p.1 p.2 bs r x) 8 fun v H' n' => Sub 8 ⟨[(0, .tup [])], ⟨stL (thn p fun d => wrT d k s).1 (thn p fun d => wrT d k s).2, x⟩, 11⟩ ⟨[(0, v)], H', n'⟩ := by
  obtain ⟨e, d⟩ := p
  unfold mSWrite1 stH devL slB devB
  simp -implicitDefEqProofs only [↓fnVC, initTm]
  by_cases h0 : e = 0
  · subst h0
    rw [thn_ok rfl]
    simp -implicitDefEqProofs only [go_sem, ↓reduceIte, Nat.reduceEqDiff, Nat.reduceAdd, Nat.reduceMul, Nat.reduceLT, Nat.reduceLeDiff, Nat.reduceSub, Int.reduceToNat, Int.reduceLE, Int.reduceLT, reduceCtorEq, Int.reduceEq, Int.reduceGT, Int.reduceGE, Int.reduceNeg]
    generalize hw : wrT d k s = q
    obtain ⟨e', d'⟩ := q
    refine at_call tFWrite (wrTS (i := 4) (a := 5) (b := 6) (c := 7) (d := d) ⟨by rfl, by rfl, by rfl, by rfl, by decide⟩ hP ht (by decide) hw) ?_
    unfold devB
    simp -implicitDefEqProofs only [go_sem, ↓reduceIte, Nat.reduceEqDiff, Nat.reduceAdd, Nat.reduceMul, Nat.reduceLT, Nat.reduceLeDiff, Nat.reduceSub, Int.reduceToNat, Int.reduceLE, Int.reduceLT, reduceCtorEq, Int.reduceEq, Int.reduceGT, Int.reduceGE, Int.reduceNeg]
    refine sub_mk [] rfl rfl rfl ?_
    simp only [tmSub, hpSub, objSub, eqTm, eqHp, rn, lk, SV.ren, SV.renC, SV.renB, SV.renA, ren_ints, ren_strs, ren_pl, ren_svs, SV.v.injEq, Value.int.injEq, Body.ints.injEq, SV.ptr.injEq, SV.sl.injEq, Value.string.injEq, Value.bool.injEq, List.map_cons, List.map_nil, forall_const, Nat.reduceLT, Nat.lt_add_one, imp_self, true_and, and_true, and_self, ob_some, get_mk, lk_cons, ↓reduceIte, Nat.reduceEqDiff, ne_eq, not_true_eq_false, not_false_eq_true, Nat.one_ne_zero, Nat.zero_ne_one, Nat.succ_ne_self, Nat.reduceAdd, Bool.false_eq_true, false_implies, implies_true, reduceCtorEq, stL, devB]
    exact ⟨rfl, rfl⟩
  · have a0 : decide (e = 0) = false := decide_eq_false h0
    rw [thn_no h0]
    simp -implicitDefEqProofs only [go_sem, ↓reduceIte, Nat.reduceEqDiff, Nat.reduceAdd, Nat.reduceMul, Nat.reduceLT, Nat.reduceLeDiff, Nat.reduceSub, Int.reduceToNat, Int.reduceLE, Int.reduceLT, reduceCtorEq, Int.reduceEq, Int.reduceGT, Int.reduceGE, Int.reduceNeg, a0]
    refine sub_mk [(8, 5), (9, 6), (10, 7)] rfl rfl rfl ?_
    simp only [tmSub, hpSub, objSub, eqTm, eqHp, rn, lk, SV.ren, SV.renC, SV.renB, SV.renA, ren_ints, ren_strs, ren_pl, ren_svs, SV.v.injEq, Value.int.injEq, Body.ints.injEq, SV.ptr.injEq, SV.sl.injEq, Value.string.injEq, Value.bool.injEq, List.map_cons, List.map_nil, forall_const, Nat.reduceLT, Nat.lt_add_one, imp_self, true_and, and_true, and_self, ob_some, get_mk, lk_cons, ↓reduceIte, Nat.reduceEqDiff, ne_eq, not_true_eq_false, not_false_eq_true, Nat.one_ne_zero, Nat.zero_ne_one, Nat.succ_ne_self, Nat.reduceAdd, Bool.false_eq_true, false_implies, implies_true, reduceCtorEq, stL, devB]
    exact ⟨rfl, rfl⟩
theorem sw2W {p : Int × Fd} {bs r : Nat} {m t : Nat} (hP : Pl p.2 m t) (ht : t < 1000000) :
    fnVC CT mSWrite2 [.ptr 1 0, .ptr 2 0] (stH p.1 p.2 bs r x) 8 fun v H' n' => Sub 8 ⟨[(0, .tup [])], ⟨stL (thn p baT).1 (thn p baT).2, x⟩, 11⟩ ⟨[(0, v)], H', n'⟩ := by
  obtain ⟨e, d⟩ := p
  unfold mSWrite2 stH devL slB devB
  simp -implicitDefEqProofs only [↓fnVC, initTm]
  by_cases h0 : e = 0
  · subst h0
    rw [thn_ok rfl]
    simp -implicitDefEqProofs only [go_sem, ↓reduceIte, Nat.reduceEqDiff, Nat.reduceAdd, Nat.reduceMul, Nat.reduceLT, Nat.reduceLeDiff, Nat.reduceSub, Int.reduceToNat, Int.reduceLE, Int.reduceLT, reduceCtorEq, Int.reduceEq, Int.reduceGT, Int.reduceGE, Int.reduceNeg]
    generalize hw : baT d = q
    obtain ⟨e', d'⟩ := q
    refine at_call tFBarrier (baTS (i := 4) (a := 5) (b := 6) (c := 7) (d := d) ⟨by rfl, by rfl, by rfl, by rfl, by decide⟩ hP ht (by decide) hw) ?_
    unfold devB
    simp -implicitDefEqProofs only [go_sem, ↓reduceIte, Nat.reduceEqDiff, Nat.reduceAdd, Nat.reduceMul, Nat.reduceLT, Nat.reduceLeDiff, Nat.reduceSub, Int.reduceToNat, Int.reduceLE, Int.reduceLT, reduceCtorEq, Int.reduceEq, Int.reduceGT, Int.reduceGE, Int.reduceNeg]
    refine sub_mk [] rfl rfl rfl ?_
    simp only [tmSub, hpSub, objSub, eqTm, eqHp, rn, lk, SV.ren, SV.renC, SV.renB, SV.renA, ren_ints, ren_strs, ren_pl, ren_svs, SV.v.injEq, Value.int.injEq, Body.ints.injEq, SV.ptr.injEq, SV.sl.injEq, Value.string.injEq, Value.bool.injEq, List.map_cons, List.map_nil, forall_const, Nat.reduceLT, Nat.lt_add_one, imp_self, true_and, and_true, and_self, ob_some, get_mk, lk_cons, ↓reduceIte, Nat.reduceEqDiff, ne_eq, not_true_eq_false, not_false_eq_true, Nat.one_ne_zero, Nat.zero_ne_one, Nat.succ_ne_self, Nat.reduceAdd, Bool.false_eq_true, false_implies, implies_true, reduceCtorEq, stL, devB]
    exact ⟨rfl, rfl⟩
  · have a0 : decide (e = 0) = false := decide_eq_false h0
    rw [thn_no h0]
    simp -implicitDefEqProofs only [go_sem, ↓reduceIte, Nat.reduceEqDiff, Nat.reduceAdd, Nat.reduceMul, Nat.reduceLT, Nat.reduceLeDiff, Nat.reduceSub, Int.reduceToNat, Int.reduceLE, Int.reduceLT, reduceCtorEq, Int.reduceEq, Int.reduceGT, Int.reduceGE, Int.reduceNeg, a0]
    refine sub_mk [(8, 5), (9, 6), (10, 7)] rfl rfl rfl ?_
    simp only [tmSub, hpSub, objSub, eqTm, eqHp, rn, lk, SV.ren, SV.renC, SV.renB, SV.renA, ren_ints, ren_strs, ren_pl, ren_svs, SV.v.injEq, Value.int.injEq, Body.ints.injEq, SV.ptr.injEq, SV.sl.injEq, Value.string.injEq, Value.bool.injEq, List.map_cons, List.map_nil, forall_const, Nat.reduceLT, Nat.lt_add_one, imp_self, true_and, and_true, and_self, ob_some, get_mk, lk_cons, ↓reduceIte, Nat.reduceEqDiff, ne_eq, not_true_eq_false, not_false_eq_true, Nat.one_ne_zero, Nat.zero_ne_one, Nat.succ_ne_self, Nat.reduceAdd, Bool.false_eq_true, false_implies, implies_true, reduceCtorEq, stL, devB]
    exact ⟨rfl, rfl⟩
structure StAt (H : Hp) (e : Int) (d : Fd) (bs r j1 j2 j3 i a b c : Nat) : Prop where
  g1 : H.get j1 = some ⟨true, .sv [.v (.int .i64 e)]⟩
  g2 : ∃ w, H.get j2 = some ⟨w, .sv [.ptr j3 0]⟩
  g3 : ∃ w, H.get j3 = some ⟨w, slB i bs r⟩
  gi : H.get i = some ⟨true, devB d a b c⟩
  ga : H.get a = some ⟨true, secB d.seen⟩
  gb : H.get b = some ⟨true, secB d.safe⟩
  gc : H.get c = some ⟨true, .pl (prow d.pend)⟩
  ne : ([j1, j2, j3, i, a, b, c].all fun k => decide (0 < k ∧ k < 1000)) = true
  ap : ∀ x, apartB [(1, j1), (2, j2), (3, j3), (4, i), (5, a), (6, b), (7, c)] (stH e d bs r x).l (stH e d bs r x).l = true
  nz : ∀ x, wrNZ [(1, j1), (2, j2), (3, j3), (4, i), (5, a), (6, b), (7, c)] (stH e d bs r x).l = true
theorem StAt.sub {e : Int} {bs r j1 j2 j3 : Nat} (h : StAt H e d bs r j1 j2 j3 i a b c) : hpSub [(1, j1), (2, j2), (3, j3), (4, i), (5, a), (6, b), (7, c)] H (stH e d bs r H.x).l := by
  obtain ⟨g1, ⟨w2, g2⟩, ⟨w3, g3⟩, gi, ga, gb, gc, hp, _, _⟩ := h
  simp at hp
  exact ⟨sub_wr rfl hp.1.1 hp.1.2 g1 rfl, sub_ro rfl hp.2.1.1 g2 rfl, sub_ro rfl hp.2.2.1.1 g3 rfl, sub_wr rfl hp.2.2.2.1.1 hp.2.2.2.1.2 gi rfl, sub_wr rfl hp.2.2.2.2.1.1 hp.2.2.2.2.1.2 ga rfl, sub_wr rfl hp.2.2.2.2.2.1.1 hp.2.2.2.2.2.1.2 gb rfl, sub_wr rfl hp.2.2.2.2.2.2.1 hp.2.2.2.2.2.2.2 gc rfl, trivial⟩
def stF (e : Int) (d : Fd) (n j1 i a b c : Nat) (l : List (Nat × Option SO)) : List (Nat × Option SO) := (j1, some ⟨true, .sv [.v (.int .i64 e)]⟩) :: (i, some ⟨true, devB d n (n + 1) (n + 1 + 1)⟩) :: (a, none) :: (b, none) :: (c, none) :: (n, some ⟨true, secB d.seen⟩) :: (n + 1, some ⟨true, secB d.safe⟩) :: (n + 1 + 1, some ⟨true, .pl (prow d.pend)⟩) :: l
theorem stF_eq {e : Int} {d : Fd} {n j1 i a b c : Nat} {l : List (Nat × Option SO)} : stF e d n j1 i a b c l = (j1, some ⟨true, .sv [.v (.int .i64 e)]⟩) :: (i, some ⟨true, devB d n (n + 1) (n + 1 + 1)⟩) :: (a, none) :: (b, none) :: (c, none) :: (n, some ⟨true, secB d.seen⟩) :: (n + 1, some ⟨true, secB d.safe⟩) :: (n + 1 + 1, some ⟨true, .pl (prow d.pend)⟩) :: l := rfl
theorem sw1S {p q : Int × Fd} {bs r j1 j2 j3 : Nat} {k : Int} {s : ByteArray} {m t : Nat} (h : StAt H p.1 p.2 bs r j1 j2 j3 i a b c) (hP : Pl p.2 m t) (ht : t < 1000000) (hn : n + 3 ≤ 1000) (hq : (thn p fun d => wrT d k s) = q) :
    SpecAt Try.prog nSWrite1 [.v (.int .i64 k), .v (.string s), .ptr j1 0, .ptr j2 0] H n (.tup []) ⟨stF q.1 q.2 n j1 i a b c H.l, H.x⟩ (n + 3) := by
  subst hq
  have := lift (n := n) (okT.spec tSWrite1 (sw1W (x := H.x) (bs := bs) (r := r) (k := k) (s := s) hP ht)) [(1, j1), (2, j2), (3, j3), (4, i), (5, a), (6, b), (7, c)] rfl rfl rfl (by omega) rfl rfl h.sub
    (h.ap H.x) (h.nz H.x) (by omega)
  exact this
theorem sw2S {p q : Int × Fd} {bs r j1 j2 j3 : Nat} {m t : Nat} (h : StAt H p.1 p.2 bs r j1 j2 j3 i a b c) (hP : Pl p.2 m t) (ht : t < 1000000) (hn : n + 3 ≤ 1000) (hq : thn p baT = q) :
    SpecAt Try.prog nSWrite2 [.ptr j1 0, .ptr j2 0] H n (.tup []) ⟨stF q.1 q.2 n j1 i a b c H.l, H.x⟩ (n + 3) := by
  subst hq
  have := lift (n := n) (okT.spec tSWrite2 (sw2W (x := H.x) (bs := bs) (r := r) hP ht)) [(1, j1), (2, j2), (3, j3), (4, i), (5, a), (6, b), (7, c)] rfl rfl rfl (by omega) rfl rfl h.sub
    (h.ap H.x) (h.nz H.x) (by omega)
  exact this
end
section
/- Slots: the program's Write. -/
set_option linter.unusedVariables false
set_option linter.unusedSimpArgs false
set_option maxRecDepth 100000
open Go.Proofs
variable {H : Hp} {n : Nat} {x : Nat → Option SO} {d d' : Fd} {i a b c : Nat} {u1 u2 u3 : Bool}

/-- Is a write taken up at all? Else its error. -/
def swE (r : Nat) (slot ver : Int) (I : ByteArray) : Int := if slOK slot = false ∨ ver < 1 ∨ 255 < ver ∨ I = ⟨#[]⟩ then 1 else if 8192 < I.size ∨ r * 64 < I.size then 4 else 0
def swR (bs r : Nat) (slot ver : Int) (I : ByteArray) (d : Fd) : Int × Fd := if swE r slot ver I = 0 then slW (atV bs r slot) ver.toNat I d else (swE r slot ver I, d)
def swH (d : Fd) (bs r : Nat) (x : Nat → Option SO) : Hp := ⟨(1, some ⟨false, slB 2 bs r⟩) :: devL d 2 3 4 5 [], x⟩
def swL (d : Fd) : List (Nat × Option SO) := [(2, some ⟨true, devB d 6 7 8⟩), (3, none), (4, none), (5, none), (6, some ⟨true, secB d.seen⟩), (7, some ⟨true, secB d.safe⟩), (8, some ⟨true, .pl (prow d.pend)⟩)]
theorem swriteW {bs r : Nat} {slot ver : Int} {I : ByteArray} {m t : Nat} (hb : bs ≤ 4096) (hr : r ≤ 128) (hP : Pl d m t) (ht : t + 1000 < 1000000) :
    fnVC CT mSWrite [.ptr 1 0, .v (.int .i64 slot), .v (.int .i64 ver), .v (.string I)] (swH d bs r x) 6 fun v H' n' => Sub 6 ⟨[(0, .v (.int .i64 (swR bs r slot ver I d).1))], ⟨swL (swR bs r slot ver I d).2, x⟩, 9⟩ ⟨[(0, v)], H', n'⟩ := by
  unfold mSWrite swH devL devB slB
  simp -implicitDefEqProofs only [↓fnVC, initTm]
  simp -implicitDefEqProofs only [go_sem, ↓reduceIte, Nat.reduceEqDiff, Nat.reduceAdd, Nat.reduceMul, Nat.reduceLT, Nat.reduceLeDiff, Nat.reduceSub, Int.reduceToNat, Int.reduceLE, Int.reduceLT, reduceCtorEq, Int.reduceEq, Int.reduceGT, Int.reduceGE, Int.reduceNeg]
  refine at_call tSAt (satS (i := 1) (D := 2) (bs := bs) (r := r) (by rfl) hb hr) ?_
  have bad : ∀ e, e ≠ 0 → swE r slot ver I = e → swR bs r slot ver I d = (e, d) := fun e he h => by unfold swR; rw [h, if_neg he]
  by_cases h0 : slOK slot = false
  · rw [bad 1 (by decide) (if_pos (.inl h0))]
    simp -implicitDefEqProofs only [go_sem, ↓reduceIte, Nat.reduceEqDiff, Nat.reduceAdd, Nat.reduceMul, Nat.reduceLT, Nat.reduceLeDiff, Nat.reduceSub, Int.reduceToNat, Int.reduceLE, Int.reduceLT, reduceCtorEq, Int.reduceEq, Int.reduceGT, Int.reduceGE, Int.reduceNeg, h0]
    refine sub_mk [(6, 3), (7, 4), (8, 5)] rfl rfl rfl ?_
    simp only [tmSub, hpSub, objSub, eqTm, eqHp, rn, lk, SV.ren, SV.renC, SV.renB, SV.renA, ren_ints, ren_strs, ren_pl, ren_svs, SV.v.injEq, Value.int.injEq, Body.ints.injEq, SV.ptr.injEq, SV.sl.injEq, Value.string.injEq, Value.bool.injEq, List.map_cons, List.map_nil, forall_const, Nat.reduceLT, Nat.lt_add_one, imp_self, true_and, and_true, and_self, ob_some, get_mk, lk_cons, ↓reduceIte, Nat.reduceEqDiff, ne_eq, not_true_eq_false, not_false_eq_true, Nat.one_ne_zero, Nat.zero_ne_one, Nat.succ_ne_self, Nat.reduceAdd, Bool.false_eq_true, false_implies, implies_true, reduceCtorEq, swL, devB]
    exact ⟨rfl, rfl⟩
  have b0 : slOK slot = true := by simpa using h0
  by_cases h1 : ver < 1
  · have a1 := decide_eq_true h1
    rw [bad 1 (by decide) (if_pos (.inr (.inl h1)))]
    simp -implicitDefEqProofs only [go_sem, ↓reduceIte, Nat.reduceEqDiff, Nat.reduceAdd, Nat.reduceMul, Nat.reduceLT, Nat.reduceLeDiff, Nat.reduceSub, Int.reduceToNat, Int.reduceLE, Int.reduceLT, reduceCtorEq, Int.reduceEq, Int.reduceGT, Int.reduceGE, Int.reduceNeg, b0, a1]
    refine sub_mk [(6, 3), (7, 4), (8, 5)] rfl rfl rfl ?_
    simp only [tmSub, hpSub, objSub, eqTm, eqHp, rn, lk, SV.ren, SV.renC, SV.renB, SV.renA, ren_ints, ren_strs, ren_pl, ren_svs, SV.v.injEq, Value.int.injEq, Body.ints.injEq, SV.ptr.injEq, SV.sl.injEq, Value.string.injEq, Value.bool.injEq, List.map_cons, List.map_nil, forall_const, Nat.reduceLT, Nat.lt_add_one, imp_self, true_and, and_true, and_self, ob_some, get_mk, lk_cons, ↓reduceIte, Nat.reduceEqDiff, ne_eq, not_true_eq_false, not_false_eq_true, Nat.one_ne_zero, Nat.zero_ne_one, Nat.succ_ne_self, Nat.reduceAdd, Bool.false_eq_true, false_implies, implies_true, reduceCtorEq, swL, devB]
    exact ⟨rfl, rfl⟩
  have a1 := decide_eq_false h1
  by_cases h2 : ver > 255
  · have a2 := decide_eq_true h2
    rw [bad 1 (by decide) (if_pos (.inr (.inr (.inl h2))))]
    simp -implicitDefEqProofs only [go_sem, ↓reduceIte, Nat.reduceEqDiff, Nat.reduceAdd, Nat.reduceMul, Nat.reduceLT, Nat.reduceLeDiff, Nat.reduceSub, Int.reduceToNat, Int.reduceLE, Int.reduceLT, reduceCtorEq, Int.reduceEq, Int.reduceGT, Int.reduceGE, Int.reduceNeg, b0, a1, a2]
    refine sub_mk [(6, 3), (7, 4), (8, 5)] rfl rfl rfl ?_
    simp only [tmSub, hpSub, objSub, eqTm, eqHp, rn, lk, SV.ren, SV.renC, SV.renB, SV.renA, ren_ints, ren_strs, ren_pl, ren_svs, SV.v.injEq, Value.int.injEq, Body.ints.injEq, SV.ptr.injEq, SV.sl.injEq, Value.string.injEq, Value.bool.injEq, List.map_cons, List.map_nil, forall_const, Nat.reduceLT, Nat.lt_add_one, imp_self, true_and, and_true, and_self, ob_some, get_mk, lk_cons, ↓reduceIte, Nat.reduceEqDiff, ne_eq, not_true_eq_false, not_false_eq_true, Nat.one_ne_zero, Nat.zero_ne_one, Nat.succ_ne_self, Nat.reduceAdd, Bool.false_eq_true, false_implies, implies_true, reduceCtorEq, swL, devB]
    exact ⟨rfl, rfl⟩
  have a2 := decide_eq_false h2
  by_cases h3 : I = ⟨#[]⟩
  · have a3 : seq I ⟨#[]⟩ = true := by rw [h3]; exact seq_self _
    rw [bad 1 (by decide) (if_pos (.inr (.inr (.inr h3))))]
    simp -implicitDefEqProofs only [go_sem, ↓reduceIte, Nat.reduceEqDiff, Nat.reduceAdd, Nat.reduceMul, Nat.reduceLT, Nat.reduceLeDiff, Nat.reduceSub, Int.reduceToNat, Int.reduceLE, Int.reduceLT, reduceCtorEq, Int.reduceEq, Int.reduceGT, Int.reduceGE, Int.reduceNeg, b0, a1, a2, a3]
    refine sub_mk [(6, 3), (7, 4), (8, 5)] rfl rfl rfl ?_
    simp only [tmSub, hpSub, objSub, eqTm, eqHp, rn, lk, SV.ren, SV.renC, SV.renB, SV.renA, ren_ints, ren_strs, ren_pl, ren_svs, SV.v.injEq, Value.int.injEq, Body.ints.injEq, SV.ptr.injEq, SV.sl.injEq, Value.string.injEq, Value.bool.injEq, List.map_cons, List.map_nil, forall_const, Nat.reduceLT, Nat.lt_add_one, imp_self, true_and, and_true, and_self, ob_some, get_mk, lk_cons, ↓reduceIte, Nat.reduceEqDiff, ne_eq, not_true_eq_false, not_false_eq_true, Nat.one_ne_zero, Nat.zero_ne_one, Nat.succ_ne_self, Nat.reduceAdd, Bool.false_eq_true, false_implies, implies_true, reduceCtorEq, swL, devB]
    exact ⟨rfl, rfl⟩
  have a3 : seq I ⟨#[]⟩ = false := seq_ne h3
  simp -implicitDefEqProofs only [go_sem, ↓reduceIte, Nat.reduceEqDiff, Nat.reduceAdd, Nat.reduceMul, Nat.reduceLT, Nat.reduceLeDiff, Nat.reduceSub, Int.reduceToNat, Int.reduceLE, Int.reduceLT, reduceCtorEq, Int.reduceEq, Int.reduceGT, Int.reduceGE, Int.reduceNeg, b0, a1, a2, a3]
  refine at_call tSFits (fitsS (i := 1) (D := 2) (bs := bs) (r := r) (by rfl) hr) ?_
  by_cases h4 : 8192 < I.size ∨ r * 64 < I.size
  · have a4 : fitB r (I.size : Int) = false := decide_eq_false (by omega)
    rw [bad 4 (by decide) (by unfold swE; rw [if_neg (by simp [b0, h1, h3]; omega), if_pos h4])]
    simp -implicitDefEqProofs only [go_sem, ↓reduceIte, Nat.reduceEqDiff, Nat.reduceAdd, Nat.reduceMul, Nat.reduceLT, Nat.reduceLeDiff, Nat.reduceSub, Int.reduceToNat, Int.reduceLE, Int.reduceLT, reduceCtorEq, Int.reduceEq, Int.reduceGT, Int.reduceGE, Int.reduceNeg, a4]
    refine sub_mk [(6, 3), (7, 4), (8, 5)] rfl rfl rfl ?_
    simp only [tmSub, hpSub, objSub, eqTm, eqHp, rn, lk, SV.ren, SV.renC, SV.renB, SV.renA, ren_ints, ren_strs, ren_pl, ren_svs, SV.v.injEq, Value.int.injEq, Body.ints.injEq, SV.ptr.injEq, SV.sl.injEq, Value.string.injEq, Value.bool.injEq, List.map_cons, List.map_nil, forall_const, Nat.reduceLT, Nat.lt_add_one, imp_self, true_and, and_true, and_self, ob_some, get_mk, lk_cons, ↓reduceIte, Nat.reduceEqDiff, ne_eq, not_true_eq_false, not_false_eq_true, Nat.one_ne_zero, Nat.zero_ne_one, Nat.succ_ne_self, Nat.reduceAdd, Bool.false_eq_true, false_implies, implies_true, reduceCtorEq, swL, devB]
    exact ⟨rfl, rfl⟩
  have a4 : fitB r (I.size : Int) = true := decide_eq_true (by omega)
  have good : swE r slot ver I = 0 := by unfold swE; rw [if_neg (by simp [b0, h1, h3]; omega), if_neg h4]
  obtain ⟨ver, rfl⟩ : ∃ k : Nat, ver = k := ⟨ver.toNat, by omega⟩
  have hgood : swR bs r slot ver I d = slW (atV bs r slot) ver I d := by unfold swR; rw [if_pos good, Int.toNat_natCast]
  rw [hgood]
  clear bad good hgood
  have hI : I.size ≤ 8192 := by omega
  have hat : 0 ≤ atV bs r slot ∧ atV bs r slot ≤ 4300 := by unfold atV; split <;> (try split) <;> omega
  generalize atV bs r slot = at_ at hat ⊢
  simp -implicitDefEqProofs only [go_sem, ↓reduceIte, Nat.reduceEqDiff, Nat.reduceAdd, Nat.reduceMul, Nat.reduceLT, Nat.reduceLeDiff, Nat.reduceSub, Int.reduceToNat, Int.reduceLE, Int.reduceLT, reduceCtorEq, Int.reduceEq, Int.reduceGT, Int.reduceGE, Int.reduceNeg, a4]
  refine in_call mixT tWByte ?_
  unfold mWByte
  simp -implicitDefEqProofs only [↓fnVC, initTm]
  simp -implicitDefEqProofs only [go_sem, ↓reduceIte, Nat.reduceEqDiff, Nat.reduceAdd, Nat.reduceMul, Nat.reduceLT, Nat.reduceLeDiff, Nat.reduceSub, Int.reduceToNat, Int.reduceLE, Int.reduceLT, reduceCtorEq, Int.reduceEq, Int.reduceGT, Int.reduceGE, Int.reduceNeg]
  refine at_call tWNumber (wNum0S (i := 7) (y := ver) (k := 1) (bad := false) (by rfl) (by decide) (by decide) (by decide) (by omega) (fun _ => by omega)) ?_
  simp -implicitDefEqProofs only [go_sem, ↓reduceIte, Nat.reduceEqDiff, Nat.reduceAdd, Nat.reduceMul, Nat.reduceLT, Nat.reduceLeDiff, Nat.reduceSub, Int.reduceToNat, Int.reduceLE, Int.reduceLT, reduceCtorEq, Int.reduceEq, Int.reduceGT, Int.reduceGE, Int.reduceNeg]
  refine in_call mixT tWFour ?_
  unfold mWFour
  simp -implicitDefEqProofs only [↓fnVC, initTm]
  simp -implicitDefEqProofs only [go_sem, ↓reduceIte, Nat.reduceEqDiff, Nat.reduceAdd, Nat.reduceMul, Nat.reduceLT, Nat.reduceLeDiff, Nat.reduceSub, Int.reduceToNat, Int.reduceLE, Int.reduceLT, reduceCtorEq, Int.reduceEq, Int.reduceGT, Int.reduceGE, Int.reduceNeg]
  refine at_call tWNumber (wNumS (i := 7) (r := 8) (y := I.size) (k := 4) (bs := be ver 1) (bad := false) (by rfl) (by rfl) (by decide) (by decide) (by decide) (by decide) (by decide) (by omega) (fun _ => by omega) (by rw [be_len]; decide)) ?_
  simp -implicitDefEqProofs only [go_sem, ↓reduceIte, Nat.reduceEqDiff, Nat.reduceAdd, Nat.reduceMul, Nat.reduceLT, Nat.reduceLeDiff, Nat.reduceSub, Int.reduceToNat, Int.reduceLE, Int.reduceLT, reduceCtorEq, Int.reduceEq, Int.reduceGT, Int.reduceGE, Int.reduceNeg]
  refine at_call t9 (sum1S (s := I) (by rfl) (by omega)) ?_
  simp -implicitDefEqProofs only [go_sem, ↓reduceIte, Nat.reduceEqDiff, Nat.reduceAdd, Nat.reduceMul, Nat.reduceLT, Nat.reduceLeDiff, Nat.reduceSub, Int.reduceToNat, Int.reduceLE, Int.reduceLT, reduceCtorEq, Int.reduceEq, Int.reduceGT, Int.reduceGE, Int.reduceNeg]
  refine at_call tWHash (wHashS (i := 7) (r := 9) (h := sha (bts I)) (bs := be ver 1 ++ be I.size 4) (bad := false) (by rfl) (by rfl) (by decide) (by decide) (by decide) (by decide) (by simp only [List.length_append, be_len]; decide) (by rw [sha_size]; decide)) ?_
  simp -implicitDefEqProofs only [go_sem, ↓reduceIte, Nat.reduceEqDiff, Nat.reduceAdd, Nat.reduceMul, Nat.reduceLT, Nat.reduceLeDiff, Nat.reduceSub, Int.reduceToNat, Int.reduceLE, Int.reduceLT, reduceCtorEq, Int.reduceEq, Int.reduceGT, Int.reduceGE, Int.reduceNeg]
  refine in_call mixT tWByte ?_
  unfold mWByte
  simp -implicitDefEqProofs only [↓fnVC, initTm]
  simp -implicitDefEqProofs only [go_sem, ↓reduceIte, Nat.reduceEqDiff, Nat.reduceAdd, Nat.reduceMul, Nat.reduceLT, Nat.reduceLeDiff, Nat.reduceSub, Int.reduceToNat, Int.reduceLE, Int.reduceLT, reduceCtorEq, Int.reduceEq, Int.reduceGT, Int.reduceGE, Int.reduceNeg]
  refine at_call tWNumber (wNumS (i := 7) (r := 11) (y := ver) (k := 1) (bs := be ver 1 ++ be I.size 4 ++ bts (sha (bts I))) (bad := (false || decide ((sha (bts I)).size ≠ 32))) (by rfl) (by rfl) (by decide) (by decide) (by decide) (by decide) (by decide) (by omega) (fun _ => by omega) (by simp only [List.length_append, be_len, bts_len, sha_size]; decide)) ?_
  simp -implicitDefEqProofs only [go_sem, ↓reduceIte, Nat.reduceEqDiff, Nat.reduceAdd, Nat.reduceMul, Nat.reduceLT, Nat.reduceLeDiff, Nat.reduceSub, Int.reduceToNat, Int.reduceLE, Int.reduceLT, reduceCtorEq, Int.reduceEq, Int.reduceGT, Int.reduceGE, Int.reduceNeg]
  refine at_call tWBytes (wBytesS (i := 7) (r := 12) (bs := be ver 1 ++ be I.size 4 ++ bts (sha (bts I)) ++ be ver 1) (bad := (false || decide ((sha (bts I)).size ≠ 32))) (by rfl) (by rfl) (by decide) rfl) ?_
  have e0 : (false || decide ((sha (bts I)).size ≠ 32)) = false := by rw [sha_size]; rfl
  rw [e0, if_neg Bool.false_ne_true]
  have eh : tx (be ver 1 ++ be I.size 4 ++ bts (sha (bts I)) ++ be ver 1) = hdrT ver I := rfl
  rw [eh]
  simp -implicitDefEqProofs only [go_sem, ↓reduceIte, Nat.reduceEqDiff, Nat.reduceAdd, Nat.reduceMul, Nat.reduceLT, Nat.reduceLeDiff, Nat.reduceSub, Int.reduceToNat, Int.reduceLE, Int.reduceLT, reduceCtorEq, Int.reduceEq, Int.reduceGT, Int.reduceGE, Int.reduceNeg, List.isEmpty_cons, Bool.false_eq_true, if_false]
  refine at_call tSWrite1 (sw1S (p := (0, d)) (bs := bs) (r := r) (j1 := 13) (j2 := 6) (j3 := 1) (i := 2) (a := 3) (b := 4) (c := 5) ⟨by rfl, ⟨_, by rfl⟩, ⟨_, by rfl⟩, by rfl, by rfl, by rfl, by rfl, by decide, fun _ => rfl, fun _ => rfl⟩ hP (by omega) (by decide) rfl) ?_
  rw [thn_ok rfl, stF_eq]
  simp -implicitDefEqProofs only [go_sem, ↓reduceIte, Nat.reduceEqDiff, Nat.reduceAdd, Nat.reduceMul, Nat.reduceLT, Nat.reduceLeDiff, Nat.reduceSub, Int.reduceToNat, Int.reduceLE, Int.reduceLT, reduceCtorEq, Int.reduceEq, Int.reduceGT, Int.reduceGE, Int.reduceNeg, List.isEmpty_cons, Bool.false_eq_true, if_false, devB]
  refine at_call tSWrite2 (sw2S (p := wrT d at_ ⟨#[]⟩) (bs := bs) (r := r) (j1 := 13) (j2 := 6) (j3 := 1) (i := 2) (a := 14) (b := 15) (c := 16) ⟨by rfl, ⟨_, by rfl⟩, ⟨_, by rfl⟩, by rfl, by rfl, by rfl, by rfl, by decide, fun _ => rfl, fun _ => rfl⟩ (wrT_pl hP (by omega)) (by omega) (by decide) rfl) ?_
  rw [stF_eq, show thn (wrT d at_ ⟨#[]⟩) baT = pC at_ I d 0 from rfl]
  simp -implicitDefEqProofs only [go_sem, ↓reduceIte, Nat.reduceEqDiff, Nat.reduceAdd, Nat.reduceMul, Nat.reduceLT, Nat.reduceLeDiff, Nat.reduceSub, Int.reduceToNat, Int.reduceLE, Int.reduceLT, reduceCtorEq, Int.reduceEq, Int.reduceGT, Int.reduceGE, Int.reduceNeg, List.isEmpty_cons, Bool.false_eq_true, if_false, devB]
  have hC := fun j (h : j ≤ nCh I) => pC_pl (at_ := at_) (I := I) hP ht (j := j) (by have := nCh_le hI; omega)
  have hN := nCh_le hI
  refine loop_fam (fun (j : Nat) => j ≤ nCh I)
    (fun j => ⟨[(2, .v (.int .i64 ver)), (3, .v (.string I)), (9, .v (.int .i64 at_)), (12, .v (.string (hdrT ver I))), (14, .ptr 13 0), (15, .fn 35 [.ptr 13 0, .ptr 6 0]), (16, .fn 36 [.ptr 13 0, .ptr 6 0]), (17, .v (.int .i64 j))], ⟨[(1, some ⟨false, slB 2 bs r⟩), (2, some ⟨true, devB (pC at_ I d j).2 17 18 19⟩), (6, some ⟨true, .sv [.ptr 1 0]⟩), (13, some ⟨true, .sv [.v (.int .i64 (pC at_ I d j).1)]⟩), (17, some ⟨true, secB (pC at_ I d j).2.seen⟩), (18, some ⟨true, secB (pC at_ I d j).2.safe⟩), (19, some ⟨true, .pl (prow (pC at_ I d j).2.pend)⟩)], x⟩, 20⟩)
    (fun j => nCh I - j) 0 (Nat.zero_le _) ?_ ?_
  · refine sub_mk [] rfl rfl rfl ?_
    simp only [tmSub, hpSub, objSub, eqTm, eqHp, rn, lk, SV.ren, SV.renC, SV.renB, SV.renA, ren_ints, ren_strs, ren_pl, ren_svs, SV.v.injEq, Value.int.injEq, Body.ints.injEq, SV.ptr.injEq, SV.sl.injEq, Value.string.injEq, Value.bool.injEq, List.map_cons, List.map_nil, forall_const, Nat.reduceLT, Nat.lt_add_one, imp_self, true_and, and_true, and_self, ob_some, get_mk, lk_cons, ↓reduceIte, Nat.reduceEqDiff, ne_eq, not_true_eq_false, not_false_eq_true, Nat.one_ne_zero, Nat.zero_ne_one, Nat.succ_ne_self, Nat.reduceAdd, Bool.false_eq_true, false_implies, implies_true, reduceCtorEq, slB, devB]
    exact ⟨rfl, rfl, rfl⟩
  · intro j hj
    have w1 : IntKind.i64.wrap ((j : Int) * 64) = ((64 * j : Nat) : Int) := by rw [wrap_i64 (by omega) (by omega)]; omega
    unfold devB slB
    simp -implicitDefEqProofs only [go_sem, ↓reduceIte, Nat.reduceEqDiff, Nat.reduceAdd, Nat.reduceMul, Nat.reduceLT, Nat.reduceLeDiff, Nat.reduceSub, Int.reduceToNat, Int.reduceLE, Int.reduceLT, reduceCtorEq, Int.reduceEq, Int.reduceGT, Int.reduceGE, Int.reduceNeg, w1]
    refine condK_bb (fun c => ?_) (fun c => ?_)
    · have c1 : 64 * j < I.size := by have := of_decide_eq_true c; omega
      have c2 : j < nCh I := nCh_lt.2 c1
      have w2 : IntKind.i64.wrap ((j : Int) + 1) = ((j + 1 : Nat) : Int) := by rw [wrap_i64 (by omega) (by omega)]; omega
      have w3 : IntKind.i64.wrap (((j + 1 : Nat) : Int) * 64) = ((64 * j + 64 : Nat) : Int) := by rw [wrap_i64 (by omega) (by omega)]; omega
      have w4 : min (((64 * j + 64 : Nat) : Int)) (I.size : Int) = ((min (64 * j + 64) I.size : Nat) : Int) := by omega
      have w5 : IntKind.i64.wrap (at_ + 1) = at_ + 1 := wrap_i64 (by omega) (by omega)
      have w6 : IntKind.i64.wrap (at_ + 1 + (j : Int)) = at_ + 1 + j := wrap_i64 (by omega) (by omega)
      simp -implicitDefEqProofs only [go_sem, ↓reduceIte, Nat.reduceEqDiff, Nat.reduceAdd, Nat.reduceMul, Nat.reduceLT, Nat.reduceLeDiff, Nat.reduceSub, Int.reduceToNat, Int.reduceLE, Int.reduceLT, reduceCtorEq, Int.reduceEq, Int.reduceGT, Int.reduceGE, Int.reduceNeg, c, w1, w2, w3, w4, w5, w6]
      refine ⟨by omega, ?_⟩
      refine at_call tSWrite1 (sw1S (p := pC at_ I d j) (bs := bs) (r := r) (j1 := 13) (j2 := 6) (j3 := 1) (i := 2) (a := 17) (b := 18) (c := 19) ⟨by rfl, ⟨_, by rfl⟩, ⟨_, by rfl⟩, by rfl, by rfl, by rfl, by rfl, by decide, fun _ => rfl, fun _ => rfl⟩ (hC j hj) (by omega) (by decide) rfl) ?_
      rw [stF_eq, show (thn (pC at_ I d j) fun d => wrT d (at_ + 1 + j) (I.extract (64 * j) (min (64 * j + 64) I.size))) = pC at_ I d (j + 1) from rfl]
      simp -implicitDefEqProofs only [go_sem, ↓reduceIte, Nat.reduceEqDiff, Nat.reduceAdd, Nat.reduceMul, Nat.reduceLT, Nat.reduceLeDiff, Nat.reduceSub, Int.reduceToNat, Int.reduceLE, Int.reduceLT, reduceCtorEq, Int.reduceEq, Int.reduceGT, Int.reduceGE, Int.reduceNeg, w2, devB]
      refine kLoop_mk (j + 1) (by omega) (by omega) ?_
      refine sub_mk [(17, 20), (18, 21), (19, 22)] rfl rfl rfl ?_
      simp only [tmSub, hpSub, objSub, eqTm, eqHp, rn, lk, SV.ren, SV.renC, SV.renB, SV.renA, ren_ints, ren_strs, ren_pl, ren_svs, SV.v.injEq, Value.int.injEq, Body.ints.injEq, SV.ptr.injEq, SV.sl.injEq, Value.string.injEq, Value.bool.injEq, List.map_cons, List.map_nil, forall_const, Nat.reduceLT, Nat.lt_add_one, imp_self, true_and, and_true, and_self, ob_some, get_mk, lk_cons, ↓reduceIte, Nat.reduceEqDiff, ne_eq, not_true_eq_false, not_false_eq_true, Nat.one_ne_zero, Nat.zero_ne_one, Nat.succ_ne_self, Nat.reduceAdd, Bool.false_eq_true, false_implies, implies_true, reduceCtorEq, slB, devB]
      exact ⟨rfl, rfl⟩
    · have c1 : j = nCh I := by have := of_decide_eq_false c; have := @nCh_lt I j; omega
      subst c1
      simp -implicitDefEqProofs only [go_sem, ↓reduceIte, Nat.reduceEqDiff, Nat.reduceAdd, Nat.reduceMul, Nat.reduceLT, Nat.reduceLeDiff, Nat.reduceSub, Int.reduceToNat, Int.reduceLE, Int.reduceLT, reduceCtorEq, Int.reduceEq, Int.reduceGT, Int.reduceGE, Int.reduceNeg, c, w1]
      refine at_call tSWrite2 (sw2S (p := pC at_ I d (nCh I)) (bs := bs) (r := r) (j1 := 13) (j2 := 6) (j3 := 1) (i := 2) (a := 17) (b := 18) (c := 19) ⟨by rfl, ⟨_, by rfl⟩, ⟨_, by rfl⟩, by rfl, by rfl, by rfl, by rfl, by decide, fun _ => rfl, fun _ => rfl⟩ (hC (nCh I) hj) (by omega) (by decide) rfl) ?_
      rw [stF_eq, show thn (pC at_ I d (nCh I)) baT = p2 at_ I d from rfl]
      simp -implicitDefEqProofs only [go_sem, ↓reduceIte, Nat.reduceEqDiff, Nat.reduceAdd, Nat.reduceMul, Nat.reduceLT, Nat.reduceLeDiff, Nat.reduceSub, Int.reduceToNat, Int.reduceLE, Int.reduceLT, reduceCtorEq, Int.reduceEq, Int.reduceGT, Int.reduceGE, Int.reduceNeg, devB]
      refine at_call tSWrite1 (sw1S (p := p2 at_ I d) (bs := bs) (r := r) (j1 := 13) (j2 := 6) (j3 := 1) (i := 2) (a := 20) (b := 21) (c := 22) ⟨by rfl, ⟨_, by rfl⟩, ⟨_, by rfl⟩, by rfl, by rfl, by rfl, by rfl, by decide, fun _ => rfl, fun _ => rfl⟩ (p2_pl hP ht hI) (by omega) (by decide) rfl) ?_
      rw [stF_eq, show (thn (p2 at_ I d) fun d => wrT d at_ (hdrT ver I)) = p3 at_ ver I d from rfl]
      simp -implicitDefEqProofs only [go_sem, ↓reduceIte, Nat.reduceEqDiff, Nat.reduceAdd, Nat.reduceMul, Nat.reduceLT, Nat.reduceLeDiff, Nat.reduceSub, Int.reduceToNat, Int.reduceLE, Int.reduceLT, reduceCtorEq, Int.reduceEq, Int.reduceGT, Int.reduceGE, Int.reduceNeg, devB]
      refine at_call tSWrite2 (sw2S (p := p3 at_ ver I d) (bs := bs) (r := r) (j1 := 13) (j2 := 6) (j3 := 1) (i := 2) (a := 23) (b := 24) (c := 25) ⟨by rfl, ⟨_, by rfl⟩, ⟨_, by rfl⟩, by rfl, by rfl, by rfl, by rfl, by decide, fun _ => rfl, fun _ => rfl⟩ (p3_pl hP ht hI) (by omega) (by decide) rfl) ?_
      rw [stF_eq, show thn (p3 at_ ver I d) baT = slW at_ ver I d from rfl]
      simp -implicitDefEqProofs only [go_sem, ↓reduceIte, Nat.reduceEqDiff, Nat.reduceAdd, Nat.reduceMul, Nat.reduceLT, Nat.reduceLeDiff, Nat.reduceSub, Int.reduceToNat, Int.reduceLE, Int.reduceLT, reduceCtorEq, Int.reduceEq, Int.reduceGT, Int.reduceGE, Int.reduceNeg, devB]
      refine sub_mk [(6, 26), (7, 27), (8, 28)] rfl rfl rfl ?_
      simp only [tmSub, hpSub, objSub, eqTm, eqHp, rn, lk, SV.ren, SV.renC, SV.renB, SV.renA, ren_ints, ren_strs, ren_pl, ren_svs, SV.v.injEq, Value.int.injEq, Body.ints.injEq, SV.ptr.injEq, SV.sl.injEq, Value.string.injEq, Value.bool.injEq, List.map_cons, List.map_nil, forall_const, Nat.reduceLT, Nat.lt_add_one, imp_self, true_and, and_true, and_self, ob_some, get_mk, lk_cons, ↓reduceIte, Nat.reduceEqDiff, ne_eq, not_true_eq_false, not_false_eq_true, Nat.one_ne_zero, Nat.zero_ne_one, Nat.succ_ne_self, Nat.reduceAdd, Bool.false_eq_true, false_implies, implies_true, reduceCtorEq, swL, devB]
      exact ⟨rfl, rfl⟩
theorem swR_pl {bs r : Nat} {slot ver : Int} {I : ByteArray} {m t : Nat} (hP : Pl d m t) (ht : t + 1000 < 1000000) : Pl (swR bs r slot ver I d).2 m (t + 133) := by
  unfold swR
  split
  · rename_i h
    refine slW_pl hP ht ?_
    unfold swE at h
    split at h
    · cases h
    split at h
    · cases h
    omega
  · exact hP.mono (by omega)
def devN (d : Fd) (n i a b c : Nat) (l : List (Nat × Option SO)) : List (Nat × Option SO) := (i, some ⟨true, devB d n (n + 1) (n + 1 + 1)⟩) :: (a, none) :: (b, none) :: (c, none) :: (n, some ⟨true, secB d.seen⟩) :: (n + 1, some ⟨true, secB d.safe⟩) :: (n + 1 + 1, some ⟨true, .pl (prow d.pend)⟩) :: l
theorem devN_eq {d : Fd} {n i a b c : Nat} {l : List (Nat × Option SO)} : devN d n i a b c l = (i, some ⟨true, devB d n (n + 1) (n + 1 + 1)⟩) :: (a, none) :: (b, none) :: (c, none) :: (n, some ⟨true, secB d.seen⟩) :: (n + 1, some ⟨true, secB d.safe⟩) :: (n + 1 + 1, some ⟨true, .pl (prow d.pend)⟩) :: l := rfl
theorem swriteS {bs r q : Nat} {slot ver : Int} {I : ByteArray} {m t : Nat} {w : Bool} (hb : bs ≤ 4096) (hr : r ≤ 128) (hg : H.get q = some ⟨w, slB i bs r⟩) (h : DevAt H d i a b c) (hq : 0 < q ∧ q < 1000 ∧ q ≠ i ∧ q ≠ a ∧ q ≠ b ∧ q ≠ c) (hP : Pl d m t) (ht : t + 1000 < 1000000) (hn : n + 3 ≤ 1000) {p : Int × Fd} (hp : swR bs r slot ver I d = p) :
    SpecAt Try.prog nSWrite [.ptr q 0, .v (.int .i64 slot), .v (.int .i64 ver), .v (.string I)] H n (.v (.int .i64 p.1)) ⟨devN p.2 n i a b c H.l, H.x⟩ (n + 3) := by
  subst hp
  obtain ⟨hi, ha, hb', hc, ⟨p1, p2, p3, p4⟩, ⟨q1, q2, q3, q4⟩, n1, n2, n3, n4, n5, n6⟩ := h
  obtain ⟨k1, k2, k3, k4, k5, k6⟩ := hq
  have := lift (n := n) (okT.spec tSWrite (swriteW (x := H.x) (slot := slot) (ver := ver) (I := I) hb hr hP ht)) [(1, q), (2, i), (3, a), (4, b), (5, c)] rfl rfl rfl (by omega) rfl rfl
    ⟨sub_ro rfl k1 hg rfl, sub_wr rfl p1 q1 hi rfl, sub_wr rfl p2 q2 ha rfl, sub_wr rfl p3 q3 hb' rfl, sub_wr rfl p4 q4 hc rfl, trivial⟩
    (by simp [swH, devL, apartB, apart1, rn, lk, n1, n2, n3, n4, n5, n6, k3, k4, k5, k6, Ne.symm n1, Ne.symm n2, Ne.symm n3, Ne.symm n4, Ne.symm n5, Ne.symm n6, Ne.symm k3, Ne.symm k4, Ne.symm k5, Ne.symm k6]) (by simp [swH, devL, wrNZ, rn, lk]; omega) (by omega)
  exact this
end
section
/- Slots: the document's Write. -/
set_option linter.unusedVariables false
set_option linter.unusedSimpArgs false
set_option maxRecDepth 100000
open Go.Proofs
variable {H : Hp} {n : Nat} {x : Nat → Option SO} {d d' : Fd} {i a b c : Nat} {u1 u2 u3 : Bool}

end
end Go.Sx