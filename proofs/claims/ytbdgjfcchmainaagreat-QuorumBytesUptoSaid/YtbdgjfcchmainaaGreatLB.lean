/- Layer 1's functions, at this program. -/
import Derived.Test.YtbdgjfcchmainaaGreatLA
import Derived.Test.YtbdgjfcchmainaaGreatMir07
import Derived.Test.YtbdgjfcchmainaaGreatSxC

set_option linter.unusedVariables false
set_option linter.unusedSimpArgs false
set_option maxRecDepth 100000
namespace Go.Sx
attribute [local go_sem ↓] det_call bind_mk intsB_mk strsB_mk svB_mk fnVC ob_some vc_skip vc_exit vc_ret vc_seq vc_block kSeq_normal kSeq_exit kSeq_ret kBlock_normal kBlock_exit kBlock_ret vc_reg vc_regD vc_cond condK_true condK_false vc_loop kLoop_exit kLoop_ret kRoll_normal kRoll_exit kRoll_ret vcOps_nil vcOps_cons V_none V_some gd_bool gd_undef put_some put_none vcT_fin vcT_pure vcT_act vcT_acts vcT_stop stab_none stab_some stabM_nil stabM_cons stabO_ld stabO_ldn stabO_slP stabO_b2s fldOf_ai fldOf_agg fldOf_ait fldOf_aggt intsOf_nil intsOf_cons strsOf_nil strsOf_cons c_omap ob_if lk_nil lk_cons ev_t ev_k z_mov z_pick z_bin z_binA z_binB z_binP z_un z_r2s z_conv z_s2b z_b2s z_mkM z_luM z_upM z_lenM lenMk_mp lenMk_nil plsOf_v z_delM asM_so plV_v plV_agg mpOf_mp mpOf_nil mpUp_mp asM_mp luV_ok luV_v z_allocT aggOf_mk z_boxT z_alloc z_bld z_bldI z_rowI z_rowS z_ld z_ldn z_st z_stn asN_ptr asN_fn z_nilck z_fld z_fadr z_idxA z_idxP z_idxS z_idxV z_slS z_slL z_slP z_mk z_lenS z_lenL z_app appC_ints appC_pl appC_sv appC_strs isS_strs loose_ints loose_pl loose_sv z_slM z_callv callvK_fn callvK_f callvK_yl vc_rangeF rfEnd_eq rfGo_none rfGo_ret rfGo_exit yGo_mk yEnd_n yEnd_r yEnd_e yRdy_mk yMid_n putPs_nil putPs_cons leaf_v leaf_ptr leaf_sl leaf_yl leaf_mp z_appS z_appST z_appZ z_cpyS z_mkfn reps_int reps_str z_rowV z_slnil nilK_zero z_cpy z_call asT_tup z_extT z_box boxOf_ai boxOf_agg boxOf_int boxOf_str boxOf_bool boxOf_ptr boxOf_sl sbin_int sbin_str sbinA_mk ae_nil ae_int ae_str sbinB_mk sbinP_nn sbinP_pn sbinP_np i_add i_sub i_mul i_quo i_rem i_and i_or i_xor i_andNot i_shl i_shr i_eql i_neq i_lss i_leq i_gtr i_geq st_add st_eql st_neq st_lss st_leq st_gtr st_geq bo_eql bo_neq pt_eql pt_neq un_neg un_xor un_not asI_mk asB_mk asS_mk asP_mk asSl_mk asBy_mk fresh_eq bnd_none bnd_some get_mk hput_mk hdel_mk kill_eq wrOf_eq rowOf_eq rsvs_0 rsvs_1 rsvs_2 rsvs_3 rsv_t rsv_c1 rsv_cn nt_v nt_ptr nt_sl nt_agg nt_ai get_ints get_strs get_pl get_sv getN_ints getN_sv set_ints set_strs set_sv setN_ints setN_sv part_ints part_strs part_sv cat_ints cat_strs cat_sv over_ints over_strs over_sv ones_ints ones_strs evs_nil evs_cons condK_eqt condK_eqf
attribute [local go_sem] initTm ne_eq not_true_eq_false not_false_eq_true true_and and_true List.length_cons List.length_nil Int.toNat_natCast Nat.add_zero Nat.zero_add Nat.mul_one List.getElem?_cons_zero List.drop_zero List.take_length List.take_succ_cons List.take_zero List.take_nil List.drop_succ_cons Option.map_some Nat.le_refl implies_true List.getElem?_cons_succ decide_true decide_false Bool.not_true Bool.not_false beq_self_eq_true Nat.succ_ne_self Nat.one_ne_zero Nat.zero_ne_one
section
open Go.Proofs
variable {P : Program} {C : Tab} {H : Hp} {n : Nat} {x : Nat → Option SO}
def catb (ss : List ByteArray) : List Int := ss.flatMap bts
theorem bts_len (s : ByteArray) : (bts s).length = s.size := by simp [bts]
theorem catb_app (l m : List ByteArray) : catb (l ++ m) = catb l ++ catb m := by simp [catb]
theorem catb_succ {l : List ByteArray} {t : Nat} (h : t < l.length) : catb (l.take (t + 1)) = catb (l.take t) ++ bts (l.getD t .empty) := by
  rw [List.take_add_one, catb_app, List.getD_eq_getElem?_getD, List.getElem?_eq_getElem h]
  simp [catb]
theorem catb_le {l : List ByteArray} (t : Nat) : (catb (l.take t)).length ≤ (catb l).length := by
  have := congrArg List.length (catb_app (l.take t) (l.drop t))
  rw [List.take_append_drop, List.length_append] at this
  omega
theorem drop_getD {α : Type} {l : List α} {o t : Nat} {d : α} : (l.drop o).getD t d = l.getD (o + t) d := by
  simp [List.getD_eq_getElem?_getD]
theorem take_getD {α : Type} {l : List α} {m t : Nat} {d : α} (h : t < m) : (l.take m).getD t d = l.getD t d := by
  simp [List.getD_eq_getElem?_getD, List.getElem?_take, h]
def tagc (s : ByteArray) : List Int := be4 (IntKind.u32.wrap s.size) ++ bts s
def tagb (k : Int) (ss : List ByteArray) : List Int := k :: ss.flatMap tagc
theorem tagb_app (k : Int) (l m : List ByteArray) : tagb k (l ++ m) = tagb k l ++ m.flatMap tagc := by simp [tagb]
theorem tagb_succ {k : Int} {l : List ByteArray} {t : Nat} (h : t < l.length) : tagb k (l.take (t + 1)) = (tagb k (l.take t) ++ be4 (IntKind.u32.wrap (l.getD t .empty).size)) ++ bts (l.getD t .empty) := by
  rw [List.take_add_one, tagb_app, List.getD_eq_getElem?_getD, List.getElem?_eq_getElem h]
  simp [tagc]
theorem tagb_le {k : Int} {l : List ByteArray} (t : Nat) : (tagb k (l.take t)).length ≤ (tagb k l).length := by
  have := congrArg List.length (tagb_app k (l.take t) (l.drop t))
  rw [List.take_append_drop, List.length_append] at this
  omega
theorem w12 {k : Int} {ss : List ByteArray} {o m : Nat} (hom : o + m ≤ ss.length) (hb : m ≤ 1099511627776) (hl : (tagb k ((ss.drop o).take m)).length ≤ 1073741824) (h23 : C 84 = det c23) :
    fnVC C m12 [.v (.int .u8 k), .sl 1 o m 1] ⟨[(1, some ⟨false, .strs ss⟩)], x⟩ 2 fun v H' n' => Sub 2 ⟨[(0, .v (.string (sha (tagb k ((ss.drop o).take m)))))], ⟨[], x⟩, 2⟩ ⟨[(0, v)], H', n'⟩ := by
  have hps : ((ss.drop o).take m).length = m := by simp; omega
  have hget : ∀ t, t < m → ((ss.drop o).take m).getD t .empty = ss.getD (o + t) .empty := fun t ht => by rw [take_getD ht, drop_getD]
  generalize (ss.drop o).take m = ps at hl hps hget ⊢
  unfold m12
  simp -implicitDefEqProofs only [go_sem, ↓reduceIte, Nat.reduceEqDiff, Nat.reduceAdd, Nat.reduceMul, Nat.reduceLT, Nat.reduceLeDiff, Nat.reduceSub, Int.reduceToNat, Int.reduceLE, Int.reduceLT, reduceCtorEq]
  have e192 : List.replicate 192 (0 : Int) = List.replicate 192 0 := rfl
  and_intros
  all_goals try (first | omega | decide)
  refine loop_fam (fun t : Nat => t ≤ m) (fun t => ⟨[(5, .sl 2 0 (tagb k (ps.take t)).length 1), (13, .sl 1 o m 1), (14, .v (.int .i64 m)), (15, .v (.int .i64 t))], ⟨[(1, some ⟨false, .strs ss⟩), (2, some ⟨true, .ints .u8 (tagb k (ps.take t))⟩)], x⟩, 3⟩) (fun t => m - t) 0 (by omega) ?_ ?_
  · refine sub_mk [(2, 4)] rfl rfl rfl ?_
    simp only [tmSub, hpSub, objSub, eqTm, eqHp, rn, lk, SV.ren, SV.renC, SV.renB, SV.renA, ren_ints, ren_strs, ren_pl, ren_svs, SV.v.injEq, Value.int.injEq, Body.ints.injEq, SV.ptr.injEq, SV.sl.injEq, Value.string.injEq, Value.bool.injEq, List.map_cons, List.map_nil, forall_const, Nat.reduceLT, Nat.lt_add_one, imp_self, true_and, and_true, and_self, ob_some, get_mk, lk_cons, ↓reduceIte, Nat.reduceEqDiff, ne_eq, not_true_eq_false, not_false_eq_true, Nat.one_ne_zero, Nat.zero_ne_one, Nat.succ_ne_self, Nat.reduceAdd, Bool.false_eq_true, false_implies, implies_true, reduceCtorEq]
    exact ⟨⟨rfl, rfl⟩, rfl⟩
  · intro t ht
    have h1 := tagb_le (k := k) (l := ps) t
    simp -implicitDefEqProofs only [go_sem, ↓reduceIte, Nat.reduceEqDiff, Nat.reduceAdd, Nat.reduceMul, Nat.reduceLT, Nat.reduceLeDiff, Nat.reduceSub, Int.reduceToNat, Int.reduceLE, Int.reduceLT, reduceCtorEq]
    refine condK_of (fun h => ?_) (fun h => ?_)
    · have h2 := tagb_le (k := k) (l := ps) (t + 1)
      rw [tagb_succ (by omega), List.length_append, List.length_append, bts_len, hget t (by omega)] at h2
      simp only [be4, List.length_cons, List.length_nil] at h2
      rw [wrap_i64 (by omega) (by omega)]
      refine ⟨by omega, by omega, by omega, by omega, by omega, by simp, kLoop_mk (t + 1) (by omega) (by omega) (sub_mk [(2, 5)] rfl rfl rfl ?_)⟩
      rw [List.take_of_length_le (l := tagb k (ps.take t) ++ _) (by simp)]
      simp only [tmSub, hpSub, objSub, eqTm, eqHp, rn, lk, SV.ren, SV.renC, SV.renB, SV.renA, ren_ints, ren_strs, ren_pl, ren_svs, SV.v.injEq, Value.int.injEq, Body.ints.injEq, SV.ptr.injEq, SV.sl.injEq, Value.string.injEq, Value.bool.injEq, List.map_cons, List.map_nil, forall_const, Nat.reduceLT, Nat.lt_add_one, imp_self, true_and, and_true, and_self, ob_some, get_mk, lk_cons, ↓reduceIte, Nat.reduceEqDiff, ne_eq, not_true_eq_false, not_false_eq_true, Nat.one_ne_zero, Nat.zero_ne_one, Nat.succ_ne_self, Nat.reduceAdd, Bool.false_eq_true, false_implies, implies_true, reduceCtorEq]
      rw [tagb_succ (by omega), hget t (by omega), List.length_append, List.length_append, bts_len]
      exact ⟨⟨rfl, by omega⟩, rfl⟩
    · have e : t = m := by omega
      have e9 : ps.take t = ps := List.take_of_length_le (by omega)
      rw [h23, e9]
      simp -implicitDefEqProofs only [go_sem, ↓reduceIte, Nat.reduceEqDiff, Nat.reduceAdd, Nat.reduceMul, Nat.reduceLT, Nat.reduceLeDiff, Nat.reduceSub, Int.reduceToNat, Int.reduceLE, Int.reduceLT, reduceCtorEq, c23, f23]
      refine ⟨by omega, sub_mk [] rfl rfl rfl ?_⟩
      simp only [tmSub, hpSub, objSub, eqTm, eqHp, rn, lk, SV.ren, SV.renC, SV.renB, SV.renA, ren_ints, ren_strs, ren_pl, ren_svs, SV.v.injEq, Value.int.injEq, Body.ints.injEq, SV.ptr.injEq, SV.sl.injEq, Value.string.injEq, Value.bool.injEq, List.map_cons, List.map_nil, forall_const, Nat.reduceLT, Nat.lt_add_one, imp_self, true_and, and_true, and_self, ob_some, get_mk, lk_cons, ↓reduceIte, Nat.reduceEqDiff, ne_eq, not_true_eq_false, not_false_eq_true, Nat.one_ne_zero, Nat.zero_ne_one, Nat.succ_ne_self, Nat.reduceAdd, Bool.false_eq_true, false_implies, implies_true, reduceCtorEq]
def f12 (k : Int) (i o m : Nat) (H : Hp) (n : Nat) : Option (SV × Hp × Nat) :=
  (rowAt H i (.strs [])).bind fun b => (strsB b).bind fun ss => if o + m ≤ ss.length ∧ m ≤ 1099511627776 ∧ (tagb k ((ss.drop o).take m)).length ≤ 1073741824 then some (.v (.string (sha (tagb k ((ss.drop o).take m)))), H, n) else none
def c12 : Ctr := fun args H n => match args with
  | [.v (.int .u8 k), .sl i o m 1] => f12 k i o m H n
  | _ => none
theorem k12 (h : OKT P C) (t : trFn P 72 = some m12) (h23 : C 84 = det c23) : OKT P (C.add 72 (det c12)) := h.add t fun args H n v H' n' hc => by
  unfold c12 at hc
  split at hc
  · rename_i k i o m
    unfold f12 at hc
    simp only [Option.bind_eq_some_iff] at hc
    obtain ⟨b, hb, ss, hs, hc⟩ := hc
    have := strsB_some hs; subst this
    split at hc
    · rename_i hcond
      cases hc
      exact lift_read (pre := [.int .u8 k]) hb ⟨rfl, fun _ h => by cases h⟩ (fun _ => rfl) rfl (h.spec t (w12 hcond.1 hcond.2.1 hcond.2.2 h23))
    · cases hc
  · cases hc
variable {P : Program} {C : Tab} {H : Hp} {n : Nat} {x : Nat → Option SO}
def numb (X : Int) (k : Nat) : Nat → List Int
  | 0 => []
  | c + 1 => numb X k c ++ [IntKind.u8.wrap (ishr .u64 X (8 * ((k : Int) - 1 - c)))]
theorem numb_len (X : Int) (k : Nat) : ∀ c, (numb X k c).length = c
  | 0 => rfl
  | c + 1 => by simp [numb, numb_len X k c]
def nbOf (o c : Nat) : Nat := if c = 0 then o else 0
def nbG (ys part : List Int) (X : Int) (k c : Nat) : List Int := if c = 0 then ys else part ++ numb X k c
theorem nb_part {ys : List Int} {o m : Nat} (X : Int) (k c : Nat) (h : o + m ≤ ys.length) : ((nbG ys ((ys.drop o).take m) X k c).drop (nbOf o c)).take (m + c) = (ys.drop o).take m ++ numb X k c ∧ nbOf o c + (m + c) ≤ (nbG ys ((ys.drop o).take m) X k c).length := by
  have hl : ((ys.drop o).take m).length = m := by simp; omega
  unfold nbG nbOf
  by_cases e : c = 0
  · subst e; simp [numb]; omega
  · simp only [e, if_false, List.drop_zero]
    refine ⟨List.take_of_length_le (by rw [List.length_append, hl, numb_len]; omega), by rw [List.length_append, hl, numb_len]; omega⟩
theorem w25 {ys : List Int} {X : Int} {o m k : Nat} (hom : o + m ≤ ys.length) (hk : 0 < k) (hk2 : k ≤ 8) (hm : m ≤ 1099511627776) :
    fnVC C m25 [.sl 1 o m 1, .v (.int .u64 X), .v (.int .i64 k)] ⟨[(1, some ⟨true, .ints .u8 ys⟩)], x⟩ 2 fun v H' n' => Sub 2 ⟨[(0, .sl 2 0 (m + k) 1)], ⟨[(2, some ⟨true, .ints .u8 ((ys.drop o).take m ++ numb X k k)⟩), (1, none)], x⟩, 3⟩ ⟨[(0, v)], H', n'⟩ := by
  have hp := fun c => nb_part X k c hom
  unfold m25
  simp -implicitDefEqProofs only [go_sem, ↓reduceIte, Nat.reduceEqDiff, Nat.reduceAdd, Nat.reduceMul, Nat.reduceLT, Nat.reduceLeDiff, Nat.reduceSub, Int.reduceToNat, Int.reduceLE, Int.reduceLT, reduceCtorEq]
  refine loop_fam (fun c : Nat => c ≤ k) (fun c => ⟨[(0, .sl 2 (nbOf o c) (m + c) 1), (1, .v (.int .u64 X)), (7, .v (.int .i64 ((k : Int) - 1 - c)))], ⟨[(2, some ⟨true, .ints .u8 (nbG ys ((ys.drop o).take m) X k c)⟩), (1, none)], x⟩, 3⟩) (fun c => k - c) 0 (by omega) ?_ ?_
  · refine sub_mk [(2, 1)] rfl rfl rfl ?_
    simp only [tmSub, hpSub, objSub, eqTm, eqHp, rn, lk, SV.ren, SV.renC, SV.renB, SV.renA, ren_ints, ren_strs, ren_pl, ren_svs, SV.v.injEq, Value.int.injEq, Body.ints.injEq, SV.ptr.injEq, SV.sl.injEq, Value.string.injEq, Value.bool.injEq, List.map_cons, List.map_nil, forall_const, Nat.reduceLT, Nat.lt_add_one, imp_self, true_and, and_true, and_self, ob_some, get_mk, lk_cons, ↓reduceIte, Nat.reduceEqDiff, ne_eq, not_true_eq_false, not_false_eq_true, Nat.one_ne_zero, Nat.zero_ne_one, Nat.succ_ne_self, Nat.reduceAdd, Bool.false_eq_true, false_implies, implies_true, reduceCtorEq]
    rw [wrap_i64 (by omega) (by omega)]
    exact ⟨⟨⟨rfl, rfl⟩, by omega⟩, rfl⟩
  · intro c hc
    simp -implicitDefEqProofs only [go_sem, ↓reduceIte, Nat.reduceEqDiff, Nat.reduceAdd, Nat.reduceMul, Nat.reduceLT, Nat.reduceLeDiff, Nat.reduceSub, Int.reduceToNat, Int.reduceLE, Int.reduceLT, reduceCtorEq]
    refine condK_of (fun h => ?_) (fun h => ?_)
    · rw [(hp c).1, wrap_i64 (by omega) (by omega), wrap_i64 (by omega) (by omega)]
      refine ⟨by omega, by omega, by omega, (hp c).2, kLoop_mk (c + 1) (by omega) (by omega) (sub_mk [(2, 4)] rfl rfl rfl ?_)⟩
      simp only [tmSub, hpSub, objSub, eqTm, eqHp, rn, lk, SV.ren, SV.renC, SV.renB, SV.renA, ren_ints, ren_strs, ren_pl, ren_svs, SV.v.injEq, Value.int.injEq, Body.ints.injEq, SV.ptr.injEq, SV.sl.injEq, Value.string.injEq, Value.bool.injEq, List.map_cons, List.map_nil, forall_const, Nat.reduceLT, Nat.lt_add_one, imp_self, true_and, and_true, and_self, ob_some, get_mk, lk_cons, ↓reduceIte, Nat.reduceEqDiff, ne_eq, not_true_eq_false, not_false_eq_true, Nat.one_ne_zero, Nat.zero_ne_one, Nat.succ_ne_self, Nat.reduceAdd, Bool.false_eq_true, false_implies, implies_true, reduceCtorEq]
      exact ⟨⟨⟨rfl, by omega⟩, by omega⟩, by simp [nbG, numb]⟩
    · have e : c = k := by omega
      subst e
      refine sub_mk [] rfl rfl rfl ?_
      simp only [tmSub, hpSub, objSub, eqTm, eqHp, rn, lk, SV.ren, SV.renC, SV.renB, SV.renA, ren_ints, ren_strs, ren_pl, ren_svs, SV.v.injEq, Value.int.injEq, Body.ints.injEq, SV.ptr.injEq, SV.sl.injEq, Value.string.injEq, Value.bool.injEq, List.map_cons, List.map_nil, forall_const, Nat.reduceLT, Nat.lt_add_one, imp_self, true_and, and_true, and_self, ob_some, get_mk, lk_cons, ↓reduceIte, Nat.reduceEqDiff, ne_eq, not_true_eq_false, not_false_eq_true, Nat.one_ne_zero, Nat.zero_ne_one, Nat.succ_ne_self, Nat.reduceAdd, Bool.false_eq_true, false_implies, implies_true, reduceCtorEq]
      have e0 : nbOf o c = 0 := by simp [nbOf]; omega
      have e1 : nbG ys ((ys.drop o).take m) X c c = (ys.drop o).take m ++ numb X c c := by simp [nbG]; omega
      exact ⟨e0, e1⟩
theorem w25n {X : Int} {k : Nat} (hk : 0 < k) (hk2 : k ≤ 8) :
    fnVC C m25 [.sl 0 0 0 1, .v (.int .u64 X), .v (.int .i64 k)] ⟨[], x⟩ 1 fun v H' n' => Sub 1 ⟨[(0, .sl 1 0 k 1)], ⟨[(1, some ⟨true, .ints .u8 (numb X k k)⟩)], x⟩, 2⟩ ⟨[(0, v)], H', n'⟩ := by
  unfold m25
  simp -implicitDefEqProofs only [go_sem, ↓reduceIte, Nat.reduceEqDiff, Nat.reduceAdd, Nat.reduceMul, Nat.reduceLT, Nat.reduceLeDiff, Nat.reduceSub, Int.reduceToNat, Int.reduceLE, Int.reduceLT, reduceCtorEq]
  refine loop_fam (fun c : Nat => c ≤ k) (fun c => ⟨[(0, .sl 2 0 c 1), (1, .v (.int .u64 X)), (7, .v (.int .i64 ((k : Int) - 1 - c)))], ⟨[(2, some ⟨true, .ints .u8 (numb X k c)⟩)], x⟩, 3⟩) (fun c => k - c) 0 (by omega) ?_ ?_
  · refine sub_mk [(2, 0)] rfl rfl rfl ?_
    simp only [tmSub, hpSub, objSub, eqTm, eqHp, rn, lk, SV.ren, SV.renC, SV.renB, SV.renA, ren_ints, ren_strs, ren_pl, ren_svs, SV.v.injEq, Value.int.injEq, Body.ints.injEq, SV.ptr.injEq, SV.sl.injEq, Value.string.injEq, Value.bool.injEq, List.map_cons, List.map_nil, forall_const, Nat.reduceLT, Nat.lt_add_one, imp_self, true_and, and_true, and_self, ob_some, get_mk, lk_cons, ↓reduceIte, Nat.reduceEqDiff, ne_eq, not_true_eq_false, not_false_eq_true, Nat.one_ne_zero, Nat.zero_ne_one, Nat.succ_ne_self, Nat.reduceAdd, Bool.false_eq_true, false_implies, implies_true, reduceCtorEq]
    rw [wrap_i64 (by omega) (by omega)]
    exact ⟨by omega, rfl⟩
  · intro c hc
    have hl := numb_len X k c
    have ht : (numb X k c).take c = numb X k c := List.take_of_length_le (by omega)
    simp -implicitDefEqProofs only [go_sem, ↓reduceIte, Nat.reduceEqDiff, Nat.reduceAdd, Nat.reduceMul, Nat.reduceLT, Nat.reduceLeDiff, Nat.reduceSub, Int.reduceToNat, Int.reduceLE, Int.reduceLT, reduceCtorEq]
    refine condK_of (fun h => ?_) (fun h => ?_)
    · rw [ht, wrap_i64 (by omega) (by omega), wrap_i64 (by omega) (by omega)]
      refine ⟨by omega, by omega, by omega, by omega, kLoop_mk (c + 1) (by omega) (by omega) (sub_mk [(2, 4)] rfl rfl rfl ?_)⟩
      simp only [tmSub, hpSub, objSub, eqTm, eqHp, rn, lk, SV.ren, SV.renC, SV.renB, SV.renA, ren_ints, ren_strs, ren_pl, ren_svs, SV.v.injEq, Value.int.injEq, Body.ints.injEq, SV.ptr.injEq, SV.sl.injEq, Value.string.injEq, Value.bool.injEq, List.map_cons, List.map_nil, forall_const, Nat.reduceLT, Nat.lt_add_one, imp_self, true_and, and_true, and_self, ob_some, get_mk, lk_cons, ↓reduceIte, Nat.reduceEqDiff, ne_eq, not_true_eq_false, not_false_eq_true, Nat.one_ne_zero, Nat.zero_ne_one, Nat.succ_ne_self, Nat.reduceAdd, Bool.false_eq_true, false_implies, implies_true, reduceCtorEq]
      exact ⟨by omega, rfl⟩
    · have e : c = k := by omega
      subst e
      refine sub_mk [(1, 2)] rfl rfl rfl ?_
      simp only [tmSub, hpSub, objSub, eqTm, eqHp, rn, lk, SV.ren, SV.renC, SV.renB, SV.renA, ren_ints, ren_strs, ren_pl, ren_svs, SV.v.injEq, Value.int.injEq, Body.ints.injEq, SV.ptr.injEq, SV.sl.injEq, Value.string.injEq, Value.bool.injEq, List.map_cons, List.map_nil, forall_const, Nat.reduceLT, Nat.lt_add_one, imp_self, true_and, and_true, and_self, ob_some, get_mk, lk_cons, ↓reduceIte, Nat.reduceEqDiff, ne_eq, not_true_eq_false, not_false_eq_true, Nat.one_ne_zero, Nat.zero_ne_one, Nat.succ_ne_self, Nat.reduceAdd, Bool.false_eq_true, false_implies, implies_true, reduceCtorEq]
def f25 (i o m : Nat) (X K : Int) (H : Hp) (n : Nat) : Option (SV × Hp × Nat) :=
  if i = 0 then (if o = 0 ∧ m = 0 ∧ 0 < K ∧ K ≤ 8 ∧ n < 1000 then some (.sl n 0 K.toNat 1, H.put n ⟨true, .ints .u8 (numb X K.toNat K.toNat)⟩, n + 1) else none) else
    (H.get i).bind fun s => (intsB .u8 s.b).bind fun ys => if s.wr = true ∧ i < 1000 ∧ o + m ≤ ys.length ∧ m ≤ 1099511627776 ∧ 0 < K ∧ K ≤ 8 ∧ n < 1000 then
      some (.sl n 0 (m + K.toNat) 1, ⟨(n, some ⟨true, .ints .u8 ((ys.drop o).take m ++ numb X K.toNat K.toNat)⟩) :: (i, none) :: H.l, H.x⟩, n + 1) else none
def c25 : Ctr := fun args H n => match args with
  | [.sl i o m 1, .v (.int .u64 X), .v (.int .i64 K)] => f25 i o m X K H n
  | _ => none
theorem k25 (h : OKT P C) (t : trFn P 61 = some m25) : OKT P (C.add 61 (det c25)) := h.add t fun args H n v H' n' hc => by
  unfold c25 at hc
  split at hc
  case h_2 => cases hc
  rename_i i o m X K
  unfold f25 at hc
  split at hc
  · rename_i hi
    subst hi
    split at hc
    case isFalse => cases hc
    rename_i hcond
    obtain ⟨rfl, rfl, q3, q4, q5⟩ := hcond
    cases hc
    obtain ⟨k, rfl⟩ : ∃ k : Nat, K = k := ⟨K.toNat, by omega⟩
    have := lift (n := n) (h.spec t (w25n (x := H.x) (X := X) (k := k) (by omega) (by omega))) [] rfl rfl rfl (by omega) rfl rfl trivial rfl rfl (by omega)
    exact this
  · rename_i hi
    simp only [Option.bind_eq_some_iff] at hc
    obtain ⟨⟨wr, b⟩, hg, ys, hys, hc⟩ := hc
    have := intsB_some hys; subst this
    split at hc
    case isFalse => cases hc
    rename_i hcond
    obtain ⟨q1, q2, q3, q4, q5, q6, q7⟩ := hcond
    simp only at q1; subst q1
    cases hc
    obtain ⟨k, rfl⟩ : ∃ k : Nat, K = k := ⟨K.toNat, by omega⟩
    have := lift (n := n) (h.spec t (w25 (x := H.x) (X := X) (k := k) q3 (by omega) (by omega) q4)) [(1, i)] rfl rfl rfl (by omega) rfl rfl ⟨by
      unfold objSub
      rw [show rn [(1, i)] 1 = i from rfl, if_neg hi, hg]
      exact ⟨fun _ => q2, fun _ => rfl, rfl⟩, trivial⟩ (by simp [apartB, apart1]) (by simp [wrNZ, rn, lk]; exact hi) (by omega)
    exact this
variable {P : Program} {C : Tab} {H : Hp} {n : Nat} {x : Nat → Option SO}
theorem w34 {vs ks ys : List Int} {o L a : Nat} (hC : C 85 = det c43) (hv : vs.length = 8) (hk : ks.length = 64) (ho : o + L ≤ ys.length) (ha : a + 64 ≤ L) (hL : L ≤ 1099511627776) :
    fnVC C m34 [.ai .u32 vs, .ptr 1 0, .sl 2 o L 1, .v (.int .i64 a)] ⟨[(1, some ⟨false, .ints .u32 ks⟩), (2, some ⟨false, .ints .u8 ys⟩)], x⟩ 3 fun v H' n' => Sub 3 ⟨[(0, .ai .u32 (blk vs ks ys (o + a)))], ⟨[], x⟩, 3⟩ ⟨[(0, v)], H', n'⟩ := by
  unfold m34
  simp -implicitDefEqProofs only [go_sem, ↓reduceIte, Nat.reduceEqDiff, Nat.reduceAdd, Nat.reduceMul, Nat.reduceLT, Nat.reduceLeDiff, Nat.reduceSub, Int.reduceToNat, Int.reduceLE, Int.reduceLT, reduceCtorEq]
  refine loop_fam (fun t : Nat => t ≤ 16) (fun t => ⟨[(1, .ptr 1 0), (2, .sl 2 o L 1), (3, .v (.int .i64 a)), (4, .ptr 3 0), (8, .ptr 4 0), (9, .ptr 5 0), (10, .v (.int .i64 t))], ⟨[(1, some ⟨false, .ints .u32 ks⟩), (2, some ⟨false, .ints .u8 ys⟩), (3, some ⟨true, .ints .u32 vs⟩), (4, some ⟨true, .ints .u32 [0, 0, 0, 0, 0, 0, 0, 0]⟩), (5, some ⟨true, .ints .u32 (Wa ys (o + a) t)⟩)], x⟩, 6⟩) (fun t => 16 - t) 0 (by omega) ?_ ?_
  · exact sub0 rfl rfl (by simp only [tmSub, hpSub, objSub, eqTm, eqHp, rn, lk, SV.ren, SV.renC, SV.renB, SV.renA, ren_ints, ren_strs, ren_pl, ren_svs, SV.v.injEq, Value.int.injEq, Body.ints.injEq, SV.ptr.injEq, SV.sl.injEq, Value.string.injEq, Value.bool.injEq, List.map_cons, List.map_nil, forall_const, Nat.reduceLT, Nat.lt_add_one, imp_self, true_and, and_true, and_self, ob_some, get_mk, lk_cons, ↓reduceIte, Nat.reduceEqDiff, ne_eq, not_true_eq_false, not_false_eq_true, Nat.one_ne_zero, Nat.zero_ne_one, Nat.succ_ne_self, Nat.reduceAdd, Bool.false_eq_true, false_implies, implies_true, reduceCtorEq]; exact ⟨rfl, rfl⟩)
  · intro t ht
    simp -implicitDefEqProofs only [go_sem, ↓reduceIte, Nat.reduceEqDiff, Nat.reduceAdd, Nat.reduceMul, Nat.reduceLT, Nat.reduceLeDiff, Nat.reduceSub, Int.reduceToNat, Int.reduceLE, Int.reduceLT, reduceCtorEq]
    refine condK_of (fun h => ?_) (fun h => ?_)
    · simp (disch := omega) only [wrap_i64]
      and_intros
      all_goals try omega
      · simp only [Wa_len _ _ (show t ≤ 64 by omega)]; omega
      · refine kLoop_mk (t + 1) (by omega) (by omega) (sub0 rfl rfl ?_)
        simp only [tmSub, hpSub, objSub, eqTm, eqHp, rn, lk, SV.ren, SV.renC, SV.renB, SV.renA, ren_ints, ren_strs, ren_pl, ren_svs, SV.v.injEq, Value.int.injEq, Body.ints.injEq, SV.ptr.injEq, SV.sl.injEq, Value.string.injEq, Value.bool.injEq, List.map_cons, List.map_nil, forall_const, Nat.reduceLT, Nat.lt_add_one, imp_self, true_and, and_true, and_self, ob_some, get_mk, lk_cons, ↓reduceIte, Nat.reduceEqDiff, ne_eq, not_true_eq_false, not_false_eq_true, Nat.one_ne_zero, Nat.zero_ne_one, Nat.succ_ne_self, Nat.reduceAdd, Bool.false_eq_true, false_implies, implies_true, reduceCtorEq]
        refine ⟨by omega, ?_⟩
        rw [← Wa_set ys (o + a) (by omega), if_pos (by omega)]
        simp only [word, show ((a : Int) + 4 * (t : Int)).toNat = a + 4 * t by omega, show ((a : Int) + 4 * (t : Int) + 1).toNat = a + 4 * t + 1 by omega, show ((a : Int) + 4 * (t : Int) + 2).toNat = a + 4 * t + 2 by omega, show ((a : Int) + 4 * (t : Int) + 3).toNat = a + 4 * t + 3 by omega, Nat.add_assoc]
    · have e : t = 16 := by omega
      subst e
      refine loop_fam (fun t : Nat => 16 ≤ t ∧ t ≤ 64) (fun t => ⟨[(1, .ptr 1 0), (4, .ptr 3 0), (8, .ptr 4 0), (9, .ptr 5 0), (12, .v (.int .i64 t))], ⟨[(1, some ⟨false, .ints .u32 ks⟩), (3, some ⟨true, .ints .u32 vs⟩), (4, some ⟨true, .ints .u32 [0, 0, 0, 0, 0, 0, 0, 0]⟩), (5, some ⟨true, .ints .u32 (Wa ys (o + a) t)⟩)], x⟩, 6⟩) (fun t => 64 - t) 16 (by omega) ?_ ?_
      · exact sub0 rfl rfl (by simp only [tmSub, hpSub, objSub, eqTm, eqHp, rn, lk, SV.ren, SV.renC, SV.renB, SV.renA, ren_ints, ren_strs, ren_pl, ren_svs, SV.v.injEq, Value.int.injEq, Body.ints.injEq, SV.ptr.injEq, SV.sl.injEq, Value.string.injEq, Value.bool.injEq, List.map_cons, List.map_nil, forall_const, Nat.reduceLT, Nat.lt_add_one, imp_self, true_and, and_true, and_self, ob_some, get_mk, lk_cons, ↓reduceIte, Nat.reduceEqDiff, ne_eq, not_true_eq_false, not_false_eq_true, Nat.one_ne_zero, Nat.zero_ne_one, Nat.succ_ne_self, Nat.reduceAdd, Bool.false_eq_true, false_implies, implies_true, reduceCtorEq]; rfl)
      · rintro t ⟨ht0, ht⟩
        simp -implicitDefEqProofs only [go_sem, ↓reduceIte, Nat.reduceEqDiff, Nat.reduceAdd, Nat.reduceMul, Nat.reduceLT, Nat.reduceLeDiff, Nat.reduceSub, Int.reduceToNat, Int.reduceLE, Int.reduceLT, reduceCtorEq, hC, c43, c36]
        refine condK_of (fun h => ?_) (fun h => ?_)
        · simp (disch := omega) only [wrap_i64]
          and_intros
          all_goals try omega
          all_goals try (rw [Wa_len _ _ ht]; omega)
          refine kLoop_mk (t + 1) (by omega) (by omega) (sub0 rfl rfl ?_)
          simp only [tmSub, hpSub, objSub, eqTm, eqHp, rn, lk, SV.ren, SV.renC, SV.renB, SV.renA, ren_ints, ren_strs, ren_pl, ren_svs, SV.v.injEq, Value.int.injEq, Body.ints.injEq, SV.ptr.injEq, SV.sl.injEq, Value.string.injEq, Value.bool.injEq, List.map_cons, List.map_nil, forall_const, Nat.reduceLT, Nat.lt_add_one, imp_self, true_and, and_true, and_self, ob_some, get_mk, lk_cons, ↓reduceIte, Nat.reduceEqDiff, ne_eq, not_true_eq_false, not_false_eq_true, Nat.one_ne_zero, Nat.zero_ne_one, Nat.succ_ne_self, Nat.reduceAdd, Bool.false_eq_true, false_implies, implies_true, reduceCtorEq]
          refine ⟨by omega, ?_⟩
          rw [← Wa_set ys (o + a) (by omega), if_neg (by omega)]
          simp only [show ((t : Int) - 15).toNat = t - 15 by omega, show ((t : Int) - 2).toNat = t - 2 by omega, show ((t : Int) - 16).toNat = t - 16 by omega, show ((t : Int) - 7).toNat = t - 7 by omega, Wa_get ys (o + a) (show t - 15 < t by omega), Wa_get ys (o + a) (show t - 2 < t by omega), Wa_get ys (o + a) (show t - 16 < t by omega), Wa_get ys (o + a) (show t - 7 < t by omega)]
          rfl
        · have e : t = 64 := by omega
          subst e
          have hW : (Wa ys (o + a) 64).length = 64 := Wa_len _ _ (Nat.le_refl _)
          unfold blk
          generalize Wa ys (o + a) 64 = W at hW ⊢
          have e8 : vs.take 8 = vs := List.take_of_length_le (by omega)
          rw [e8]
          refine ⟨by omega, by omega, ?_⟩
          refine loop_fam (fun t : Nat => t ≤ 64) (fun t => ⟨[(1, .ptr 1 0), (4, .ptr 3 0), (8, .ptr 4 0), (9, .ptr 5 0), (15, .ptr 6 0), (16, .v (.int .i64 t))], ⟨[(1, some ⟨false, .ints .u32 ks⟩), (3, some ⟨true, .ints .u32 vs⟩), (4, some ⟨true, .ints .u32 [0, 0, 0, 0, 0, 0, 0, 0]⟩), (5, some ⟨true, .ints .u32 W⟩), (6, some ⟨true, .ints .u32 (Rd vs ks W t)⟩)], x⟩, 7⟩) (fun t => 64 - t) 0 (by omega) ?_ ?_
          · refine sub0 rfl rfl ?_
            simp only [tmSub, hpSub, objSub, eqTm, eqHp, rn, lk, SV.ren, SV.renC, SV.renB, SV.renA, ren_ints, ren_strs, ren_pl, ren_svs, SV.v.injEq, Value.int.injEq, Body.ints.injEq, SV.ptr.injEq, SV.sl.injEq, Value.string.injEq, Value.bool.injEq, List.map_cons, List.map_nil, forall_const, Nat.reduceLT, Nat.lt_add_one, imp_self, true_and, and_true, and_self, ob_some, get_mk, lk_cons, ↓reduceIte, Nat.reduceEqDiff, ne_eq, not_true_eq_false, not_false_eq_true, Nat.one_ne_zero, Nat.zero_ne_one, Nat.succ_ne_self, Nat.reduceAdd, Bool.false_eq_true, false_implies, implies_true, reduceCtorEq]
            refine ⟨rfl, ?_⟩
            simp [splice, hv, Rd]
          · intro t ht
            have hu8 : (Rd vs ks W t).length = 8 := by cases t <;> simp [Rd, stp, hv]
            generalize hu : Rd vs ks W t = u at hu8
            have hs : ∀ m : List Int, m.length = 8 → splice u 0 m = m := fun m hm => by simp [splice, hm, hu8]
            simp -implicitDefEqProofs only [go_sem, ↓reduceIte, Nat.reduceEqDiff, Nat.reduceAdd, Nat.reduceMul, Nat.reduceLT, Nat.reduceLeDiff, Nat.reduceSub, Int.reduceToNat, Int.reduceLE, Int.reduceLT, reduceCtorEq, hC, c43, c36]
            refine condK_of (fun h => ?_) (fun h => ?_)
            · and_intros
              all_goals try (first | omega | decide)
              refine ob_of rfl (ob_of rfl ?_)
              and_intros
              all_goals try (first | omega | rfl)
              rw [wrap_i64 (by omega) (by omega)]
              refine kLoop_mk (t + 1) (by omega) (by omega) (sub0 rfl rfl ?_)
              simp only [tmSub, hpSub, objSub, eqTm, eqHp, rn, lk, SV.ren, SV.renC, SV.renB, SV.renA, ren_ints, ren_strs, ren_pl, ren_svs, SV.v.injEq, Value.int.injEq, Body.ints.injEq, SV.ptr.injEq, SV.sl.injEq, Value.string.injEq, Value.bool.injEq, List.map_cons, List.map_nil, forall_const, Nat.reduceLT, Nat.lt_add_one, imp_self, true_and, and_true, and_self, ob_some, get_mk, lk_cons, ↓reduceIte, Nat.reduceEqDiff, ne_eq, not_true_eq_false, not_false_eq_true, Nat.one_ne_zero, Nat.zero_ne_one, Nat.succ_ne_self, Nat.reduceAdd, Bool.false_eq_true, false_implies, implies_true, reduceCtorEq]
              refine ⟨by omega, ?_⟩
              rw [hs _ (by simp), Rd, hu]
              rfl
            · have e : t = 64 := by omega
              subst e
              rw [hu]
              refine loop_fam (fun i : Nat => i ≤ 8) (fun i => ⟨[(4, .ptr 3 0), (8, .ptr 4 0), (15, .ptr 6 0), (21, .v (.int .i64 i))], ⟨[(3, some ⟨true, .ints .u32 (Va vs u i)⟩), (4, some ⟨true, .ints .u32 [0, 0, 0, 0, 0, 0, 0, 0]⟩), (6, some ⟨true, .ints .u32 u⟩)], x⟩, 7⟩) (fun i => 8 - i) 0 (by omega) ?_ ?_
              · exact sub0 rfl rfl (by simp only [tmSub, hpSub, objSub, eqTm, eqHp, rn, lk, SV.ren, SV.renC, SV.renB, SV.renA, ren_ints, ren_strs, ren_pl, ren_svs, SV.v.injEq, Value.int.injEq, Body.ints.injEq, SV.ptr.injEq, SV.sl.injEq, Value.string.injEq, Value.bool.injEq, List.map_cons, List.map_nil, forall_const, Nat.reduceLT, Nat.lt_add_one, imp_self, true_and, and_true, and_self, ob_some, get_mk, lk_cons, ↓reduceIte, Nat.reduceEqDiff, ne_eq, not_true_eq_false, not_false_eq_true, Nat.one_ne_zero, Nat.zero_ne_one, Nat.succ_ne_self, Nat.reduceAdd, Bool.false_eq_true, false_implies, implies_true, reduceCtorEq, Va_0 vs u hv]; rfl)
              · intro i hi
                have hvl := Va_len vs u i
                simp -implicitDefEqProofs only [go_sem, ↓reduceIte, Nat.reduceEqDiff, Nat.reduceAdd, Nat.reduceMul, Nat.reduceLT, Nat.reduceLeDiff, Nat.reduceSub, Int.reduceToNat, Int.reduceLE, Int.reduceLT, reduceCtorEq]
                refine condK_of (fun h => ?_) (fun h => ?_)
                · simp (disch := omega) only [wrap_i64]
                  and_intros
                  all_goals try omega
                  refine kLoop_mk (i + 1) (by omega) (by omega) (sub0 rfl rfl ?_)
                  simp only [tmSub, hpSub, objSub, eqTm, eqHp, rn, lk, SV.ren, SV.renC, SV.renB, SV.renA, ren_ints, ren_strs, ren_pl, ren_svs, SV.v.injEq, Value.int.injEq, Body.ints.injEq, SV.ptr.injEq, SV.sl.injEq, Value.string.injEq, Value.bool.injEq, List.map_cons, List.map_nil, forall_const, Nat.reduceLT, Nat.lt_add_one, imp_self, true_and, and_true, and_self, ob_some, get_mk, lk_cons, ↓reduceIte, Nat.reduceEqDiff, ne_eq, not_true_eq_false, not_false_eq_true, Nat.one_ne_zero, Nat.zero_ne_one, Nat.succ_ne_self, Nat.reduceAdd, Bool.false_eq_true, false_implies, implies_true, reduceCtorEq]
                  refine ⟨by omega, ?_⟩
                  rw [Va_get _ _ (by omega)]
                  exact Va_set vs u (by omega)
                · have e : i = 8 := by omega
                  subst e
                  have e8' : (Va vs u 8).take 8 = Va vs u 8 := List.take_of_length_le (by omega)
                  rw [e8']
                  have hs8 : splice [0, 0, 0, 0, 0, 0, 0, 0] 0 (Va vs u 8) = Va vs u 8 := by simp [splice, hvl]
                  rw [hs8, e8']
                  exact ⟨by omega, by omega, by omega, sub_val rfl (by decide) (by decide) rfl⟩
def f34 (vs : List Int) (j p o L : Nat) (a : Int) (H : Hp) (n : Nat) : Option (SV × Hp × Nat) :=
  (H.get j).bind fun t => (H.get p).bind fun u => (intsB .u32 t.b).bind fun ks => (intsB .u8 u.b).bind fun ys =>
    if vs.length = 8 ∧ ks.length = 64 ∧ o + L ≤ ys.length ∧ 0 ≤ a ∧ a.toNat + 64 ≤ L ∧ L ≤ 1099511627776 ∧ j ≠ 0 ∧ p ≠ 0 then some (.ai .u32 (blk vs ks ys (o + a.toNat)), H, n) else none
def c34 : Ctr := fun args H n => match args with
  | [.ai .u32 vs, .ptr j 0, .sl p o L 1, .v (.int .i64 a)] => f34 vs j p o L a H n
  | _ => none
theorem k34 (h : OKT P C) (t : trFn P 75 = some m34) (h43 : C 85 = det c43) : OKT P (C.add 75 (det c34)) := h.add t fun args H n v H' n' hc => by
  unfold c34 at hc
  split at hc
  case h_2 => cases hc
  rename_i vs j p o L a
  unfold f34 at hc
  simp only [Option.bind_eq_some_iff] at hc
  obtain ⟨⟨wr2, b2⟩, hg2, ⟨wr3, b3⟩, hg3, ks, hks, ys, hys, hc⟩ := hc
  split at hc
  case isFalse => cases hc
  rename_i hcond
  obtain ⟨q1, q2, q3, q4, q5, q6, q7, q8⟩ := hcond
  have e2 := intsB_some hks; subst e2
  have e3 := intsB_some hys; subst e3
  cases hc
  obtain ⟨k, rfl⟩ : ∃ k : Nat, a = k := ⟨a.toNat, by omega⟩
  have := lift_ro (n := n) (h.spec t (w34 (x := H.x) h43 q1 q2 q3 q5 q6)) [(1, j), (2, p)] rfl rfl rfl (by omega) rfl rfl ⟨?_, ?_, trivial⟩ rfl rfl rfl
  · exact this
  · unfold objSub
    rw [show rn [(1, j), (2, p)] 1 = j from rfl, if_neg q7, hg2]
    exact ⟨fun h => (by cases h), fun h => (by cases h), rfl⟩
  · unfold objSub
    rw [show rn [(1, j), (2, p)] 2 = p from rfl, if_neg q8, hg3]
    exact ⟨fun h => (by cases h), fun h => (by cases h), rfl⟩
variable {P : Program} {C : Tab} {H : Hp} {n : Nat} {x : Nat → Option SO}
theorem ishr_0 (k : IntKind) (x : Int) : ishr k x 0 = x := by
  unfold ishr
  simp
theorem numb8 (X : Int) : numb X 8 8 = be8 X := by
  simp [numb, be8, ishr_0]
def isW (v : Int) : Prop := 0 ≤ v ∧ v ≤ 4294967295
theorem ishr_64 {v : Int} {y : Int} (h : isW v) (hy : 0 ≤ y ∧ y ≤ 32) : ishr .u64 (IntKind.u64.wrap v) y = ishr .u32 v y := by
  rw [wrap_u64r h.1 (by have := h.2; omega)]
  unfold ishr
  rw [Nat.min_eq_left (by simp [IntKind.bits]; omega), Nat.min_eq_left (by simp [IntKind.bits]; omega)]
theorem numb4 {v : Int} (h : isW v) : numb (IntKind.u64.wrap v) 4 4 = be4 v := by
  simp only [numb, be4, List.nil_append, List.cons_append]
  rw [ishr_64 h (by omega), ishr_64 h (by omega), ishr_64 h (by omega), ishr_64 h (by omega)]
  simp [ishr_0]
theorem isW_add (a b : Int) : isW (add32 a b) := by
  unfold add32 isW; rw [wrap_u32]; omega
theorem Hs_w (B : List Int) (j : Nat) {i : Nat} (hi : i < 8) : isW ((Hs B j).getD i 0) := by
  cases j with
  | zero =>
    show isW (iv.getD i 0)
    have : i = 0 ∨ i = 1 ∨ i = 2 ∨ i = 3 ∨ i = 4 ∨ i = 5 ∨ i = 6 ∨ i = 7 := by omega
    rcases this with h | h | h | h | h | h | h | h <;> subst h <;> (constructor <;> decide)
  | succ j =>
    simp only [Hs, blk, Va]
    rw [List.getD_eq_getElem?_getD, List.getElem?_map, List.getElem?_range hi]
    simp only [Option.map_some, Option.getD_some, if_pos hi]
    exact isW_add _ _
theorem w24 {zs : List Int} {o m : Nat} (hom : o + m ≤ zs.length) (hm : m ≤ 1073741824) (h25 : C 61 = det c25) (h33 : C 74 = det c33) (h34 : C 75 = det c34) :
    fnVC C m24 [.sl 1 o m 1] ⟨[(1, some ⟨true, .ints .u8 zs⟩)], x⟩ 2 fun v H' n' => Sub 2 ⟨[(0, .v (.string (sha ((zs.drop o).take m))))], ⟨[(1, none)], x⟩, 2⟩ ⟨[(0, v)], H', n'⟩ := by
  have hz : ((zs.drop o).take m).length = m := by simp; omega
  unfold m24
  simp -implicitDefEqProofs only [go_sem, ↓reduceIte, Nat.reduceEqDiff, Nat.reduceAdd, Nat.reduceMul, Nat.reduceLT, Nat.reduceLeDiff, Nat.reduceSub, Int.reduceToNat, Int.reduceLE, Int.reduceLT, reduceCtorEq]
  refine ob_of rfl (ob_of (a := iv) rfl ?_)
  refine ⟨rfl, by omega, by omega, by omega, ?_⟩
  generalize (zs.drop o).take m = ys at hz ⊢
  subst hz
  have hp := pad_len ys
  have hB : pad ys = ((ys ++ [128]) ++ List.replicate (Int.toNat ((119 - (ys.length : Int).tmod 64).tmod 64)) 0) ++ be8 (IntKind.u64.wrap (IntKind.u64.wrap ys.length * 8)) := rfl
  have hL : (pad ys).length = ys.length + 1 + Int.toNat ((119 - (ys.length : Int).tmod 64).tmod 64) + 8 := by
    rw [hB]; simp [be8]; omega
  have hZ : Int.toNat ((119 - (ys.length : Int).tmod 64).tmod 64) < 64 := by
    have e1 : (ys.length : Int).tmod 64 = (ys.length : Int) % 64 := Int.tmod_eq_emod_of_nonneg (by omega)
    rw [e1, Int.tmod_eq_emod_of_nonneg (by omega)]; omega
  generalize Int.toNat ((119 - (ys.length : Int).tmod 64).tmod 64) = Z at hB hL hZ
  refine loop_fam (fun z : Nat => z ≤ Z) (fun z => ⟨[(0, .sl 4 0 (ys.length + 1 + z) 1), (3, .ptr 2 0), (4, .v (.int .i64 ys.length))], ⟨[(2, some ⟨true, .ints .u32 iv⟩), (4, some ⟨true, .ints .u8 (ys ++ [128] ++ List.replicate z 0)⟩), (1, none)], x⟩, 5⟩) (fun z => Z - z) 0 (by omega) ?_ ?_
  · refine sub0 rfl rfl ?_
    simp only [tmSub, hpSub, objSub, eqTm, eqHp, rn, lk, SV.ren, SV.renC, SV.renB, SV.renA, ren_ints, ren_strs, ren_pl, ren_svs, SV.v.injEq, Value.int.injEq, Body.ints.injEq, SV.ptr.injEq, SV.sl.injEq, Value.string.injEq, Value.bool.injEq, List.map_cons, List.map_nil, forall_const, Nat.reduceLT, Nat.lt_add_one, imp_self, true_and, and_true, and_self, ob_some, get_mk, lk_cons, ↓reduceIte, Nat.reduceEqDiff, ne_eq, not_true_eq_false, not_false_eq_true, Nat.one_ne_zero, Nat.zero_ne_one, Nat.succ_ne_self, Nat.reduceAdd, Bool.false_eq_true, false_implies, implies_true, reduceCtorEq]
    exact ⟨rfl, by simp⟩
  · intro z hzz
    have hzl : (ys ++ [128] ++ List.replicate z 0).take (ys.length + 1 + z) = ys ++ [128] ++ List.replicate z 0 := List.take_of_length_le (by simp; omega)
    simp -implicitDefEqProofs only [go_sem, ↓reduceIte, Nat.reduceEqDiff, Nat.reduceAdd, Nat.reduceMul, Nat.reduceLT, Nat.reduceLeDiff, Nat.reduceSub, Int.reduceToNat, Int.reduceLE, Int.reduceLT, reduceCtorEq, h25, c25, f25, h33, c33]
    rw [hzl]
    have et : ((ys.length + 1 + z : Nat) : Int).tmod 64 = ((ys.length + 1 + z : Nat) : Int) % 64 := Int.tmod_eq_emod_of_nonneg (by omega)
    rw [et]
    refine ⟨by decide, condK_ofN (fun h => ?_) (fun h => ?_)⟩
    · have hne : z ≠ Z := fun e => by subst e; omega
      refine ⟨by omega, by omega, by simp; omega, kLoop_mk (z + 1) (by omega) (by omega) (sub_mk [(4, 6)] rfl rfl rfl ?_)⟩
      simp only [tmSub, hpSub, objSub, eqTm, eqHp, rn, lk, SV.ren, SV.renC, SV.renB, SV.renA, ren_ints, ren_strs, ren_pl, ren_svs, SV.v.injEq, Value.int.injEq, Body.ints.injEq, SV.ptr.injEq, SV.sl.injEq, Value.string.injEq, Value.bool.injEq, List.map_cons, List.map_nil, forall_const, Nat.reduceLT, Nat.lt_add_one, imp_self, true_and, and_true, and_self, ob_some, get_mk, lk_cons, ↓reduceIte, Nat.reduceEqDiff, ne_eq, not_true_eq_false, not_false_eq_true, Nat.one_ne_zero, Nat.zero_ne_one, Nat.succ_ne_self, Nat.reduceAdd, Bool.false_eq_true, false_implies, implies_true, reduceCtorEq]
      refine ⟨by omega, ?_⟩
      rw [List.replicate_succ', List.append_assoc]
    · have e : z = Z := by omega
      subst e
      refine ⟨⟨by simp; omega, by omega⟩, rfl, ?_⟩
      rw [numb8, ← hB]
      rw [show ys.length + 1 + z + 8 = (pad ys).length by omega]
      clear hB hzl et hL
      refine loop_fam (fun j : Nat => 64 * j ≤ (pad ys).length) (fun j => ⟨[(0, .sl 5 0 (pad ys).length 1), (3, .ptr 2 0), (5, .ptr 6 0), (6, .v (.int .i64 (64 * j : Nat)))], ⟨[(2, some ⟨true, .ints .u32 (Hs (pad ys) j)⟩), (5, some ⟨true, .ints .u8 (pad ys)⟩), (6, some ⟨true, .ints .u32 kk⟩), (1, none)], x⟩, 7⟩) (fun j => (pad ys).length - 64 * j) 0 (by omega) ?_ ?_
      · refine sub0 rfl rfl ?_
        simp only [tmSub, hpSub, objSub, eqTm, eqHp, rn, lk, SV.ren, SV.renC, SV.renB, SV.renA, ren_ints, ren_strs, ren_pl, ren_svs, SV.v.injEq, Value.int.injEq, Body.ints.injEq, SV.ptr.injEq, SV.sl.injEq, Value.string.injEq, Value.bool.injEq, List.map_cons, List.map_nil, forall_const, Nat.reduceLT, Nat.lt_add_one, imp_self, true_and, and_true, and_self, ob_some, get_mk, lk_cons, ↓reduceIte, Nat.reduceEqDiff, ne_eq, not_true_eq_false, not_false_eq_true, Nat.one_ne_zero, Nat.zero_ne_one, Nat.succ_ne_self, Nat.reduceAdd, Bool.false_eq_true, false_implies, implies_true, reduceCtorEq]
        exact ⟨rfl, rfl, rfl⟩
      · intro j hj
        have hl8 := Hs_len (pad ys) j
        have ht8 : (Hs (pad ys) j).take 8 = Hs (pad ys) j := List.take_of_length_le (by omega)
        simp -implicitDefEqProofs only [go_sem, ↓reduceIte, Nat.reduceEqDiff, Nat.reduceAdd, Nat.reduceMul, Nat.reduceLT, Nat.reduceLeDiff, Nat.reduceSub, Int.reduceToNat, Int.reduceLE, Int.reduceLT, reduceCtorEq, h34, c34, f34]
        rw [ht8]
        refine condK_of (fun h => ?_) (fun h => ?_)
        · have hs : ∀ m : List Int, m.length = 8 → splice (Hs (pad ys) j) 0 m = m := fun m hm => by simp [splice, hm, hl8]
          refine ⟨by omega, ⟨hl8, rfl, by omega, by omega, by omega⟩, blk_len _ _ _ _, by omega, kLoop_mk (j + 1) (by omega) (by omega) (sub0 rfl rfl ?_)⟩
          rw [wrap_i64 (by omega) (by omega), hs _ (blk_len _ _ _ _)]
          simp only [tmSub, hpSub, objSub, eqTm, eqHp, rn, lk, SV.ren, SV.renC, SV.renB, SV.renA, ren_ints, ren_strs, ren_pl, ren_svs, SV.v.injEq, Value.int.injEq, Body.ints.injEq, SV.ptr.injEq, SV.sl.injEq, Value.string.injEq, Value.bool.injEq, List.map_cons, List.map_nil, forall_const, Nat.reduceLT, Nat.lt_add_one, imp_self, true_and, and_true, and_self, ob_some, get_mk, lk_cons, ↓reduceIte, Nat.reduceEqDiff, ne_eq, not_true_eq_false, not_false_eq_true, Nat.one_ne_zero, Nat.zero_ne_one, Nat.succ_ne_self, Nat.reduceAdd, Bool.false_eq_true, false_implies, implies_true, reduceCtorEq]
          exact ⟨by omega, rfl⟩
        · have e : j = (pad ys).length / 64 := by omega
          have eS : sha ys = tx (outb (Hs (pad ys) j)) := by rw [e]; rfl
          rw [eS]
          have hwd := fun i (hi : i < 8) => Hs_w (pad ys) j hi
          clear eS e ht8
          generalize Hs (pad ys) j = V at hl8 hwd
          refine loop_fam (fun i : Nat => i ≤ 8) (fun i => ⟨[(3, .ptr 2 0), (7, .sl 4 0 (outb (V.take i)).length 1), (8, .v (.int .i64 i))], ⟨[(2, some ⟨true, .ints .u32 V⟩), (4, some ⟨true, .ints .u8 (outb (V.take i))⟩), (1, none)], x⟩, 5⟩) (fun i => 8 - i) 0 (by omega) ?_ ?_
          · refine sub_mk [(4, 0)] rfl rfl rfl ?_
            simp only [tmSub, hpSub, objSub, eqTm, eqHp, rn, lk, SV.ren, SV.renC, SV.renB, SV.renA, ren_ints, ren_strs, ren_pl, ren_svs, SV.v.injEq, Value.int.injEq, Body.ints.injEq, SV.ptr.injEq, SV.sl.injEq, Value.string.injEq, Value.bool.injEq, List.map_cons, List.map_nil, forall_const, Nat.reduceLT, Nat.lt_add_one, imp_self, true_and, and_true, and_self, ob_some, get_mk, lk_cons, ↓reduceIte, Nat.reduceEqDiff, ne_eq, not_true_eq_false, not_false_eq_true, Nat.one_ne_zero, Nat.zero_ne_one, Nat.succ_ne_self, Nat.reduceAdd, Bool.false_eq_true, false_implies, implies_true, reduceCtorEq]
            exact ⟨⟨rfl, rfl⟩, rfl⟩
          · intro i hi
            have ho := outb_len (V.take i)
            rw [List.length_take] at ho
            simp -implicitDefEqProofs only [go_sem, ↓reduceIte, Nat.reduceEqDiff, Nat.reduceAdd, Nat.reduceMul, Nat.reduceLT, Nat.reduceLeDiff, Nat.reduceSub, Int.reduceToNat, Int.reduceLE, Int.reduceLT, reduceCtorEq, h25, c25, f25]
            refine condK_of (fun h => ?_) (fun h => ?_)
            · refine ⟨by omega, by omega, by omega, ?_⟩
              rw [numb4 (hwd i (by omega)), wrap_i64 (by omega) (by omega)]
              refine kLoop_mk (i + 1) (by omega) (by omega) (sub_mk [(4, 5)] rfl rfl rfl ?_)
              have e : outb (V.take (i + 1)) = outb (V.take i) ++ be4 (V.getD i 0) := by
                rw [take_succ_getD (by omega)]; simp [outb]
              simp only [tmSub, hpSub, objSub, eqTm, eqHp, rn, lk, SV.ren, SV.renC, SV.renB, SV.renA, ren_ints, ren_strs, ren_pl, ren_svs, SV.v.injEq, Value.int.injEq, Body.ints.injEq, SV.ptr.injEq, SV.sl.injEq, Value.string.injEq, Value.bool.injEq, List.map_cons, List.map_nil, forall_const, Nat.reduceLT, Nat.lt_add_one, imp_self, true_and, and_true, and_self, ob_some, get_mk, lk_cons, ↓reduceIte, Nat.reduceEqDiff, ne_eq, not_true_eq_false, not_false_eq_true, Nat.one_ne_zero, Nat.zero_ne_one, Nat.succ_ne_self, Nat.reduceAdd, Bool.false_eq_true, false_implies, implies_true, reduceCtorEq]
              rw [e]
              exact ⟨⟨by simp [be4], by omega⟩, rfl⟩
            · have e : i = 8 := by omega
              subst e
              rw [List.take_of_length_le (by omega)]
              exact sub_mk [] rfl rfl rfl (by simp only [tmSub, hpSub, objSub, eqTm, eqHp, rn, lk, SV.ren, SV.renC, SV.renB, SV.renA, ren_ints, ren_strs, ren_pl, ren_svs, SV.v.injEq, Value.int.injEq, Body.ints.injEq, SV.ptr.injEq, SV.sl.injEq, Value.string.injEq, Value.bool.injEq, List.map_cons, List.map_nil, forall_const, Nat.reduceLT, Nat.lt_add_one, imp_self, true_and, and_true, and_self, ob_some, get_mk, lk_cons, ↓reduceIte, Nat.reduceEqDiff, ne_eq, not_true_eq_false, not_false_eq_true, Nat.one_ne_zero, Nat.zero_ne_one, Nat.succ_ne_self, Nat.reduceAdd, Bool.false_eq_true, false_implies, implies_true, reduceCtorEq])
variable {P : Program} {C : Tab} {H : Hp} {n : Nat} {x : Nat → Option SO}
def f24 (i o m : Nat) (H : Hp) (n : Nat) : Option (SV × Hp × Nat) :=
  (H.get i).bind fun s => (intsB .u8 s.b).bind fun zs => if s.wr = true ∧ o + m ≤ zs.length ∧ m ≤ 1073741824 ∧ 0 < i ∧ i < 1000 then some (.v (.string (sha ((zs.drop o).take m))), H.del i, n) else none
def c24 : Ctr := fun args H n => match args with
  | [.sl i o m 1] => f24 i o m H n
  | _ => none
theorem k24 (h : OKT P C) (t : trFn P 65 = some m24) (h25 : C 61 = det c25) (h33 : C 74 = det c33) (h34 : C 75 = det c34) : OKT P (C.add 65 (det c24)) := h.add t fun args H n v H' n' hc => by
  unfold c24 at hc
  split at hc
  · rename_i i o m
    unfold f24 at hc
    simp only [Option.bind_eq_some_iff] at hc
    obtain ⟨⟨wr, b⟩, hg, zs, hz, hc⟩ := hc
    have := intsB_some hz; subst this
    split at hc
    · rename_i hcond
      obtain ⟨q1, q2, q3, q4, q5⟩ := hcond
      simp only at q1; subst q1
      cases hc
      have := lift_w1 (n := n) (r := none) hg (fun _ => rfl) rfl q4 q5 rfl rfl (h.spec t (w24 q2 q3 h25 h33 h34))
      rw [show H.del i = ⟨(i, none) :: H.l, H.x⟩ from rfl]
      simpa [SV.ren, SV.renC, SV.renB, SV.renA, rn, lk] using this
    · cases hc
  · cases hc
theorem w13 {k : Int} {ss : List ByteArray} {o m : Nat} (hom : o + m ≤ ss.length) (hb : m ≤ 1099511627776) (hl : (tagb k ((ss.drop o).take m)).length ≤ 1073741824) (h24 : C 65 = det c24) (h25 : C 61 = det c25) :
    fnVC C m13 [.v (.int .u8 k), .sl 1 o m 1] ⟨[(1, some ⟨false, .strs ss⟩)], x⟩ 2 fun v H' n' => Sub 2 ⟨[(0, .v (.string (sha (tagb k ((ss.drop o).take m)))))], ⟨[], x⟩, 2⟩ ⟨[(0, v)], H', n'⟩ := by
  have hps : ((ss.drop o).take m).length = m := by simp; omega
  have hget : ∀ t, t < m → ((ss.drop o).take m).getD t .empty = ss.getD (o + t) .empty := fun t ht => by rw [take_getD ht, drop_getD]
  generalize (ss.drop o).take m = ps at hl hps hget ⊢
  unfold m13
  simp -implicitDefEqProofs only [go_sem, ↓reduceIte, Nat.reduceEqDiff, Nat.reduceAdd, Nat.reduceMul, Nat.reduceLT, Nat.reduceLeDiff, Nat.reduceSub, Int.reduceToNat, Int.reduceLE, Int.reduceLT, reduceCtorEq]
  refine loop_fam (fun t : Nat => t ≤ m) (fun t => ⟨[(1, .sl 1 o m 1), (5, .sl 2 0 (tagb k (ps.take t)).length 1), (6, .v (.int .i64 t))], ⟨[(1, some ⟨false, .strs ss⟩), (2, some ⟨true, .ints .u8 (tagb k (ps.take t))⟩)], x⟩, 3⟩) (fun t => m - t) 0 (by omega) ?_ ?_
  · refine sub_mk [] rfl rfl rfl ?_
    simp only [tmSub, hpSub, objSub, eqTm, eqHp, rn, lk, SV.ren, SV.renC, SV.renB, SV.renA, ren_ints, ren_strs, ren_pl, ren_svs, SV.v.injEq, Value.int.injEq, Body.ints.injEq, SV.ptr.injEq, SV.sl.injEq, Value.string.injEq, Value.bool.injEq, List.map_cons, List.map_nil, forall_const, Nat.reduceLT, Nat.lt_add_one, imp_self, true_and, and_true, and_self, ob_some, get_mk, lk_cons, ↓reduceIte, Nat.reduceEqDiff, ne_eq, not_true_eq_false, not_false_eq_true, Nat.one_ne_zero, Nat.zero_ne_one, Nat.succ_ne_self, Nat.reduceAdd, Bool.false_eq_true, false_implies, implies_true, reduceCtorEq]
    exact ⟨⟨rfl, rfl⟩, rfl⟩
  · intro t ht
    have h1 := tagb_le (k := k) (l := ps) t
    simp -implicitDefEqProofs only [go_sem, ↓reduceIte, Nat.reduceEqDiff, Nat.reduceAdd, Nat.reduceMul, Nat.reduceLT, Nat.reduceLeDiff, Nat.reduceSub, Int.reduceToNat, Int.reduceLE, Int.reduceLT, reduceCtorEq, h24, c24, f24, h25, c25, f25]
    refine condK_of (fun h => ?_) (fun h => ?_)
    · have h2 := tagb_le (k := k) (l := ps) (t + 1)
      rw [tagb_succ (by omega), List.length_append, List.length_append, bts_len, hget t (by omega)] at h2
      simp only [be4, List.length_cons, List.length_nil] at h2
      have hw : isW ((ss.getD (o + t) .empty).size : Int) := ⟨by omega, by omega⟩
      rw [numb4 hw, wrap_i64 (by omega) (by omega)]
      refine ⟨by omega, by omega, by omega, by omega, by omega, by omega, by simp [be4], kLoop_mk (t + 1) (by omega) (by omega) (sub_mk [(2, 4)] rfl rfl rfl ?_)⟩
      rw [List.take_of_length_le (l := tagb k (ps.take t) ++ _) (by simp [be4])]
      simp only [tmSub, hpSub, objSub, eqTm, eqHp, rn, lk, SV.ren, SV.renC, SV.renB, SV.renA, ren_ints, ren_strs, ren_pl, ren_svs, SV.v.injEq, Value.int.injEq, Body.ints.injEq, SV.ptr.injEq, SV.sl.injEq, Value.string.injEq, Value.bool.injEq, List.map_cons, List.map_nil, forall_const, Nat.reduceLT, Nat.lt_add_one, imp_self, true_and, and_true, and_self, ob_some, get_mk, lk_cons, ↓reduceIte, Nat.reduceEqDiff, ne_eq, not_true_eq_false, not_false_eq_true, Nat.one_ne_zero, Nat.zero_ne_one, Nat.succ_ne_self, Nat.reduceAdd, Bool.false_eq_true, false_implies, implies_true, reduceCtorEq]
      rw [tagb_succ (by omega), hget t (by omega), List.length_append, List.length_append, bts_len, wrap_u32r hw.1 hw.2]
      exact ⟨⟨rfl, by omega⟩, rfl⟩
    · have e9 : ps.take t = ps := List.take_of_length_le (by omega)
      rw [e9]
      refine ⟨by omega, sub_mk [] rfl rfl rfl ?_⟩
      simp only [tmSub, hpSub, objSub, eqTm, eqHp, rn, lk, SV.ren, SV.renC, SV.renB, SV.renA, ren_ints, ren_strs, ren_pl, ren_svs, SV.v.injEq, Value.int.injEq, Body.ints.injEq, SV.ptr.injEq, SV.sl.injEq, Value.string.injEq, Value.bool.injEq, List.map_cons, List.map_nil, forall_const, Nat.reduceLT, Nat.lt_add_one, imp_self, true_and, and_true, and_self, ob_some, get_mk, lk_cons, ↓reduceIte, Nat.reduceEqDiff, ne_eq, not_true_eq_false, not_false_eq_true, Nat.one_ne_zero, Nat.zero_ne_one, Nat.succ_ne_self, Nat.reduceAdd, Bool.false_eq_true, false_implies, implies_true, reduceCtorEq]
def c13 : Ctr := c12
theorem k13 (h : OKT P C) (t : trFn P 54 = some m13) (h24 : C 65 = det c24) (h25 : C 61 = det c25) : OKT P (C.add 54 (det c13)) := h.add t fun args H n v H' n' hc => by
  unfold c13 c12 at hc
  split at hc
  · rename_i k i o m
    unfold f12 at hc
    simp only [Option.bind_eq_some_iff] at hc
    obtain ⟨b, hb, ss, hs, hc⟩ := hc
    have := strsB_some hs; subst this
    split at hc
    · rename_i hcond
      cases hc
      exact lift_read (pre := [.int .u8 k]) hb ⟨rfl, fun _ h => by cases h⟩ (fun _ => rfl) rfl (h.spec t (w13 hcond.1 hcond.2.1 hcond.2.2 h24 h25))
    · cases hc
  · cases hc
end
end Go.Sx
/- The table of the hash's contracts at this program. -/
set_option linter.unusedVariables false
set_option maxRecDepth 100000
namespace Go.Sx
open Go.Proofs
variable {H : Hp} {n : Nat} {x : Nat → Option SO}
theorem mixT : Tryz.prog.follows .mixedOrders = true := Checked.mixed Tryz.checked
abbrev CT : Tab := CS Tryz.prog
theorem okT : OKT Tryz.prog CT := okCS mixT
def C1 : Tab := (((((((((((((((Tab.none Tryz.prog).add 115 (det c45)).add 112 (det c36)).add 101 (det c28)).add 102 (det c29)).add 103 (det c30)).add 104 (det c32)).add 84 (det c23)).add 72 (det c12)).add 74 (det c33)).add 85 (det c43)).add 75 (det c34)).add 61 (det c25)).add 65 (det c24)).add 54 (det c13))
theorem ok1 : OKT Tryz.prog C1 :=
  k13 (k24 (k25 (k34 (k43 (k33 (k12 (k23 (k32 (k30 (k29 (k28 (k36 (k45 (OKT.none mixT) t45) t36 rfl) t28) t29) t30 rfl) t32) t23 rfl rfl rfl rfl) t12 rfl) t33) t43) t34 rfl) t25) t24 rfl rfl rfl) t13 rfl rfl
theorem tagS {k : Int} {i o m : Nat} {ss : List ByteArray} (hr : rowAt H i (.strs []) = some (.strs ss)) (hom : o + m ≤ ss.length) (hb : m ≤ 1099511627776) (hl : (tagb k ((ss.drop o).take m)).length ≤ 1073741824) :
    SpecAt Tryz.prog 72 [.v (.int .u8 k), .sl i o m 1] H n (.v (.string (sha (tagb k ((ss.drop o).take m))))) H n := by
  refine spec_of_ctr (ok1.tab.f 72) ?_
  show f12 k i o m H n = _
  unfold f12; rw [hr]; simp only [Option.bind_some, strsB_mk, if_pos (And.intro hom (And.intro hb hl))]
theorem rtagS {k : Int} {i o m : Nat} {ss : List ByteArray} (hr : rowAt H i (.strs []) = some (.strs ss)) (hom : o + m ≤ ss.length) (hb : m ≤ 1099511627776) (hl : (tagb k ((ss.drop o).take m)).length ≤ 1073741824) :
    SpecAt Tryz.prog 54 [.v (.int .u8 k), .sl i o m 1] H n (.v (.string (sha (tagb k ((ss.drop o).take m))))) H n := by
  refine spec_of_ctr (ok1.tab.f 54) ?_
  show f12 k i o m H n = _
  unfold f12; rw [hr]; simp only [Option.bind_some, strsB_mk, if_pos (And.intro hom (And.intro hb hl))]
theorem sha_size (ys : List Int) : (sha ys).size = 32 := by
  unfold sha; rw [tx_sz, outb_len, Hs_len]
end Go.Sx
