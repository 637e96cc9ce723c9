/- The program's one-time signatures: texts of numbers, a chain's links. -/
import Derived.Test.YtbdgjfcchmainaaGreatLB
import Derived.Test.YtbdgjfcchmainaaGreatBld
import Derived.Sort.Walk0

set_option linter.unusedVariables false
set_option linter.unusedSimpArgs false
set_option maxRecDepth 100000
namespace Go.Sx
attribute [local go_sem ↓] bind_mk intsB_mk strsB_mk svB_mk fnVC ob_some vc_skip vc_exit vc_ret vc_seq vc_block kSeq_normal kSeq_exit kSeq_ret kBlock_normal kBlock_exit kBlock_ret vc_reg vc_regD vc_cond condK_true condK_false vc_loop kLoop_exit kLoop_ret kRoll_normal kRoll_exit kRoll_ret vcOps_nil vcOps_cons gd_bool gd_undef put_some put_none vcT_fin vcT_pure vcT_act vcT_acts vcT_stop stab_none stab_some stabM_nil stabM_cons stabO_ld stabO_ldn stabO_slP stabO_b2s fldOf_ai fldOf_agg fldOf_ait fldOf_aggt intsOf_nil intsOf_cons strsOf_nil strsOf_cons c_omap ob_if lk_nil lk_cons ev_t ev_k z_mov z_pick z_bin z_binA z_binB z_binP z_un z_r2s z_conv z_s2b z_b2s z_mkM z_luM z_upM z_lenM lenMk_mp lenMk_nil plsOf_v z_delM asM_so plV_v plV_agg mpOf_mp mpOf_nil mpUp_mp asM_mp luV_ok luV_v z_allocT aggOf_mk z_boxT z_alloc z_bld z_bldI z_rowI z_rowS z_ld z_ldn z_st z_stn asN_ptr asN_fn z_nilck z_fld z_fadr z_idxA z_idxP z_idxS z_idxV z_slS z_slL z_slP z_mk z_lenS z_lenL z_app appC_ints appC_pl appC_sv appC_strs isS_strs loose_ints loose_pl loose_sv z_slM z_callv callvK_fn callvK_f callvK_yl vc_rangeF rfEnd_eq rfGo_none rfGo_ret rfGo_exit yGo_mk yEnd_n yEnd_r yEnd_e yRdy_mk yMid_n putPs_nil putPs_cons leaf_v leaf_ptr leaf_sl leaf_yl leaf_mp z_appS z_appST z_appZ z_cpyS z_mkfn reps_int reps_str z_rowV z_slnil nilK_zero z_cpy z_call asT_tup z_extT z_box boxOf_ai boxOf_agg boxOf_int boxOf_str boxOf_bool boxOf_ptr boxOf_sl sbin_int sbin_str sbinA_mk ae_nil ae_int ae_str sbinB_mk sbinP_nn sbinP_pn sbinP_np i_add i_sub i_mul i_quo i_rem i_and i_or i_xor i_andNot i_shl i_shr i_eql i_neq i_lss i_leq i_gtr i_geq st_add st_eql st_neq st_lss st_leq st_gtr st_geq bo_eql bo_neq pt_eql pt_neq un_neg un_xor un_not asI_mk asB_mk asS_mk asP_mk asSl_mk asBy_mk bnd_none bnd_some get_mk hput_mk hdel_mk kill_eq wrOf_eq rowOf_eq rsvs_0 rsvs_1 rsvs_2 rsvs_3 rsv_t rsv_c1 rsv_cn nt_v nt_ptr nt_sl nt_agg nt_ai get_ints get_strs get_pl get_sv getN_ints getN_sv set_ints set_strs set_sv setN_ints setN_sv part_ints part_strs part_sv cat_ints cat_strs cat_sv over_ints over_strs over_sv ones_ints ones_strs evs_nil evs_cons condK_eqt condK_eqf det_callP V_ns V_nn V_gs V_gn obC_mk fresh_ev freshT_ev freshR_ev setN_plagg setN_intsv setN_svai setN_svagg over_intsv set_pl setN_pl setN_plai getN_pl getN_strs part_pl cat_pl over_pl over_plints z_mm
attribute [local go_sem] initTm ne_eq not_true_eq_false not_false_eq_true true_and and_true List.length_cons List.length_nil Int.toNat_natCast Nat.add_zero Nat.zero_add Nat.mul_one List.getElem?_cons_zero List.drop_zero List.take_length List.take_succ_cons List.take_zero List.take_nil List.drop_succ_cons Option.map_some Nat.le_refl implies_true List.getElem?_cons_succ decide_true decide_false Bool.not_true Bool.not_false beq_self_eq_true Nat.succ_ne_self Nat.one_ne_zero Nat.zero_ne_one vk_mk hk_mk nk_mk tok_eq plsOf_map intsOf_map bodyOf_pl bodyOf_ints bodyOf_strs bodyOf_sv part_aggv part_agg part_ai part_int part_str part_bool part_sl part_ptr part_nil numsOf_map u_int u_str u_bool u_pnil u_sl u_ptr u_oci u_ocs evq_nil evq_cons fillS_nil fillS_cons u_ocb ones_pl cells_sv cells_ints cells_strs cells_pl smms_nil smms_cons smm_min smm_max plsOf_nil List.nil_append List.all_cons List.all_nil Bool.and_self Bool.true_and Bool.and_true zws_len zw_len zi_len List.set_cons_zero List.set_cons_succ List.flatMap_cons List.flatMap_nil List.append_nil
attribute [local go_sem_proc] Nat.reduceEqDiff Nat.reduceAdd Nat.reduceMul Nat.reduceLT Nat.reduceLeDiff Nat.reduceSub Int.reduceToNat Int.reduceLE Int.reduceLT reduceCtorEq Int.reduceEq Int.reduceGT Int.reduceGE Int.reduceNeg
attribute [local go_sem_proc ↓] reduceIte
section
open Go.Proofs
variable {H : Hp} {n : Nat} {x : Nat → Option SO}
def tagH (k : Int) (ss : List ByteArray) : ByteArray := sha (tagb k ss)
theorem tagH_size (k : Int) (ss : List ByteArray) : (tagH k ss).size = 32 := sha_size _
theorem tagc_len (s : ByteArray) : (tagc s).length = 4 + s.size := by unfold tagc; rw [List.length_append, bts_len]; rfl
theorem tagb_len (k : Int) (ss : List ByteArray) : (tagb k ss).length = 1 + (ss.map fun s => 4 + s.size).sum := by
  unfold tagb
  rw [List.length_cons, List.length_flatMap, Nat.add_comm]
  congr 2
  exact List.map_congr_left fun s _ => tagc_len s
theorem tag_any {k : Int} {ss : List ByteArray} {i m : Nat} (hr : rowAt H i (.strs []) = some (.strs ss)) (hm : ss.length = m) (hb : m ≤ 1000) (hl : (ss.map fun s => 4 + s.size).sum ≤ 1073741000) :
    SpecAt Tryz.prog 72 [.v (.int .u8 k), .sl i 0 m 1] H n (.v (.string (tagH k ss))) H n := by
  have e : (ss.drop 0).take m = ss := by rw [List.drop_zero]; exact List.take_of_length_le (by omega)
  have h := tagS (n := n) (k := k) (o := 0) (m := m) hr (by omega) (by omega) (by rw [e, tagb_len]; omega)
  rw [e] at h; exact h
theorem rtag_any {k : Int} {ss : List ByteArray} {i m : Nat} (hr : rowAt H i (.strs []) = some (.strs ss)) (hm : ss.length = m) (hb : m ≤ 1000) (hl : (ss.map fun s => 4 + s.size).sum ≤ 1073741000) :
    SpecAt Tryz.prog 54 [.v (.int .u8 k), .sl i 0 m 1] H n (.v (.string (tagH k ss))) H n := by
  have e : (ss.drop 0).take m = ss := by rw [List.drop_zero]; exact List.take_of_length_le (by omega)
  have h := rtagS (n := n) (k := k) (o := 0) (m := m) hr (by omega) (by omega) (by rw [e, tagb_len]; omega)
  rw [e] at h; exact h
def one (i : Nat) : ByteArray := tx [(i : Int)]
def two (k : Nat) : ByteArray := tx [0, (k : Int)]
theorem one_size (i : Nat) : (one i).size = 1 := rfl
theorem two_size (i : Nat) : (two i).size = 2 := rfl
theorem ext_size (s : ByteArray) {a b : Nat} (h : b ≤ s.size) (hab : a ≤ b) : (s.extract a b).size = b - a := by rw [ByteArray.size_extract]; omega
theorem oneS {i : Nat} (hi : i ≤ 255) : SpecAt Tryz.prog noone [.v (.int .i64 i)] H n (.v (.string (one i))) H n := lift_pure (okT.spec toone (by
  unfold moone
  simp -implicitDefEqProofs only [↓fnVC, initTm]
  have e : IntKind.u8.wrap (i : Int) = i := wrap_u8r (by omega) (by omega)
  simp -implicitDefEqProofs only [go_sem, e]
  exact sub_val rfl (by decide) (by decide) rfl)) rfl
theorem shr8 {k : Nat} (hk : k < 2) : IntKind.u8.wrap (ishr .i64 (k : Int) 8) = 0 := by
  have : k = 0 ∨ k = 1 := by omega
  rcases this with rfl | rfl <;> decide
theorem twoS {k : Nat} (hk : k < 2) : SpecAt Tryz.prog notwo [.v (.int .i64 k)] H n (.v (.string (two k))) H n := lift_pure (okT.spec totwo (by
  unfold motwo
  simp -implicitDefEqProofs only [↓fnVC, initTm]
  have e : IntKind.u8.wrap (k : Int) = k := wrap_u8r (by omega) (by omega)
  have e2 := shr8 hk
  simp -implicitDefEqProofs only [go_sem, e, e2]
  exact sub_val rfl (by decide) (by decide) rfl)) rfl
theorem fitS {k : Nat} (hk : k < 2) : SpecAt Tryz.prog nofit [.v (.int .i64 k)] H n (.v (.int .i64 0)) H n := lift_pure (okT.spec tofit (by
  unfold mofit
  simp -implicitDefEqProofs only [↓fnVC, initTm]
  have e1 : decide ((k : Int) < 0) = false := decide_eq_false (by omega)
  have e2 : decide ((65535 : Int) < (k : Int)) = false := decide_eq_false (by omega)
  simp -implicitDefEqProofs only [go_sem, e1, e2]
  exact sub_val rfl (by decide) (by decide) rfl)) rfl
def lnk (k i j : Nat) (s : ByteArray) : ByteArray := (tagH 33 [two k, one i, one j, s]).extract 0 16
def chn (k i f : Nat) : Nat → ByteArray → ByteArray
  | 0, s => s
  | c + 1, s => lnk k i (f + c) (chn k i f c s)
theorem lnk_size (k i j : Nat) (s : ByteArray) : (lnk k i j s).size = 16 := by
  unfold lnk; rw [ext_size _ (by rw [tagH_size]; decide) (by decide)]
theorem chn_size (k i f c : Nat) (s : ByteArray) (h : s.size ≤ 1000) : (chn k i f c s).size ≤ 1000 := by
  cases c with
  | zero => exact h
  | succ c => show (lnk ..).size ≤ _; rw [lnk_size]; decide
theorem chn_16 (k i f c : Nat) (s : ByteArray) (h : s.size = 16) : (chn k i f c s).size = 16 := by
  cases c with
  | zero => exact h
  | succ c => exact lnk_size ..
theorem chainS {k i f t : Nat} {s : ByteArray} (hk : k < 2) (hi : i < 18) (hf : f ≤ t) (ht : t ≤ 15) (hs : s.size ≤ 1000) : SpecAt Tryz.prog nochain [.v (.int .i64 k), .v (.int .i64 i), .v (.int .i64 f), .v (.int .i64 t), .v (.string s)] H n (.v (.string (chn k i f (t - f) s))) H n := lift_pure (okT.spec tochain (by
  unfold mochain
  simp -implicitDefEqProofs only [↓fnVC, initTm]
  simp -implicitDefEqProofs only [go_sem]
  refine loop_fam (fun c : Nat => f + c ≤ t) (fun c => ⟨[(0, .v (.int .i64 k)), (1, .v (.int .i64 i)), (3, .v (.int .i64 t)), (4, .v (.string (chn k i f c s))), (11, .v (.int .i64 (f + c : Nat)))], ⟨[], H.x⟩, 1⟩) (fun c => t - c) 0 (by omega) ?_ ?_
  · refine sub_mk [] rfl rfl rfl ?_
    simp only [tmSub, hpSub, objSub, eqTm, eqHp, rn, lk, SV.ren, SV.renC, SV.renB, SV.renA, ren_ints, ren_strs, ren_pl, ren_svs, SV.v.injEq, Value.int.injEq, Body.ints.injEq, SV.ptr.injEq, SV.sl.injEq, Value.string.injEq, Value.bool.injEq, List.map_cons, List.map_nil, forall_const, Nat.reduceLT, Nat.lt_add_one, imp_self, true_and, and_true, and_self, ob_some, get_mk, lk_cons, ↓reduceIte, Nat.reduceEqDiff, ne_eq, not_true_eq_false, not_false_eq_true, Nat.one_ne_zero, Nat.zero_ne_one, Nat.succ_ne_self, Nat.reduceAdd, Bool.false_eq_true, false_implies, implies_true, reduceCtorEq]
    exact ⟨rfl, rfl⟩
  · intro c hc
    simp -implicitDefEqProofs only [go_sem]
    refine condK_bb (fun e => ?_) (fun e => ?_)
    · have e1 := of_decide_eq_true e
      have hsz := chn_size k i f c s hs
      simp -implicitDefEqProofs only [go_sem, e]
      refine at_call totwo (twoS hk) ?_
      simp -implicitDefEqProofs only [go_sem]
      refine at_call toone (oneS (by omega)) ?_
      simp -implicitDefEqProofs only [go_sem]
      refine at_call toone (oneS (by omega)) ?_
      simp -implicitDefEqProofs only [go_sem]
      refine at_call t12 (tag_any (ss := [two k, one i, one (f + c), chn k i f c s]) (m := 4) (by rfl) rfl (by decide) (by simp only [List.map_cons, List.map_nil, List.sum_cons, List.sum_nil, two_size, one_size]; omega)) ?_
      simp -implicitDefEqProofs only [go_sem]
      have h32 := tagH_size 33 [two k, one i, one (f + c), chn k i f c s]
      refine ⟨by rw [h32]; decide, ?_⟩
      have w3 : IntKind.i64.wrap (((f + c : Nat) : Int) + 1) = ((f + (c + 1) : Nat) : Int) := by rw [wrap_i64 (by omega) (by omega)]; omega
      simp -implicitDefEqProofs only [go_sem, w3]
      refine kLoop_mk (c + 1) (by omega) (by omega) ?_
      refine sub_mk [] rfl rfl rfl ?_
      simp only [tmSub, hpSub, objSub, eqTm, eqHp, rn, lk, SV.ren, SV.renC, SV.renB, SV.renA, ren_ints, ren_strs, ren_pl, ren_svs, SV.v.injEq, Value.int.injEq, Body.ints.injEq, SV.ptr.injEq, SV.sl.injEq, Value.string.injEq, Value.bool.injEq, List.map_cons, List.map_nil, forall_const, Nat.reduceLT, Nat.lt_add_one, imp_self, true_and, and_true, and_self, ob_some, get_mk, lk_cons, ↓reduceIte, Nat.reduceEqDiff, ne_eq, not_true_eq_false, not_false_eq_true, Nat.one_ne_zero, Nat.zero_ne_one, Nat.succ_ne_self, Nat.reduceAdd, Bool.false_eq_true, false_implies, implies_true, reduceCtorEq, w3]
      rfl
    · have e1 := of_decide_eq_false e
      have ec : t - f = c := by omega
      simp -implicitDefEqProofs only [go_sem, e]
      refine sub_val rfl (by decide) (by decide) ?_
      rw [ec])) rfl
end
section
/- The program's digits of a text. -/
set_option linter.unusedVariables false
set_option linter.unusedSimpArgs false
set_option maxRecDepth 100000
open Go.Proofs
variable {H : Hp} {n : Nat} {x : Nat → Option SO}
def dP (ys : List Int) (t : Nat) : List Int := (List.range 18).map fun j => if j < 2 * t then (if j % 2 = 0 then ys.getD (j / 2) 0 / 16 else ys.getD (j / 2) 0 % 16) else 0
def sP (ys : List Int) : Nat → Int
  | 0 => 0
  | t + 1 => sP ys t + (30 - ys.getD t 0 / 16 - ys.getD t 0 % 16)
theorem dP_len (ys : List Int) (t : Nat) : (dP ys t).length = 18 := by simp [dP]
theorem dP_get (ys : List Int) {t j : Nat} (h : j < 18) : (dP ys t).getD j 0 = if j < 2 * t then (if j % 2 = 0 then ys.getD (j / 2) 0 / 16 else ys.getD (j / 2) 0 % 16) else 0 := by
  simp [dP, List.getD_eq_getElem?_getD, h]
theorem dP_succ (ys : List Int) {t : Nat} (h : t < 8) : ((dP ys t).set (2 * t) (ys.getD t 0 / 16)).set (2 * t + 1) (ys.getD t 0 % 16) = dP ys (t + 1) := by
  refine List.ext_getElem (by simp [dP]) fun j h1 h2 => ?_
  rw [dP_len] at h2
  simp only [List.getElem_set, dP, List.getElem_map, List.getElem_range]
  by_cases e : 2 * t + 1 = j
  · subst e
    rw [if_pos rfl, if_pos (by omega), if_neg (by omega), show (2 * t + 1) / 2 = t by omega]
  · rw [if_neg e]
    by_cases e2 : 2 * t = j
    · subst e2
      rw [if_pos rfl, if_pos (by omega), if_pos (by omega), show 2 * t / 2 = t by omega]
    · rw [if_neg e2]
      by_cases e3 : j < 2 * t
      · rw [if_pos e3, if_pos (show j < 2 * (t + 1) by omega)]
      · rw [if_neg e3, if_neg (show ¬ j < 2 * (t + 1) by omega)]
theorem sP_bd {ys : List Int} (hb : ∀ i, 0 ≤ ys.getD i 0 ∧ ys.getD i 0 ≤ 255) : ∀ t, 0 ≤ sP ys t ∧ sP ys t ≤ 30 * t
  | 0 => by simp [sP]
  | t + 1 => by
    have := sP_bd hb t; have := hb t
    simp only [sP]; omega
def dgs (ys : List Int) : List Int := ((dP ys 8).set 16 (sP ys 8 / 16)).set 17 (sP ys 8 % 16)
theorem dgs_len (ys : List Int) : (dgs ys).length = 18 := by simp [dgs, dP_len]
def dig (s : ByteArray) : List Int := dgs (bts ((tagH 34 [s]).extract 0 8))
theorem btsb (s : ByteArray) (i : Nat) : 0 ≤ (bts s).getD i 0 ∧ (bts s).getD i 0 ≤ 255 := by
  unfold bts
  rw [List.getD_eq_getElem?_getD, List.getElem?_map]
  cases s.data.toList[i]? with
  | none => simp
  | some b => simp; have := b.toNat_lt; omega
theorem all256 {p : Int → Prop} (h : ∀ i : Fin 256, p (i.val : Int)) {c : Int} (h0 : 0 ≤ c) (h1 : c ≤ 255) : p c := by
  have := h ⟨c.toNat, by omega⟩
  rwa [show ((⟨c.toNat, by omega⟩ : Fin 256).val : Int) = c by simp; omega] at this
theorem hi16 {c : Int} (h0 : 0 ≤ c) (h1 : c ≤ 255) : ishr .u8 c 4 = c / 16 ∧ iand .u8 c 15 = c % 16 := all256 (p := fun c => ishr .u8 c 4 = c / 16 ∧ iand .u8 c 15 = c % 16) (by decide) h0 h1
theorem hi16l {c : Int} (h0 : 0 ≤ c) (h1 : c ≤ 255) : ishr .i64 c 4 = c / 16 ∧ iand .i64 c 15 = c % 16 := all256 (p := fun c => ishr .i64 c 4 = c / 16 ∧ iand .i64 c 15 = c % 16) (by decide) h0 h1
theorem digitsW {s : ByteArray} (hs : s.size ≤ 1000000000) : fnVC CT modigits [.v (.string s)] ⟨[], x⟩ 1 fun v H' n' => Sub 1 ⟨[(0, .ai .i64 (dig s))], ⟨[], x⟩, 1⟩ ⟨[(0, v)], H', n'⟩ := by
  unfold modigits
  simp -implicitDefEqProofs only [↓fnVC, initTm]
  simp -implicitDefEqProofs only [go_sem]
  refine at_call t12 (tag_any (ss := [s]) (m := 1) (by rfl) rfl (by decide) (by simp only [List.map_cons, List.map_nil, List.sum_cons, List.sum_nil]; omega)) ?_
  have h32 := tagH_size 34 [s]
  have h8 : ((tagH 34 [s]).extract 0 8).size = 8 := ext_size _ (by rw [h32]; decide) (by decide)
  simp -implicitDefEqProofs only [go_sem]
  refine ⟨by rw [h32]; decide, ?_⟩
  simp -implicitDefEqProofs only [go_sem, h8]
  have hd : dig s = dgs (bts ((tagH 34 [s]).extract 0 8)) := rfl
  generalize hT : (tagH 34 [s]).extract 0 8 = T at h8 hd ⊢
  have hb := btsb T
  generalize hY : bts T = ys at hb hd ⊢
  refine loop_fam (fun t : Nat => t ≤ 8) (fun t => ⟨[(3, .ptr 2 0), (2, .ptr 1 0), (4, .v (.int .i64 (sP ys t))), (11, .sl 3 0 8 1), (12, .v (.int .i64 8)), (13, .v (.int .i64 t))], ⟨[(1, some ⟨true, .ints .i64 (List.replicate 18 0)⟩), (2, some ⟨true, .ints .i64 (dP ys t)⟩), (3, some ⟨true, .ints .u8 ys⟩)], x⟩, 4⟩) (fun t => 8 - t) 0 (by omega) ?_ ?_
  · refine sub_mk [(3, 4)] rfl rfl rfl ?_
    simp only [tmSub, hpSub, objSub, eqTm, eqHp, rn, lk, SV.ren, SV.renC, SV.renB, SV.renA, ren_ints, ren_strs, ren_pl, ren_svs, SV.v.injEq, Value.int.injEq, Body.ints.injEq, SV.ptr.injEq, SV.sl.injEq, Value.string.injEq, Value.bool.injEq, List.map_cons, List.map_nil, forall_const, Nat.reduceLT, Nat.lt_add_one, imp_self, true_and, and_true, and_self, ob_some, get_mk, lk_cons, ↓reduceIte, Nat.reduceEqDiff, ne_eq, not_true_eq_false, not_false_eq_true, Nat.one_ne_zero, Nat.zero_ne_one, Nat.succ_ne_self, Nat.reduceAdd, Bool.false_eq_true, false_implies, implies_true, reduceCtorEq]
    exact ⟨⟨rfl, h8, by omega, rfl⟩, rfl, rfl⟩
  · intro t ht
    simp -implicitDefEqProofs only [go_sem]
    refine condK_bb (fun e => ?_) (fun e => ?_)
    · have e1 : t < 8 := by have := of_decide_eq_true e; omega
      have hy := hb t
      have a1 : IntKind.i64.wrap (2 * (t : Int)) = ((2 * t : Nat) : Int) := by rw [wrap_i64 (by omega) (by omega)]; omega
      have a2 : IntKind.i64.wrap (((2 * t : Nat) : Int) + 1) = ((2 * t + 1 : Nat) : Int) := by rw [wrap_i64 (by omega) (by omega)]; omega
      have a3 : IntKind.i64.wrap (ishr .u8 (ys.getD t 0) 4) = ys.getD t 0 / 16 := by rw [(hi16 hy.1 hy.2).1, wrap_i64 (by omega) (by omega)]
      have a4 : IntKind.i64.wrap (iand .u8 (ys.getD t 0) 15) = ys.getD t 0 % 16 := by rw [(hi16 hy.1 hy.2).2, wrap_i64 (by omega) (by omega)]
      have a5 := dP_succ ys e1
      have a6 : (dP ys (t + 1)).getD (2 * t) 0 = ys.getD t 0 / 16 := by rw [dP_get ys (by omega), if_pos (by omega), if_pos (by omega), show 2 * t / 2 = t by omega]
      have a7 : (dP ys (t + 1)).getD (2 * t + 1) 0 = ys.getD t 0 % 16 := by rw [dP_get ys (by omega), if_pos (by omega), if_neg (by omega), show (2 * t + 1) / 2 = t by omega]
      have hs := sP_bd hb t
      have a8 : IntKind.i64.wrap (sP ys t + IntKind.i64.wrap (IntKind.i64.wrap (30 - ys.getD t 0 / 16) - ys.getD t 0 % 16)) = sP ys (t + 1) := by
        rw [wrap_i64 (n := 30 - ys.getD t 0 / 16) (by omega) (by omega), wrap_i64 (n := 30 - ys.getD t 0 / 16 - ys.getD t 0 % 16) (by omega) (by omega), wrap_i64 (by omega) (by omega)]; rfl
      have a9 : IntKind.i64.wrap ((t : Int) + 1) = ((t + 1 : Nat) : Int) := by rw [wrap_i64 (by omega) (by omega)]; omega
      simp -implicitDefEqProofs only [go_sem, e, a1, a2, a3, a4, a5, a6, a7, a8, a9]
      have l1 : (bts T).length = 8 := by rw [bts_len, h8]
      rw [hY] at l1
      have l2 := dP_len ys t
      have l3 := dP_len ys (t + 1)
      refine ⟨by omega, by omega, by omega, by omega, by omega, by rw [List.length_set]; omega, by omega, by omega, by omega, by omega, ?_⟩
      refine kLoop_mk (t + 1) (by omega) (by omega) ?_
      refine sub_mk [] rfl rfl rfl ?_
      simp only [tmSub, hpSub, objSub, eqTm, eqHp, rn, lk, SV.ren, SV.renC, SV.renB, SV.renA, ren_ints, ren_strs, ren_pl, ren_svs, SV.v.injEq, Value.int.injEq, Body.ints.injEq, SV.ptr.injEq, SV.sl.injEq, Value.string.injEq, Value.bool.injEq, List.map_cons, List.map_nil, forall_const, Nat.reduceLT, Nat.lt_add_one, imp_self, true_and, and_true, and_self, ob_some, get_mk, lk_cons, ↓reduceIte, Nat.reduceEqDiff, ne_eq, not_true_eq_false, not_false_eq_true, Nat.one_ne_zero, Nat.zero_ne_one, Nat.succ_ne_self, Nat.reduceAdd, Bool.false_eq_true, false_implies, implies_true, reduceCtorEq]
      done
    · have e1 : t = 8 := by have := of_decide_eq_false e; omega
      subst e1
      have hs := sP_bd hb 8
      have a1 := (hi16l (c := sP ys 8) hs.1 (by omega)).1
      have a2 := (hi16l (c := sP ys 8) hs.1 (by omega)).2
      simp -implicitDefEqProofs only [go_sem, e, a1, a2]
      have hlen := dgs_len ys
      have l2 := dP_len ys 8
      have hD : List.take 18 (splice (List.replicate 18 (0 : Int)) 0 (List.take 18 (dgs ys))) = dgs ys := by
        have e2 : List.take 18 (dgs ys) = dgs ys := List.take_of_length_le (by omega)
        unfold splice
        rw [e2, hlen]
        simp [hlen]
        exact e2
      unfold dgs at hlen hD hd
      refine ⟨by decide, by omega, by decide, by rw [List.length_set]; omega, by omega, by rw [List.length_take]; omega, by decide, ?_, ?_⟩
      · unfold splice; simp [hlen]
      · refine sub_val rfl (by decide) (by decide) ?_
        rw [hD, hd]
end
section
/- The program's Recover. -/
set_option linter.unusedVariables false
set_option linter.unusedSimpArgs false
set_option maxRecDepth 100000
open Go.Proofs
variable {H : Hp} {n : Nat} {x : Nat → Option SO}
theorem seq_self (s : ByteArray) : seq s s = true := by unfold seq; simp
theorem seq_ne {a b : ByteArray} (h : a ≠ b) : seq a b = false := by
  unfold seq
  rw [ByteArray.toList_eq, ByteArray.toList_eq, beq_eq_false_iff_ne]
  intro e
  obtain ⟨⟨p⟩⟩ := a
  obtain ⟨⟨q⟩⟩ := b
  simp at e
  subst e
  exact h rfl
theorem tx_bts (s : ByteArray) : tx (bts s) = s := by
  obtain ⟨⟨l⟩⟩ := s
  simp [tx, bts, Function.comp_def]
theorem bts_app {a b : ByteArray} : bts (a ++ b) = bts a ++ bts b := by simp [bts]
theorem bts_bytes {a : ByteArray} : ∀ y ∈ bts a, 0 ≤ y ∧ y ≤ 255 := by
  intro y hy
  unfold bts at hy
  obtain ⟨b, _, rfl⟩ := List.mem_map.1 hy
  have := b.toNat_lt
  exact ⟨by omega, by omega⟩
theorem ba_nil {a : ByteArray} : (⟨#[]⟩ : ByteArray) ++ a = a := by apply ByteArray.ext; simp
theorem loopU_fam {C : Tab} {base : Nat} {α : Type} (p : α → Prop) (I : α → St) (μ : α → Nat) (a0 : α) {b : MC} {s : St} {K : Ex → St → Prop} (h0 : p a0) (hs : Sub base (I a0) s)
    (hr : ∀ a, p a → vc C base b (I a) (kLoop base p I μ a K)) : LoopU base (vc C base b) 0 s K := by
  refine ⟨{a // p a}, fun a => I a.1, fun a => μ a.1, ⟨⟨a0, h0⟩, hs⟩, fun a => ?_⟩
  have := hr a.1 a.2
  refine vc_mono (fun e s' h => ?_) this
  cases e with
  | normal =>
    obtain ⟨a', h1, h2, h3⟩ := h
    exact ⟨⟨a', h1⟩, h3, h2⟩
  | exit j => exact h
  | ret => exact h
def dgt (D : List Int) (j : Nat) : Nat := (D.getD j 0).toNat
theorem dgs_get {ys : List Int} (hb : ∀ i, 0 ≤ ys.getD i 0 ∧ ys.getD i 0 ≤ 255) (j : Nat) : 0 ≤ (dgs ys).getD j 0 ∧ (dgs ys).getD j 0 ≤ 15 := by
  by_cases hj : j < 18
  · have hs := sP_bd hb 8
    have hg := dP_get ys (t := 8) hj
    have hh := hb (j / 2)
    have e : (dgs ys).getD j 0 = if j = 17 then sP ys 8 % 16 else if j = 16 then sP ys 8 / 16 else (dP ys 8).getD j 0 := by
      unfold dgs
      simp only [List.getD_eq_getElem?_getD, List.getElem?_set, List.length_set, dP_len]
      by_cases h1 : j = 17
      · subst h1; simp
      · by_cases h2 : j = 16
        · subst h2; simp
        · rw [if_neg (fun h => h1 h.symm), if_neg (fun h => h2 h.symm), if_neg h1, if_neg h2]
    rw [e]
    by_cases h1 : j = 17
    · rw [if_pos h1]; omega
    · rw [if_neg h1]
      by_cases h2 : j = 16
      · rw [if_pos h2]; omega
      · rw [if_neg h2, hg]
        split
        · split <;> omega
        · omega
  · rw [List.getD_eq_getElem?_getD, List.getElem?_eq_none (by rw [dgs_len]; omega)]; simp
theorem dig_get (s : ByteArray) (j : Nat) : 0 ≤ (dig s).getD j 0 ∧ (dig s).getD j 0 ≤ 15 := dgs_get (btsb _) j
theorem dig_len (s : ByteArray) : (dig s).length = 18 := dgs_len _
theorem dgt_le (s : ByteArray) (j : Nat) : dgt (dig s) j ≤ 15 := by have := dig_get s j; unfold dgt; omega
def rcP (k : Nat) (D : List Int) (g : ByteArray) (j : Nat) : ByteArray := chn k j (dgt D j) (15 - dgt D j) (g.extract (16 * j) (16 * j + 16))
def rcA (k : Nat) (D : List Int) (g : ByteArray) : Nat → ByteArray
  | 0 => ⟨#[]⟩
  | j + 1 => rcA k D g j ++ rcP k D g j
theorem rcP_size {k : Nat} {D : List Int} {g : ByteArray} {j : Nat} (hg : g.size = 288) (hj : j < 18) : (rcP k D g j).size = 16 := by
  unfold rcP; refine chn_16 _ _ _ _ _ ?_; rw [ext_size _ (by omega) (by omega)]; omega
theorem rcA_size {k : Nat} {D : List Int} {g : ByteArray} (hg : g.size = 288) : ∀ {j : Nat}, j ≤ 18 → (rcA k D g j).size = 16 * j
  | 0, _ => rfl
  | j + 1, h => by
    show (rcA k D g j ++ rcP k D g j).size = _
    rw [ByteArray.size_append, rcA_size hg (by omega), rcP_size hg (by omega)]; omega
def recv (k : Nat) (text g : ByteArray) : ByteArray := tagH 35 [rcA k (dig text) g 18]
theorem digitsS {s : ByteArray} (hs : s.size ≤ 1000000000) : SpecAt Tryz.prog nodigits [.v (.string s)] H n (.ai .i64 (dig s)) H n := lift_pure (okT.spec todigits (digitsW hs)) rfl
theorem recovW {k : Nat} {text g : ByteArray} (hk : k < 2) (ht : text.size ≤ 1000000000) (hg : g.size = 288) : fnVC CT mORecover [.v (.int .i64 k), .v (.string text), .v (.string g)] ⟨[], x⟩ 1 fun v H' n' => Sub 1 ⟨[(0, .tup [.v (.string (recv k text g)), .v (.int .i64 0)])], ⟨[], x⟩, 1⟩ ⟨[(0, v)], H', n'⟩ := by
  unfold mORecover
  simp -implicitDefEqProofs only [↓fnVC, initTm]
  simp -implicitDefEqProofs only [go_sem]
  refine at_call tofit (fitS hk) ?_
  have h288 : decide (((g.size : Nat) : Int) = 288) = true := decide_eq_true (by omega)
  simp -implicitDefEqProofs only [go_sem, h288]
  refine at_call todigits (digitsS ht) ?_
  have hlen := dig_len text
  have hget := dig_get text
  have hrv : recv k text g = tagH 35 [rcA k (dig text) g 18] := rfl
  generalize dig text = D at hlen hget hrv ⊢
  have hD : List.take 18 (splice (List.replicate 18 (0 : Int)) 0 D) = D := by
    unfold splice
    rw [hlen]
    simp [hlen]
    exact List.take_of_length_le (by omega)
  have hsp : splice (List.replicate 18 (0 : Int)) 0 D = D := by
    unfold splice
    rw [hlen]
    simp [hlen]
  have hsp' : splice [(0 : Int), 0, 0, 0, 0, 0, 0, 0, 0, 0, 0, 0, 0, 0, 0, 0, 0, 0] 0 D = D := hsp
  simp -implicitDefEqProofs only [go_sem, List.isEmpty_cons, Bool.false_eq_true, if_false, hsp']
  refine ⟨hlen, ?_⟩
  refine in_call mixT toall ?_
  unfold moall
  simp -implicitDefEqProofs only [↓fnVC, initTm]
  simp -implicitDefEqProofs only [go_sem, List.isEmpty_cons, Bool.false_eq_true, if_false]
  refine loop_roll 1 ?_
  rw [LoopU_succ]
  simp -implicitDefEqProofs only [go_sem, List.isEmpty_cons, Bool.false_eq_true, if_false, List.cons_append, List.nil_append]
  have hpc : ∀ j, j < 18 → (rcP k D g j).size = 16 := fun j hj => rcP_size hg hj
  have hdg : ∀ j, ((dgt D j : Nat) : Int) = D.getD j 0 ∧ dgt D j ≤ 15 := fun j => by have := hget j; unfold dgt; omega
  have q0 : D.getD 0 0 = ((dgt D 0 : Nat) : Int) := (hdg 0).1.symm
  have w0 : IntKind.i64.wrap (16 * 0) = 0 := rfl
  have w1 : IntKind.i64.wrap (0 + 16) = 16 := rfl
  refine in_call mixT tORecover1 ?_
  show fnVC _ _ [_, _, _, _] _ _ _
  unfold mORecover1
  simp -implicitDefEqProofs only [↓fnVC, initTm]
  simp -implicitDefEqProofs only [go_sem, q0, w0, w1]
  refine ⟨by decide, by omega, by omega, ?_⟩
  refine at_call tochain (chainS (k := k) (i := 0) (f := dgt D 0) (t := 15) hk (by decide) (hdg 0).2 (Nat.le_refl _) (by rw [ByteArray.size_extract]; omega)) ?_
  have p0 : chn k 0 (dgt D 0) (15 - dgt D 0) (g.extract 0 16) = rcP k D g 0 := rfl
  have z0 := hpc 0 (by decide)
  simp -implicitDefEqProofs only [go_sem, p0]
  refine in_call mixT tBWriteString ?_
  unfold mBWriteString
  simp -implicitDefEqProofs only [↓fnVC, initTm]
  simp -implicitDefEqProofs only [go_sem]
  refine at_ext (enters_mk Tryz.func111 rfl rfl) (ckF (i := 4) (j := 5) (by rfl) (by rfl) rfl) ?_
  simp -implicitDefEqProofs only [go_sem, z0]
  refine ⟨fun h => absurd rfl h, ?_⟩
  refine loopU_fam (fun (j : Nat) => 1 ≤ j ∧ j ≤ 18)
    (fun j => ⟨[(0, .fn 82 [.ptr 1 0, .ptr 3 0, .ptr 2 0]), (3, .ptr 4 0), (5, .v (.int .i64 j))], ⟨[(1, some ⟨true, .sv [.v (.int .i64 k)]⟩), (2, some ⟨true, .sv [.v (.string g)]⟩), (3, some ⟨true, .ints .i64 D⟩), (4, some ⟨true, .sv [.ptr 4 0, .sl 6 0 (rcA k D g j).size 1]⟩), (6, some ⟨true, .ints .u8 (bts (rcA k D g j))⟩), (7, some ⟨false, .mp (.shp 6 5 none)⟩)], x⟩, 8⟩)
    (fun j => 18 - j) 1 (by decide) ?_ ?_
  · refine sub_mk [] rfl rfl rfl ?_
    simp only [tmSub, hpSub, objSub, eqTm, eqHp, rn, lk, SV.ren, SV.renC, SV.renB, SV.renA, ren_ints, ren_strs, ren_pl, ren_svs, SV.v.injEq, Value.int.injEq, Body.ints.injEq, SV.ptr.injEq, SV.sl.injEq, Value.string.injEq, Value.bool.injEq, List.map_cons, List.map_nil, forall_const, Nat.reduceLT, Nat.lt_add_one, imp_self, true_and, and_true, and_self, ob_some, get_mk, lk_cons, ↓reduceIte, Nat.reduceEqDiff, ne_eq, not_true_eq_false, not_false_eq_true, Nat.one_ne_zero, Nat.zero_ne_one, Nat.succ_ne_self, Nat.reduceAdd, Bool.false_eq_true, false_implies, implies_true, reduceCtorEq]
    have g1 : rcA k D g 1 = rcP k D g 0 := ba_nil
    rw [g1, z0]
    exact ⟨rfl, rfl, rfl, rfl⟩
  · intro j hj
    have hj1 := hj.1
    have hj2 := hj.2
    simp -implicitDefEqProofs only [go_sem, List.isEmpty_cons, Bool.false_eq_true, if_false]
    refine condK_bb (fun c => ?_) (fun c => ?_)
    · have c1 : j < 18 := by have := of_decide_eq_true c; omega
      have q1 : D.getD j 0 = ((dgt D j : Nat) : Int) := (hdg j).1.symm
      have w2 : IntKind.i64.wrap (16 * (j : Int)) = ((16 * j : Nat) : Int) := by rw [wrap_i64 (by omega) (by omega)]; omega
      have w3 : IntKind.i64.wrap (((16 * j : Nat) : Int) + 16) = ((16 * j + 16 : Nat) : Int) := by rw [wrap_i64 (by omega) (by omega)]; omega
      simp -implicitDefEqProofs only [go_sem, c]
      refine in_call mixT tORecover1 ?_
      show fnVC _ _ [_, _, _, _] _ _ _
      unfold mORecover1
      simp -implicitDefEqProofs only [↓fnVC, initTm]
      simp -implicitDefEqProofs only [go_sem, q1, w2, w3]
      refine ⟨by omega, by omega, by omega, ?_⟩
      refine at_call tochain (chainS (k := k) (i := j) (f := dgt D j) (t := 15) hk c1 (hdg j).2 (Nat.le_refl _) (by rw [ByteArray.size_extract]; omega)) ?_
      have p1 : chn k j (dgt D j) (15 - dgt D j) (g.extract (16 * j) (16 * j + 16)) = rcP k D g j := rfl
      have z1 := hpc j c1
      have sj : (rcA k D g j).size = 16 * j := rcA_size hg hj2
      have w4 : IntKind.i64.wrap ((j : Int) + 1) = ((j + 1 : Nat) : Int) := by rw [wrap_i64 (by omega) (by omega)]; omega
      simp -implicitDefEqProofs only [go_sem, p1]
      refine in_call mixT tBWriteString ?_
      unfold mBWriteString
      simp -implicitDefEqProofs only [↓fnVC, initTm]
      simp -implicitDefEqProofs only [go_sem]
      refine at_ext (enters_mk Tryz.func111 rfl rfl) (ckU (i := 4) (by rfl) rfl) ?_
      simp -implicitDefEqProofs only [go_sem]
      refine ⟨by omega, fun _ => ⟨rfl, 7, ⟨false, .mp (.shp 6 5 none)⟩, rfl, rfl⟩, by rw [bts_len]; exact Nat.le_refl _, ?_⟩
      refine kLoop_mk (j + 1) (by omega) (by omega) ?_
      refine sub_mk [(6, 8), (7, 9)] rfl rfl rfl ?_
      simp only [tmSub, hpSub, objSub, eqTm, eqHp, rn, lk, SV.ren, SV.renC, SV.renB, SV.renA, ren_ints, ren_strs, ren_pl, ren_svs, SV.v.injEq, Value.int.injEq, Body.ints.injEq, SV.ptr.injEq, SV.sl.injEq, Value.string.injEq, Value.bool.injEq, List.map_cons, List.map_nil, forall_const, Nat.reduceLT, Nat.lt_add_one, imp_self, true_and, and_true, and_self, ob_some, get_mk, lk_cons, ↓reduceIte, Nat.reduceEqDiff, ne_eq, not_true_eq_false, not_false_eq_true, Nat.one_ne_zero, Nat.zero_ne_one, Nat.succ_ne_self, Nat.reduceAdd, Bool.false_eq_true, false_implies, implies_true, reduceCtorEq]
      rw [show rcA k D g (j + 1) = rcA k D g j ++ rcP k D g j from rfl, ByteArray.size_append, bts_app, List.take_of_length_le (by rw [bts_len]; exact Nat.le_refl _)]
      exact ⟨w4, rfl, rfl, rfl⟩
    · have c1 : j = 18 := by have := of_decide_eq_false c; omega
      subst c1
      have sj : (rcA k D g 18).size = 288 := rcA_size hg (Nat.le_refl _)
      simp -implicitDefEqProofs only [go_sem, c]
      refine at_ext (enters_mk Tryz.func98 rfl rfl) (strS (i := 4) (r := 6) (q := 7) (k := (rcA k D g 18).size) (bs := bts (rcA k D g 18)) (by rfl) rfl (by rfl) (by rw [bts_len]) (by omega) (by omega) (by rfl) rfl bts_bytes) ?_
      rw [tx_bts]
      simp -implicitDefEqProofs only [go_sem]
      refine at_call t12 (tag_any (ss := [rcA k D g 18]) (m := 1) (by rfl) rfl (by decide) (by simp only [List.map_cons, List.map_nil, List.sum_cons, List.sum_nil]; omega)) ?_
      rw [← hrv]
      simp -implicitDefEqProofs only [go_sem]
      refine sub_mk [] rfl rfl rfl ?_
      simp only [tmSub, hpSub, objSub, eqTm, eqHp, rn, lk, SV.ren, SV.renC, SV.renB, SV.renA, ren_ints, ren_strs, ren_pl, ren_svs, SV.v.injEq, Value.int.injEq, Body.ints.injEq, SV.ptr.injEq, SV.sl.injEq, Value.string.injEq, Value.bool.injEq, List.map_cons, List.map_nil, forall_const, Nat.reduceLT, Nat.lt_add_one, imp_self, true_and, and_true, and_self, ob_some, get_mk, lk_cons, ↓reduceIte, Nat.reduceEqDiff, ne_eq, not_true_eq_false, not_false_eq_true, Nat.one_ne_zero, Nat.zero_ne_one, Nat.succ_ne_self, Nat.reduceAdd, Bool.false_eq_true, false_implies, implies_true, reduceCtorEq]
end
section
/- The program's Verify, of signatures of 323 bytes. -/
set_option linter.unusedVariables false
set_option linter.unusedSimpArgs false
set_option maxRecDepth 100000
open Go.Proofs
variable {H : Hp} {n : Nat} {x : Nat → Option SO}
theorem recvS {k : Nat} {text g : ByteArray} (hk : k < 2) (ht : text.size ≤ 1000000000) (hg : g.size = 288) : SpecAt Tryz.prog nORecover [.v (.int .i64 k), .v (.string text), .v (.string g)] H n (.tup [.v (.string (recv k text g)), .v (.int .i64 0)]) H n := lift_pure (okT.spec tORecover (recovW hk ht hg)) rfl
def idH (h : Nat) (top : ByteArray) : ByteArray := tagH 38 [one h, top]
theorem namedS {h : Nat} {top : ByteArray} (hh : h ≤ 255) (hs : top.size ≤ 1000) : SpecAt Tryz.prog nKnamed [.v (.int .i64 h), .v (.string top)] H n (.v (.string (idH h top))) H n := lift_pure (okT.spec tKnamed (by
  unfold mKnamed
  simp -implicitDefEqProofs only [↓fnVC, initTm]
  have e : IntKind.u8.wrap (h : Int) = h := wrap_u8r (by omega) (by omega)
  simp -implicitDefEqProofs only [go_sem, e]
  refine at_call t12 (tag_any (ss := [one h, top]) (m := 2) (by rfl) rfl (by decide) (by simp only [List.map_cons, List.map_nil, List.sum_cons, List.sum_nil, one_size]; omega)) ?_
  simp -implicitDefEqProofs only [go_sem]
  exact sub_val rfl (by decide) (by decide) rfl)) rfl
theorem or_i64 {a b : Nat} (ha : a ≤ 255) (hb : b ≤ 255) : ior .i64 (ishl .i64 (a : Int) 8) (b : Int) = ((256 * a + b : Nat) : Int) := by
  have e1 : ishl .i64 (a : Int) 8 = ((a * 2 ^ 8 : Nat) : Int) := by
    unfold ishl
    rw [show min (8 : Int).toNat IntKind.i64.bits = 8 from rfl, wrap_i64 (by omega) (by omega)]; omega
  have bv : ∀ c : Nat, c < 18446744073709551616 → (BitVec.ofInt IntKind.i64.bits (c : Int)).toNat = c := fun c hc => by
    rw [BitVec.toNat_ofInt]; show ((c : Int) % 18446744073709551616).toNat = c; omega
  rw [e1]
  unfold ior
  rw [BitVec.toNat_or, bv _ (by omega), bv _ (by omega), ← Nat.shiftLeft_eq, ← Nat.shiftLeft_add_eq_or_of_lt (i := 8) (by omega), Nat.shiftLeft_eq, wrap_i64 (by omega) (by omega)]
  omega
def byN (s : ByteArray) (i : Nat) : Nat := ((bts s).getD i 0).toNat
theorem byN_le (s : ByteArray) (i : Nat) : byN s i ≤ 255 := by have := btsb s i; unfold byN; omega
def kn2 (g : ByteArray) : Nat := 256 * byN g 1 + byN g 2
def knOK (g : ByteArray) : Bool := decide (byN g 0 = 1 ∧ kn2 g < 2)
theorem numbW {g : ByteArray} (hg : g.size = 323) : fnVC CT mKNumber [.v (.string g)] ⟨[], x⟩ 1 fun v H' n' => Sub 1 ⟨[(0, if knOK g = true then .tup [.v (.int .i64 (kn2 g)), .v (.int .i64 0)] else .tup [.v (.int .i64 0), .v (.int .i64 3)])], ⟨[], x⟩, 1⟩ ⟨[(0, v)], H', n'⟩ := by
  unfold mKNumber
  simp -implicitDefEqProofs only [↓fnVC, initTm]
  have e0 : decide (((g.size : Nat) : Int) < 291) = false := decide_eq_false (by omega)
  have hb : ∀ i, (bts g).getD i 0 = ((byN g i : Nat) : Int) := fun i => by have := btsb g i; unfold byN; omega
  have l0 := byN_le g 0
  have l1 := byN_le g 1
  have l2 := byN_le g 2
  have q0 := hb 0
  have q1 := hb 1
  have q2 := hb 2
  have hdef : knOK g = decide (byN g 0 = 1 ∧ 256 * byN g 1 + byN g 2 < 2) := rfl
  have hk2 : kn2 g = 256 * byN g 1 + byN g 2 := rfl
  rw [hdef, hk2]
  generalize byN g 0 = b0 at l0 q0 ⊢
  generalize byN g 1 = b1 at l1 q1 ⊢
  generalize byN g 2 = b2 at l2 q2 ⊢
  simp -implicitDefEqProofs only [go_sem, e0, q0, q1, q2]
  refine ⟨by omega, condK_bb (fun c => ?_) (fun c => ?_)⟩
  · have c1 : 4 < b0 := by have := of_decide_eq_true c; omega
    have f : decide (b0 = 1 ∧ 256 * b1 + b2 < 2) = false := decide_eq_false (by omega)
    rw [f]
    simp -implicitDefEqProofs only [go_sem, c]
    exact sub_val rfl (by decide) (by decide) rfl
  have c1 : b0 ≤ 4 := by have := of_decide_eq_false c; omega
  have w1 : IntKind.i64.wrap (b0 : Int) = b0 := wrap_i64 (by omega) (by omega)
  have w2 : IntKind.i64.wrap (32 * (b0 : Int)) = ((32 * b0 : Nat) : Int) := by rw [wrap_i64 (by omega) (by omega)]; omega
  have w3 : IntKind.i64.wrap (291 + ((32 * b0 : Nat) : Int)) = ((291 + 32 * b0 : Nat) : Int) := by rw [wrap_i64 (by omega) (by omega)]; omega
  simp -implicitDefEqProofs only [go_sem, c, w1, w2, w3, q0]
  by_cases h1 : b0 = 1
  · subst h1
    have e1 : decide (((g.size : Nat) : Int) = ((291 + 32 * 1 : Nat) : Int)) = true := decide_eq_true (by omega)
    have e2 := or_i64 l1 l2
    have v1 : IntKind.i64.wrap (b1 : Int) = b1 := wrap_i64 (by omega) (by omega)
    have v2 : IntKind.i64.wrap (b2 : Int) = b2 := wrap_i64 (by omega) (by omega)
    have e3 : ishl .i64 1 ((1 : Nat) : Int) = 2 := by decide
    simp -implicitDefEqProofs only [go_sem, e1, q0, q1, q2, e2, v1, v2, e3]
    refine ⟨by omega, by omega, by omega, by omega, by decide, ?_⟩
    refine condK_bb (fun d => ?_) (fun d => ?_)
    · have d1 := of_decide_eq_true d
      have f : decide (1 = 1 ∧ 256 * b1 + b2 < 2) = false := decide_eq_false (by omega)
      rw [f]
      simp -implicitDefEqProofs only [go_sem, d]
      exact sub_val rfl (by decide) (by decide) rfl
    · have d1 := of_decide_eq_false d
      have f : decide (1 = 1 ∧ 256 * b1 + b2 < 2) = true := decide_eq_true (by omega)
      rw [f]
      simp -implicitDefEqProofs only [go_sem, d]
      exact sub_val rfl (by decide) (by decide) rfl
  · have e1 : decide (((g.size : Nat) : Int) = ((291 + 32 * b0 : Nat) : Int)) = false := decide_eq_false (by omega)
    have f : decide (b0 = 1 ∧ 256 * b1 + b2 < 2) = false := decide_eq_false (by omega)
    rw [f]
    simp -implicitDefEqProofs only [go_sem, e1]
    refine ⟨by omega, ?_⟩
    exact sub_val rfl (by decide) (by decide) rfl
theorem numbS {g : ByteArray} (hg : g.size = 323) : SpecAt Tryz.prog nKNumber [.v (.string g)] H n (if knOK g = true then .tup [.v (.int .i64 (kn2 g)), .v (.int .i64 0)] else .tup [.v (.int .i64 0), .v (.int .i64 3)]) H n := by
  have h := okT.spec tKNumber (numbW (x := H.x) hg)
  cases hk : knOK g with
  | true => rw [hk] at h; exact lift_pure h rfl
  | false => rw [hk] at h; exact lift_pure h rfl
def topOf (text g : ByteArray) : ByteArray := if kn2 g = 0 then tagH 37 [recv (kn2 g) text (g.extract 3 291), g.extract 291 323] else tagH 37 [g.extract 291 323, recv (kn2 g) text (g.extract 3 291)]
def ver (id text g : ByteArray) : Int := if knOK g = true then (if idH 1 (topOf text g) = id then 0 else 9) else 3
theorem recv_size (k : Nat) (text g : ByteArray) : (recv k text g).size = 32 := tagH_size _ _
theorem topOf_size (text g : ByteArray) : (topOf text g).size = 32 := by unfold topOf; split <;> exact tagH_size _ _
theorem verW {id text g : ByteArray} (hg : g.size = 323) (ht : text.size ≤ 1000000000) : fnVC CT mKVerify [.v (.string id), .v (.string text), .v (.string g)] ⟨[], x⟩ 1 fun v H' n' => Sub 1 ⟨[(0, .v (.int .i64 (ver id text g)))], ⟨[], x⟩, 1⟩ ⟨[(0, v)], H', n'⟩ := by
  unfold mKVerify
  simp -implicitDefEqProofs only [↓fnVC, initTm]
  simp -implicitDefEqProofs only [go_sem]
  refine at_call tKNumber (numbS hg) ?_
  unfold ver
  by_cases hk : knOK g = true
  · rw [if_pos hk, if_pos hk]
    have hkk := of_decide_eq_true hk
    have hq : kn2 g < 2 := hkk.2
    have q0 : (bts g).getD 0 0 = ((1 : Nat) : Int) := by have := btsb g 0; have h := hkk.1; unfold byN at h; omega
    have s1 : (g.extract 3 291).size = 288 := by rw [ext_size _ (by omega) (by omega)]
    have s2 : (g.extract 291 323).size = 32 := by rw [ext_size _ (by omega) (by omega)]
    have htop : topOf text g = if kn2 g = 0 then tagH 37 [recv (kn2 g) text (g.extract 3 291), g.extract 291 323] else tagH 37 [g.extract 291 323, recv (kn2 g) text (g.extract 3 291)] := rfl
    have hts := topOf_size text g
    generalize topOf text g = top at htop hts ⊢
    simp -implicitDefEqProofs only [go_sem]
    refine ⟨by omega, ?_⟩
    refine at_call tORecover (recvS hq ht s1) ?_
    have s3 := recv_size (kn2 g) text (g.extract 3 291)
    generalize recv (kn2 g) text (g.extract 3 291) = R at s3 htop ⊢
    have w0 : IntKind.i64.wrap ((1 : Nat) : Int) = 1 := rfl
    have w1 : g.extract 291 g.size = g.extract 291 323 := by rw [hg]
    simp -implicitDefEqProofs only [go_sem, q0, w0, w1]
    refine ⟨by omega, ⟨by omega, by omega⟩, ?_⟩
    generalize hP : g.extract 291 323 = P at s2 htop ⊢
    have u1 : seq P ⟨#[]⟩ = false := seq_ne fun e => by rw [e] at s2; exact absurd s2 (by decide)
    have u2 : P.extract 0 32 = P := by rw [show (32 : Nat) = P.size from s2.symm]; exact ByteArray.extract_zero_size
    have u3 : P.extract 32 P.size = ⟨#[]⟩ := by
      apply ByteArray.ext; rw [s2, ByteArray.data_extract]; exact Array.extract_empty_of_stop_le_start (Nat.le_refl _)
    have u4 : seq (⟨#[]⟩ : ByteArray) ⟨#[]⟩ = true := seq_self _
    refine loop_roll 2 ?_
    rw [LoopU_succ]
    have hc : kn2 g = 0 ∨ kn2 g = 1 := by omega
    rcases hc with hc | hc
    · rw [hc, if_pos rfl] at htop
      rw [hc]
      have b1 : iand .i64 ((0 : Nat) : Int) 1 = 0 := by decide
      have b2 : ishr .i64 ((0 : Nat) : Int) 1 = 0 := by decide
      simp -implicitDefEqProofs only [go_sem, u1, u2, b1]
      refine ⟨by omega, ?_⟩
      refine at_call t12 (tag_any (ss := [R, P]) (m := 2) (by rfl) rfl (by decide) (by simp only [List.map_cons, List.map_nil, List.sum_cons, List.sum_nil]; omega)) ?_
      rw [← htop]
      simp -implicitDefEqProofs only [go_sem, u3, u4, b2]
      refine ⟨by omega, ?_⟩
      rw [LoopU_succ]
      simp -implicitDefEqProofs only [go_sem, u3, u4]
      refine at_call tKnamed (namedS (h := 1) (top := top) (by decide) (by omega)) ?_
      by_cases hI : idH 1 top = id
      · have hs : seq (idH 1 top) id = true := by rw [hI]; exact seq_self _
        rw [if_pos hI]
        simp -implicitDefEqProofs only [go_sem, hs]
        exact sub_val rfl (by decide) (by decide) rfl
      · have hs : seq (idH 1 top) id = false := seq_ne hI
        rw [if_neg hI]
        simp -implicitDefEqProofs only [go_sem, hs]
        exact sub_val rfl (by decide) (by decide) rfl
    · rw [hc, if_neg (by decide)] at htop
      rw [hc]
      have b1 : iand .i64 ((1 : Nat) : Int) 1 = 1 := by decide
      have b2 : ishr .i64 ((1 : Nat) : Int) 1 = 0 := by decide
      simp -implicitDefEqProofs only [go_sem, u1, u2, b1]
      refine ⟨by omega, ?_⟩
      refine at_call t12 (tag_any (ss := [P, R]) (m := 2) (by rfl) rfl (by decide) (by simp only [List.map_cons, List.map_nil, List.sum_cons, List.sum_nil]; omega)) ?_
      rw [← htop]
      simp -implicitDefEqProofs only [go_sem, u3, u4, b2]
      refine ⟨by omega, ?_⟩
      rw [LoopU_succ]
      simp -implicitDefEqProofs only [go_sem, u3, u4]
      refine at_call tKnamed (namedS (h := 1) (top := top) (by decide) (by omega)) ?_
      by_cases hI : idH 1 top = id
      · have hs : seq (idH 1 top) id = true := by rw [hI]; exact seq_self _
        rw [if_pos hI]
        simp -implicitDefEqProofs only [go_sem, hs]
        exact sub_val rfl (by decide) (by decide) rfl
      · have hs : seq (idH 1 top) id = false := seq_ne hI
        rw [if_neg hI]
        simp -implicitDefEqProofs only [go_sem, hs]
        exact sub_val rfl (by decide) (by decide) rfl
  · rw [if_neg hk, if_neg hk]
    simp -implicitDefEqProofs only [go_sem]
    exact sub_val rfl (by decide) (by decide) rfl
end
section
/- The program's Check of a set. -/
set_option linter.unusedVariables false
set_option linter.unusedSimpArgs false
set_option maxRecDepth 100000
open Go.Proofs
variable {H : Hp} {n : Nat} {x : Nat → Option SO}
abbrev bl (s : ByteArray) : List UInt8 := s.data.toList
theorem bl_inj {s t : ByteArray} (h : bl s = bl t) : s = t := ByteArray.ext (Array.toList_inj.1 h)
theorem slt_lt (s t : ByteArray) : slt s t = decide (bl s < bl t) := by
  unfold slt
  rw [bytesLess_eq]
  have h1 : s.toList = s.data.toList := Go.Lib.toList_data s
  have h2 : t.toList = t.data.toList := Go.Lib.toList_data t
  rw [h1, h2]
theorem seq_bl (s t : ByteArray) : seq s t = decide (s = t) := by
  by_cases h : s = t
  · subst h; rw [seq_self]; simp
  · rw [seq_ne h]; simp [h]
theorem sle_not (s t : ByteArray) : sle s t = !slt t s := by
  have h0 : sle s t = (slt s t || seq s t) := rfl
  rw [h0, seq_bl, slt_lt, slt_lt]
  by_cases h : bl t < bl s
  · have h1 : ¬ bl s < bl t := List.not_lt.2 (List.le_of_lt h)
    have h2 : s ≠ t := fun e => by rw [e] at h; exact List.lt_irrefl _ h
    simp [h, h1, h2]
  · simp only [decide_eq_false h, Bool.not_false, Bool.or_eq_true, decide_eq_true_eq]
    by_cases e : s = t
    · exact .inr e
    · refine .inl ?_
      have hle : bl s ≤ bl t := List.not_lt.1 h
      exact Classical.byContradiction fun hn => e (bl_inj (List.le_antisymm hle (List.not_lt.1 hn)))
def okAt (l : List ByteArray) (i : Nat) : Bool := decide ((l.getD i .empty).size = 32) && (decide (i = 0) || slt (l.getD (i - 1) .empty) (l.getD i .empty))
def okTo (l : List ByteArray) : Nat → Bool
  | 0 => true
  | k + 1 => okTo l k && okAt l k
theorem okTo_no {l : List ByteArray} {i : Nat} (h : okAt l i = false) : ∀ {m}, i < m → okTo l m = false
  | m + 1, hm => by
    by_cases e : i = m
    · subst e; simp [okTo, h]
    · simp [okTo, okTo_no h (m := m) (by omega)]
def okSet (l : List ByteArray) (need : Int) : Bool := decide (1 ≤ l.length ∧ l.length ≤ 16 ∧ 1 ≤ need ∧ need ≤ l.length) && okTo l l.length
theorem checkW {l : List ByteArray} {o m : Nat} {ss : List ByteArray} {need : Int} (hl : l = (ss.drop o).take m) (hm : o + m ≤ ss.length) : fnVC CT mQCheck [.agg [.sl 1 o m 1, .v (.int .i64 need)]] ⟨[(1, some ⟨false, .strs ss⟩)], x⟩ 2 fun v H' n' => Sub 2 ⟨[(0, .v (.int .i64 (if okSet l need = true then 0 else 1)))], ⟨[], x⟩, 2⟩ ⟨[(0, v)], H', n'⟩ := by
  have hll : l.length = m := by rw [hl, List.length_take, List.length_drop]; omega
  have hget : ∀ j, j < m → ss.getD (o + j) .empty = l.getD j .empty := fun j hj => by rw [hl, take_getD hj, drop_getD]
  unfold mQCheck
  simp -implicitDefEqProofs only [↓fnVC, initTm]
  simp -implicitDefEqProofs only [go_sem]
  by_cases a : 1 ≤ l.length ∧ l.length ≤ 16 ∧ 1 ≤ need ∧ need ≤ l.length
  · have c1 : decide ((m : Int) < 1) = false := decide_eq_false (by omega)
    have c2 : decide ((m : Int) > 16) = false := decide_eq_false (by omega)
    have c3 : decide (need < 1) = false := decide_eq_false (by omega)
    have c4 : decide (need > (m : Int)) = false := decide_eq_false (by omega)
    have f0 : okSet l need = okTo l m := by unfold okSet; rw [decide_eq_true a, hll]; rfl
    rw [f0]
    simp -implicitDefEqProofs only [go_sem, c1, c2, c3, c4]
    refine loop_fam (fun i : Nat => i ≤ m ∧ okTo l i = true) (fun i => ⟨[(1, .ptr 2 0), (2, .v (.int .i64 0)), (29, .sl 1 o m 1), (30, .v (.int .i64 m)), (31, .v (.int .i64 i))], ⟨[(1, some ⟨false, .strs ss⟩), (2, some ⟨true, .sv [.sl 1 o m 1, .v (.int .i64 need)]⟩)], x⟩, 3⟩) (fun i => m - i) 0 ⟨Nat.zero_le _, rfl⟩ ?_ ?_
    · refine sub_mk [] rfl rfl rfl ?_
      simp only [tmSub, hpSub, objSub, eqTm, eqHp, rn, lk, SV.ren, SV.renC, SV.renB, SV.renA, ren_ints, ren_strs, ren_pl, ren_svs, SV.v.injEq, Value.int.injEq, Body.ints.injEq, SV.ptr.injEq, SV.sl.injEq, Value.string.injEq, Value.bool.injEq, List.map_cons, List.map_nil, forall_const, Nat.reduceLT, Nat.lt_add_one, imp_self, true_and, and_true, and_self, ob_some, get_mk, lk_cons, ↓reduceIte, Nat.reduceEqDiff, ne_eq, not_true_eq_false, not_false_eq_true, Nat.one_ne_zero, Nat.zero_ne_one, Nat.succ_ne_self, Nat.reduceAdd, Bool.false_eq_true, false_implies, implies_true, reduceCtorEq]
      rfl
    · intro i hi
      have hi1 := hi.1
      have hi2 := hi.2
      simp -implicitDefEqProofs only [go_sem]
      refine condK_bb (fun d => ?_) (fun d => ?_)
      · have d1 : i < m := by have := of_decide_eq_true d; omega
        have g1 := hget i d1
        by_cases z : (l.getD i .empty).size = 32
        · have z1 : decide (((l.getD i .empty).size : Int) = 32) = true := decide_eq_true (by omega)
          have w3 : IntKind.i64.wrap ((i : Int) + 1) = ((i + 1 : Nat) : Int) := by rw [wrap_i64 (by omega) (by omega)]; omega
          have hgo : okAt l i = true → okTo l (i + 1) = true := fun h => by simp only [okTo, hi2, h]; rfl
          by_cases y : i = 0
          · have y1 : decide ((i : Int) > 0) = false := decide_eq_false (by omega)
            simp -implicitDefEqProofs only [go_sem, d, g1, z1, y1]
            refine ⟨by omega, by omega, ?_⟩
            refine kLoop_mk (i + 1) ⟨by omega, hgo (by subst y; unfold okAt; rw [decide_eq_true z]; rfl)⟩ (by omega) ?_
            refine sub_mk [] rfl rfl rfl ?_
            simp only [tmSub, hpSub, objSub, eqTm, eqHp, rn, lk, SV.ren, SV.renC, SV.renB, SV.renA, ren_ints, ren_strs, ren_pl, ren_svs, SV.v.injEq, Value.int.injEq, Body.ints.injEq, SV.ptr.injEq, SV.sl.injEq, Value.string.injEq, Value.bool.injEq, List.map_cons, List.map_nil, forall_const, Nat.reduceLT, Nat.lt_add_one, imp_self, true_and, and_true, and_self, ob_some, get_mk, lk_cons, ↓reduceIte, Nat.reduceEqDiff, ne_eq, not_true_eq_false, not_false_eq_true, Nat.one_ne_zero, Nat.zero_ne_one, Nat.succ_ne_self, Nat.reduceAdd, Bool.false_eq_true, false_implies, implies_true, reduceCtorEq]
            exact w3
          · have y1 : decide ((i : Int) > 0) = true := decide_eq_true (by omega)
            have w1 : IntKind.i64.wrap ((i : Int) - 1) = ((i - 1 : Nat) : Int) := by rw [wrap_i64 (by omega) (by omega)]; omega
            have g2 := hget (i - 1) (by omega)
            simp -implicitDefEqProofs only [go_sem, d, g1, z1, y1, w1, g2]
            refine ⟨by omega, by omega, by omega, by omega, ?_⟩
            rw [sle_not]
            refine condK_bb (fun q => ?_) (fun q => ?_)
            · have hf : okAt l i = false := by
                have q1 : slt (l.getD (i - 1) .empty) (l.getD i .empty) = false := by simpa using q
                unfold okAt; rw [q1, decide_eq_false y]; simp
              have hno : okTo l m = false := okTo_no hf d1
              rw [hno]
              simp -implicitDefEqProofs only [go_sem, q]
              exact sub_val rfl (by decide) (by decide) rfl
            · have q1 : slt (l.getD (i - 1) .empty) (l.getD i .empty) = true := by simpa using q
              simp -implicitDefEqProofs only [go_sem, q, w3]
              refine kLoop_mk (i + 1) ⟨by omega, hgo (by unfold okAt; rw [q1, decide_eq_true z]; simp)⟩ (by omega) ?_
              refine sub_mk [] rfl rfl rfl ?_
              simp only [tmSub, hpSub, objSub, eqTm, eqHp, rn, lk, SV.ren, SV.renC, SV.renB, SV.renA, ren_ints, ren_strs, ren_pl, ren_svs, SV.v.injEq, Value.int.injEq, Body.ints.injEq, SV.ptr.injEq, SV.sl.injEq, Value.string.injEq, Value.bool.injEq, List.map_cons, List.map_nil, forall_const, Nat.reduceLT, Nat.lt_add_one, imp_self, true_and, and_true, and_self, ob_some, get_mk, lk_cons, ↓reduceIte, Nat.reduceEqDiff, ne_eq, not_true_eq_false, not_false_eq_true, Nat.one_ne_zero, Nat.zero_ne_one, Nat.succ_ne_self, Nat.reduceAdd, Bool.false_eq_true, false_implies, implies_true, reduceCtorEq]
        · have z1 : decide (((l.getD i .empty).size : Int) = 32) = false := decide_eq_false (by omega)
          have hf : okAt l i = false := by unfold okAt; rw [decide_eq_false z]; rfl
          have hno : okTo l m = false := okTo_no hf d1
          rw [hno]
          simp -implicitDefEqProofs only [go_sem, d, g1, z1]
          refine ⟨by omega, by omega, ?_⟩
          exact sub_val rfl (by decide) (by decide) rfl
      · have d1 : i = m := by have := of_decide_eq_false d; omega
        subst d1
        simp -implicitDefEqProofs only [go_sem, d]
        rw [hi2]
        exact sub_val rfl (by decide) (by decide) rfl
  · have f0 : okSet l need = false := by unfold okSet; rw [decide_eq_false a]; rfl
    rw [f0]
    by_cases c1 : (m : Int) < 1
    · have e1 : decide ((m : Int) < 1) = true := decide_eq_true c1
      simp -implicitDefEqProofs only [go_sem, e1]
      exact sub_val rfl (by decide) (by decide) rfl
    have e1 : decide ((m : Int) < 1) = false := decide_eq_false c1
    by_cases c2 : (m : Int) > 16
    · have e2 : decide ((m : Int) > 16) = true := decide_eq_true c2
      simp -implicitDefEqProofs only [go_sem, e1, e2]
      exact sub_val rfl (by decide) (by decide) rfl
    have e2 : decide ((m : Int) > 16) = false := decide_eq_false c2
    by_cases c3 : need < 1
    · have e3 : decide (need < 1) = true := decide_eq_true c3
      simp -implicitDefEqProofs only [go_sem, e1, e2, e3]
      exact sub_val rfl (by decide) (by decide) rfl
    have e3 : decide (need < 1) = false := decide_eq_false c3
    have e4 : decide (need > (m : Int)) = true := decide_eq_true (by omega)
    simp -implicitDefEqProofs only [go_sem, e1, e2, e3, e4]
    exact sub_val rfl (by decide) (by decide) rfl
end
end Go.Sx
/- Rising lists of texts: each once; the document's way and the shelf's. -/
set_option linter.unusedVariables false
set_option linter.unusedSimpArgs false
set_option maxRecDepth 100000
namespace Go.Sx
open Go.Proofs
def Ris (l : List ByteArray) : Prop := l.Pairwise fun a b => bl a < bl b
theorem ris_ext : ∀ {P Q : List ByteArray}, Ris P → Ris Q → (∀ s, s ∈ P ↔ s ∈ Q) → P = Q
  | [], [], _, _, _ => rfl
  | [], q :: Q, _, _, h => absurd ((h q).2 (List.mem_cons_self ..)) List.not_mem_nil
  | p :: P, [], _, _, h => absurd ((h p).1 (List.mem_cons_self ..)) List.not_mem_nil
  | p :: P, q :: Q, hP, hQ, h => by
    have hP1 := List.pairwise_cons.1 hP
    have hQ1 := List.pairwise_cons.1 hQ
    have e : p = q := by
      rcases List.mem_cons.1 ((h p).1 (List.mem_cons_self ..)) with e | hp
      · exact e
      · rcases List.mem_cons.1 ((h q).2 (List.mem_cons_self ..)) with e | hq
        · exact e.symm
        · exact absurd (List.lt_trans (hQ1.1 _ hp) (hP1.1 _ hq)) (List.lt_irrefl _)
    subst e
    congr 1
    refine ris_ext hP1.2 hQ1.2 fun s => ⟨fun hs => ?_, fun hs => ?_⟩
    · rcases List.mem_cons.1 ((h s).1 (List.mem_cons_of_mem _ hs)) with e | e
      · subst e; exact absurd (hP1.1 _ hs) (List.lt_irrefl _)
      · exact e
    · rcases List.mem_cons.1 ((h s).2 (List.mem_cons_of_mem _ hs)) with e | e
      · subst e; exact absurd (hQ1.1 _ hs) (List.lt_irrefl _)
      · exact e
def ins (s : ByteArray) : List ByteArray → List ByteArray
  | [] => [s]
  | p :: P => if slt p s = true then p :: ins s P else if p = s then p :: P else s :: p :: P
theorem mem_ins {s u : ByteArray} : ∀ {P : List ByteArray}, u ∈ ins s P ↔ u = s ∨ u ∈ P
  | [] => by simp [ins]
  | p :: P => by
    unfold ins
    split
    · rw [List.mem_cons, mem_ins, List.mem_cons]
      exact ⟨fun h => by rcases h with h | h | h <;> simp [h], fun h => by rcases h with h | h | h <;> simp [h]⟩
    · split
      · rename_i e; subst e; simp
      · simp
theorem ris_ins {s : ByteArray} : ∀ {P : List ByteArray}, Ris P → Ris (ins s P)
  | [], _ => List.pairwise_singleton _ _
  | p :: P, h => by
    have h1 := List.pairwise_cons.1 h
    unfold ins
    split
    · rename_i c
      rw [slt_lt] at c
      refine List.pairwise_cons.2 ⟨fun u hu => ?_, ris_ins h1.2⟩
      rcases mem_ins.1 hu with e | e
      · subst e; exact of_decide_eq_true c
      · exact h1.1 u e
    · split
      · exact h
      · rename_i c e
        rw [slt_lt] at c
        have hle : bl s ≤ bl p := List.not_lt.1 (by simpa using c)
        have hlt : bl s < bl p := Classical.byContradiction fun hn => e (bl_inj (List.le_antisymm (List.not_lt.1 hn) hle))
        refine List.pairwise_cons.2 ⟨fun u hu => ?_, h⟩
        rcases List.mem_cons.1 hu with e | e
        · subst e; exact hlt
        · exact List.lt_trans hlt (h1.1 u e)
def rising (l : List ByteArray) : List ByteArray := l.foldl (fun o s => ins s o) []
theorem rising_go {l : List ByteArray} : ∀ {o : List ByteArray}, Ris o → Ris (l.foldl (fun o s => ins s o) o) ∧ ∀ u, u ∈ l.foldl (fun o s => ins s o) o ↔ u ∈ o ∨ u ∈ l := by
  induction l with
  | nil => intro o h; exact ⟨h, by simp⟩
  | cons s l ih =>
    intro o h
    obtain ⟨h1, h2⟩ := ih (o := ins s o) (ris_ins h)
    refine ⟨h1, fun u => ?_⟩
    rw [List.foldl_cons, h2, mem_ins, List.mem_cons]
    exact ⟨fun h => by rcases h with (h | h) | h <;> simp [h], fun h => by rcases h with h | h | h <;> simp [h]⟩
theorem rising_ris (l : List ByteArray) : Ris (rising l) := (rising_go List.Pairwise.nil).1
theorem rising_mem {l : List ByteArray} {u : ByteArray} : u ∈ rising l ↔ u ∈ l := by
  have := (rising_go (l := l) (o := []) List.Pairwise.nil).2 u
  simpa [rising] using this
theorem rising_succ {l : List ByteArray} {s : ByteArray} : rising (l ++ [s]) = ins s (rising l) := by unfold rising; rw [List.foldl_append]; rfl
open Go.Lib in
theorem cmp_inv {d : Array (List UInt8)} (hd : ∀ i j, i ≤ j → j < d.size → d[i]! ≤ d[j]!) : ∀ m, m ≤ d.size →
    (compactUpTo d m).Pairwise (· < ·) ∧ (∀ x, x ∈ compactUpTo d m ↔ ∃ j, j < m ∧ d[j]! = x) ∧ ∀ x ∈ compactUpTo d m, x ≤ d[m - 1]!
  | 0, _ => ⟨by simp [compactUpTo], by simp [compactUpTo], by simp [compactUpTo]⟩
  | m + 1, hm => by
    obtain ⟨h1, h2, h3⟩ := cmp_inv hd m (by omega)
    rw [compactUpTo_succ]
    by_cases hk : keeps d m = true
    · rw [if_pos hk]
      have hlt : ∀ x ∈ compactUpTo d m, x < d[m]! := fun x hx => by
        have hx3 := h3 x hx
        obtain ⟨j, hj, _⟩ := (h2 x).1 hx
        rcases of_decide_eq_true hk with e | e
        · omega
        · have hle := hd (m - 1) m (by omega) (by omega)
          exact Classical.byContradiction fun hn => e (List.le_antisymm (List.le_trans (List.not_lt.1 hn) hx3) hle)
      refine ⟨List.pairwise_append.2 ⟨h1, List.pairwise_singleton _ _, fun a ha b hb => by rw [List.mem_singleton.1 hb]; exact hlt a ha⟩, fun x => ?_, fun x hx => ?_⟩
      · rw [List.mem_append, List.mem_singleton, h2]
        constructor
        · rintro (⟨j, hj, e⟩ | e)
          · exact ⟨j, by omega, e⟩
          · exact ⟨m, by omega, e.symm⟩
        · rintro ⟨j, hj, e⟩
          by_cases c : j = m
          · subst c; exact .inr e.symm
          · exact .inl ⟨j, by omega, e⟩
      · rw [Nat.add_sub_cancel]
        rcases List.mem_append.1 hx with hx | hx
        · exact List.le_of_lt (hlt x hx)
        · rw [List.mem_singleton.1 hx]; exact List.le_refl _
    · rw [if_neg hk, List.append_nil]
      have hk' : ¬ (m = 0 ∨ d[m]! ≠ d[m - 1]!) := fun h => hk (decide_eq_true h)
      have hm0 : m ≠ 0 := fun h => hk' (.inl h)
      have he : d[m]! = d[m - 1]! := Classical.byContradiction fun h => hk' (.inr h)
      refine ⟨h1, fun x => ?_, fun x hx => by rw [Nat.add_sub_cancel, he]; exact h3 x hx⟩
      rw [h2]
      constructor
      · rintro ⟨j, hj, e⟩; exact ⟨j, by omega, e⟩
      · rintro ⟨j, hj, e⟩
        by_cases c : j = m
        · subst c; exact ⟨j - 1, by omega, by rw [← he]; exact e⟩
        · exact ⟨j, by omega, e⟩
theorem srt_le (ss : List ByteArray) : ((ss.map byt8).mergeSort fun x y => decide (x ≤ y)).Pairwise (· ≤ ·) := by
  have := List.pairwise_mergeSort (le := fun x y : List UInt8 => decide (x ≤ y)) (fun a b c h1 h2 => by
    simp only [decide_eq_true_eq] at h1 h2 ⊢; exact List.le_trans h1 h2) (fun a b => by
    rcases List.le_total a b with h | h
    · simp [h]
    · simp [h]) (ss.map byt8)
  exact this.imp fun h => of_decide_eq_true h
theorem cmp_srt (ss : List ByteArray) : cmpB (srtB ss) = rising ss ∧ (cmpB (srtB ss)).length ≤ (srtB ss).length := by
  have hl : ∀ D : List (List UInt8), D.Pairwise (· ≤ ·) → ∀ i j, i ≤ j → j < D.toArray.size → D.toArray[i]! ≤ D.toArray[j]! := fun D hD i j hij hj => by
    have hj' : j < D.length := by simpa using hj
    simp only [List.getElem!_toArray]
    rw [getElem!_pos D i (by omega), getElem!_pos D j hj']
    rcases Nat.lt_or_eq_of_le hij with h | h
    · exact (List.pairwise_iff_getElem.1 hD) i j (by omega) hj' h
    · subst h; exact List.le_refl _
  have hb := srtB_byt ss
  have h0 := cmp_inv (hl _ (srt_le ss)) _ (Nat.le_refl _)
  have hc : (cmpB (srtB ss)).map byt8 = Go.Lib.compactUpTo ((ss.map byt8).mergeSort fun x y => decide (x ≤ y)).toArray ((ss.map byt8).mergeSort fun x y => decide (x ≤ y)).toArray.size := by
    rw [cmpB_byt, hb]; rfl
  rw [← hc] at h0
  obtain ⟨h1, h2, _⟩ := h0
  refine ⟨ris_ext (List.pairwise_map.1 h1) (rising_ris ss) fun s => ?_, ?_⟩
  · rw [rising_mem]
    have hm := h2 (byt8 s)
    have e1 : byt8 s ∈ (cmpB (srtB ss)).map byt8 ↔ s ∈ cmpB (srtB ss) := ⟨fun h => by obtain ⟨t, ht, e⟩ := List.mem_map.1 h; rw [← bl_inj e]; exact ht, fun h => List.mem_map_of_mem h⟩
    have e2 : (∃ j, j < ((ss.map byt8).mergeSort fun x y => decide (x ≤ y)).toArray.size ∧ ((ss.map byt8).mergeSort fun x y => decide (x ≤ y)).toArray[j]! = byt8 s) ↔ byt8 s ∈ ((ss.map byt8).mergeSort fun x y => decide (x ≤ y)) := by
      generalize ((ss.map byt8).mergeSort fun x y => decide (x ≤ y)) = D
      constructor
      · rintro ⟨j, hj, e⟩
        have hj' : j < D.length := by simpa using hj
        rw [List.getElem!_toArray, getElem!_pos D j hj'] at e
        rw [← e]; exact List.getElem_mem _
      · intro h
        obtain ⟨j, hj, e⟩ := List.getElem_of_mem h
        exact ⟨j, by simpa using hj, by rw [List.getElem!_toArray, getElem!_pos D j hj]; exact e⟩
    rw [← e1, hm, e2, (List.mergeSort_perm _ _).mem_iff]
    exact ⟨fun h => by obtain ⟨t, ht, e⟩ := List.mem_map.1 h; rw [← bl_inj e]; exact ht, fun h => List.mem_map_of_mem h⟩
  · have : (cmpB (srtB ss)).length = ((cmpB (srtB ss)).map byt8).length := by rw [List.length_map]
    rw [this, hc]
    unfold Go.Lib.compactUpTo
    rw [List.length_map]
    refine Nat.le_trans (List.length_filter_le _ _) ?_
    rw [List.length_range, List.size_toArray, ← hb, List.length_map]
    exact Nat.le_refl _
end Go.Sx

/- The program's Make of a set. -/
set_option linter.unusedVariables false
set_option linter.unusedSimpArgs false
set_option maxRecDepth 100000
namespace Go.Sx
attribute [local go_sem ↓] bind_mk intsB_mk strsB_mk svB_mk fnVC ob_some vc_skip vc_exit vc_ret vc_seq vc_block kSeq_normal kSeq_exit kSeq_ret kBlock_normal kBlock_exit kBlock_ret vc_reg vc_regD vc_cond condK_true condK_false vc_loop kLoop_exit kLoop_ret kRoll_normal kRoll_exit kRoll_ret vcOps_nil vcOps_cons gd_bool gd_undef put_some put_none vcT_fin vcT_pure vcT_act vcT_acts vcT_stop stab_none stab_some stabM_nil stabM_cons stabO_ld stabO_ldn stabO_slP stabO_b2s fldOf_ai fldOf_agg fldOf_ait fldOf_aggt intsOf_nil intsOf_cons strsOf_nil strsOf_cons c_omap ob_if lk_nil lk_cons ev_t ev_k z_mov z_pick z_bin z_binA z_binB z_binP z_un z_r2s z_conv z_s2b z_b2s z_mkM z_luM z_upM z_lenM lenMk_mp lenMk_nil plsOf_v z_delM asM_so plV_v plV_agg mpOf_mp mpOf_nil mpUp_mp asM_mp luV_ok luV_v z_allocT aggOf_mk z_boxT z_alloc z_bld z_bldI z_rowI z_rowS z_ld z_ldn z_st z_stn asN_ptr asN_fn z_nilck z_fld z_fadr z_idxA z_idxP z_idxS z_idxV z_slS z_slL z_slP z_mk z_lenS z_lenL z_app appC_ints appC_pl appC_sv appC_strs isS_strs loose_ints loose_pl loose_sv z_slM z_callv callvK_fn callvK_f callvK_yl vc_rangeF rfEnd_eq rfGo_none rfGo_ret rfGo_exit yGo_mk yEnd_n yEnd_r yEnd_e yRdy_mk yMid_n putPs_nil putPs_cons leaf_v leaf_ptr leaf_sl leaf_yl leaf_mp z_appS z_appST z_appZ z_cpyS z_mkfn reps_int reps_str z_rowV z_slnil nilK_zero z_cpy z_call asT_tup z_extT z_box boxOf_ai boxOf_agg boxOf_int boxOf_str boxOf_bool boxOf_ptr boxOf_sl sbin_int sbin_str sbinA_mk ae_nil ae_int ae_str sbinB_mk sbinP_nn sbinP_pn sbinP_np i_add i_sub i_mul i_quo i_rem i_and i_or i_xor i_andNot i_shl i_shr i_eql i_neq i_lss i_leq i_gtr i_geq st_add st_eql st_neq st_lss st_leq st_gtr st_geq bo_eql bo_neq pt_eql pt_neq un_neg un_xor un_not asI_mk asB_mk asS_mk asP_mk asSl_mk asBy_mk bnd_none bnd_some get_mk hput_mk hdel_mk kill_eq wrOf_eq rowOf_eq rsvs_0 rsvs_1 rsvs_2 rsvs_3 rsv_t rsv_c1 rsv_cn nt_v nt_ptr nt_sl nt_agg nt_ai get_ints get_strs get_pl get_sv getN_ints getN_sv set_ints set_strs set_sv setN_ints setN_sv part_ints part_strs part_sv cat_ints cat_strs cat_sv over_ints over_strs over_sv ones_ints ones_strs evs_nil evs_cons condK_eqt condK_eqf det_callP V_ns V_nn V_gs V_gn obC_mk fresh_ev freshT_ev freshR_ev setN_plagg setN_intsv setN_svai setN_svagg over_intsv set_pl setN_pl setN_plai getN_pl getN_strs part_pl cat_pl over_pl over_plints z_mm
attribute [local go_sem] initTm ne_eq not_true_eq_false not_false_eq_true true_and and_true List.length_cons List.length_nil Int.toNat_natCast Nat.add_zero Nat.zero_add Nat.mul_one List.getElem?_cons_zero List.drop_zero List.take_length List.take_succ_cons List.take_zero List.take_nil List.drop_succ_cons Option.map_some Nat.le_refl implies_true List.getElem?_cons_succ decide_true decide_false Bool.not_true Bool.not_false beq_self_eq_true Nat.succ_ne_self Nat.one_ne_zero Nat.zero_ne_one vk_mk hk_mk nk_mk tok_eq plsOf_map intsOf_map bodyOf_pl bodyOf_ints bodyOf_strs bodyOf_sv part_aggv part_agg part_ai part_int part_str part_bool part_sl part_ptr part_nil numsOf_map u_int u_str u_bool u_pnil u_sl u_ptr u_oci u_ocs evq_nil evq_cons fillS_nil fillS_cons u_ocb ones_pl cells_sv cells_ints cells_strs cells_pl smms_nil smms_cons smm_min smm_max plsOf_nil List.nil_append List.all_cons List.all_nil Bool.and_self Bool.true_and Bool.and_true zws_len zw_len zi_len List.set_cons_zero List.set_cons_succ List.flatMap_cons List.flatMap_nil List.append_nil
attribute [local go_sem_proc] Nat.reduceEqDiff Nat.reduceAdd Nat.reduceMul Nat.reduceLT Nat.reduceLeDiff Nat.reduceSub Int.reduceToNat Int.reduceLE Int.reduceLT reduceCtorEq Int.reduceEq Int.reduceGT Int.reduceGE Int.reduceNeg
attribute [local go_sem_proc ↓] reduceIte
section
open Go.Proofs
variable {H : Hp} {n : Nat} {x : Nat → Option SO}
theorem sub_wr {π : List (Nat × Nat)} {j i : Nat} {o : SO} (hr : rn π j = i) (hi : 0 < i) (h1 : i < 1000) {b : Body} (hg : H.get i = some ⟨true, b⟩) (hb : b = o.b.ren π) : objSub π H j o := by
  unfold objSub
  rw [hr, if_neg (by omega), hg]
  exact ⟨fun _ => h1, fun _ => rfl, hb⟩
theorem sub_ro {π : List (Nat × Nat)} {j i : Nat} {b0 : Body} (hr : rn π j = i) (hi : 0 < i) {s : SO} (hg : H.get i = some s) (hb : s.b = b0.ren π) : objSub π H j ⟨false, b0⟩ := by
  unfold objSub
  rw [hr, if_neg (by omega), hg]
  exact ⟨fun h => (by cases h), fun h => (by cases h), hb⟩
theorem rf_fnT {C : Tab} {tm : List (Nat × SV)} {g : Nat} {caps : List SV} {ps : List Nat} {N : Nat} {ma mb : MC} {K : Ex → St → Prop} (hn : n < 1000) (h : ∀ (L : Loop) (T : List (Nat × SV)), T = tm → C.isL L N ps ma mb → callK (C g) (.yl n :: caps) (H.put n ⟨true, .mp (.loop L .ready none T)⟩) (n + 1) (rfEnd n T K)) : rfK C (.fn g caps) ps N ma mb ⟨tm, H, n⟩ K := ⟨hn, fun L hL => h L tm rfl hL⟩
def risR (l : List ByteArray) : List ByteArray := rising l ++ List.replicate (l.length - (rising l).length) .empty
def mkV (l : List ByteArray) (need : Int) (r : Nat) : SV := if okSet (rising l) need = true then .tup [.agg [.sl r 0 (rising l).length 1, .v (.int .i64 need)], .v (.int .i64 0)] else .tup [.agg [.sl 0 0 0 1, .v (.int .i64 0)], .v (.int .i64 1)]
theorem checkS0 {l : List ByteArray} {i o m : Nat} {ss : List ByteArray} {u : Bool} {need : Int} (hi : H.get i = some ⟨u, .strs ss⟩) (h0 : 0 < i) (hl : l = (ss.drop o).take m) (hm : o + m ≤ ss.length) : SpecAt Tryz.prog nQCheck [.agg [.sl i o m 1, .v (.int .i64 need)]] H n (.v (.int .i64 (if okSet l need = true then 0 else 1))) H n := by
  have := lift_ro (n := n) (H := H) (lc := [(1, some ⟨false, .strs ss⟩)]) (okT.spec tQCheck (checkW (x := H.x) (need := need) hl hm)) [(1, i)] rfl rfl rfl (by omega) rfl rfl
    ⟨sub_ro rfl h0 hi rfl, trivial⟩ (by simp [apartB, apart1, rn, lk]) (by simp [wrNZ, rn, lk]) rfl
  exact this
theorem checkS {l : List ByteArray} {i o m : Nat} {ss : List ByteArray} {u : Bool} {need : Int} (hi : H.get i = some ⟨u, .strs ss⟩) (h0 : 0 < i) (hl : l = (ss.drop o).take m) (hm : o + m ≤ ss.length) (hb : m ≤ 10000000) : SpecAt Tryz.prog nQCheck [.agg [.sl i o m 1, .v (.int .i64 need)]] H n (.v (.int .i64 (if okSet l need = true then 0 else 1))) H n := checkS0 hi h0 hl hm
theorem spA {α : Type} (a b c : α) : splice [a, b] 0 [c] = [c, b] := rfl
theorem spB {α : Type} (a b c : α) : splice [a, b] 1 [c] = [a, c] := rfl
theorem spC {α : Type} (a b c d : α) : splice [a, b] 0 [c, d] = [c, d] := rfl
theorem tk2 {α : Type} (a b : α) : List.take 2 [a, b] = [a, b] := rfl
theorem cmpR_srt (l : List ByteArray) : cmpR (srtB l) = risR l := by unfold cmpR risR; rw [(cmp_srt l).1, srtB_len]
theorem makeW {l : List ByteArray} {o m : Nat} {ss : List ByteArray} {need : Int} (hl : l = (ss.drop o).take m) (hm : o + m ≤ ss.length) (hb : m ≤ 10000000) : fnVC CT mQMake [.sl 1 o m 1, .v (.int .i64 need)] ⟨[(1, some ⟨false, .strs ss⟩)], x⟩ 2 fun v H' n' => Sub 2 ⟨[(0, mkV l need 2)], ⟨[(2, some ⟨true, .strs (risR l)⟩)], x⟩, 3⟩ ⟨[(0, v)], H', n'⟩ := by
  have hll : l.length = m := by rw [hl, List.length_take, List.length_drop]; omega
  have hget : ∀ j, j < m → ss.getD (o + j) .empty = l.getD j .empty := fun j hj => by rw [hl, take_getD hj, drop_getD]
  unfold mQMake
  simp -implicitDefEqProofs only [↓fnVC, initTm]
  simp -implicitDefEqProofs only [go_sem]
  refine in_call mixT tValues ?_
  unfold mValues
  simp -implicitDefEqProofs only [↓fnVC, initTm]
  simp -implicitDefEqProofs only [go_sem, List.isEmpty_cons, Bool.false_eq_true, if_false]
  refine in_call mixT tSorted ?_
  unfold mSorted
  simp -implicitDefEqProofs only [↓fnVC, initTm]
  simp -implicitDefEqProofs only [go_sem, List.isEmpty_cons, Bool.false_eq_true, if_false]
  refine in_call mixT tCollect ?_
  unfold mCollect
  simp -implicitDefEqProofs only [↓fnVC, initTm]
  simp -implicitDefEqProofs only [go_sem, List.isEmpty_cons, Bool.false_eq_true, if_false]
  refine in_call mixT tAppendSeq ?_
  unfold mAppendSeq
  simp -implicitDefEqProofs only [↓fnVC, initTm]
  simp -implicitDefEqProofs only [go_sem, List.isEmpty_cons, Bool.false_eq_true, if_false]
  refine rf_fnT (by decide) (fun L T hT hL => ?_)
  have l2 : lk T 2 = some (.ptr 4 0) := by rw [hT]; rfl
  refine in_call mixT tValues1 ?_
  unfold mValues1
  simp -implicitDefEqProofs only [↓fnVC, initTm]
  simp -implicitDefEqProofs only [go_sem]
  refine loop_fam (fun (j : Nat) => j ≤ m)
    (fun j => ⟨[(0, .yl 5), (5, .sl 1 o m 1), (6, .v (.int .i64 m)), (7, .v (.int .i64 j))], ⟨[(1, some ⟨false, .strs ss⟩), (2, some ⟨true, .sv [.sl 0 0 0 1, .v (.int .i64 0)]⟩), (4, some ⟨true, .sv [.sl 6 0 j 1]⟩), (5, some ⟨true, .mp (.loop L .ready none T)⟩), (6, some ⟨true, .strs (l.take j)⟩)], x⟩, 7⟩)
    (fun j => m - j) 0 (Nat.zero_le _) ?_ ?_
  · refine sub_mk [(6, 0)] rfl rfl (by subst hT; rfl) ?_
    simp only [tmSub, hpSub, objSub, eqTm, eqHp, rn, lk, SV.ren, SV.renC, SV.renB, SV.renA, ren_ints, ren_strs, ren_pl, ren_svs, SV.v.injEq, Value.int.injEq, Body.ints.injEq, SV.ptr.injEq, SV.sl.injEq, Value.string.injEq, Value.bool.injEq, List.map_cons, List.map_nil, forall_const, Nat.reduceLT, Nat.lt_add_one, imp_self, true_and, and_true, and_self, ob_some, get_mk, lk_cons, ↓reduceIte, Nat.reduceEqDiff, ne_eq, not_true_eq_false, not_false_eq_true, Nat.one_ne_zero, Nat.zero_ne_one, Nat.succ_ne_self, Nat.reduceAdd, Bool.false_eq_true, false_implies, implies_true, reduceCtorEq, Body.ren_nil]
    exact ⟨rfl, by subst hT; rfl, rfl⟩
  · intro j hj
    simp -implicitDefEqProofs only [go_sem]
    refine condK_bb (fun d => ?_) (fun d => ?_)
    · have d1 : j < m := by have := of_decide_eq_true d; omega
      have g1 := hget j d1
      simp -implicitDefEqProofs only [go_sem, d, g1]
      refine ⟨⟨by omega, by omega⟩, by omega, ?_⟩
      refine at_yield mixT (yvc_mk hL rfl rfl rfl ?_)
      have e3 : (l.take j).take j = l.take j := by rw [List.take_take, Nat.min_self]
      have e4 : l.take j ++ [l.getD j .empty] = l.take (j + 1) := by rw [List.take_add_one, List.getD_eq_getElem?_getD, List.getElem?_eq_getElem (by omega)]; rfl
      simp -implicitDefEqProofs only [go_sem, l2, e3]
      refine ⟨by omega, by omega, by rw [List.length_take]; omega, app_kill ?_⟩
      have w3 : IntKind.i64.wrap ((j : Int) + 1) = ((j + 1 : Nat) : Int) := by rw [wrap_i64 (by omega) (by omega)]; omega
      simp -implicitDefEqProofs only [go_sem, l2, e3, e4]
      refine kLoop_mk (j + 1) (by omega) (by omega) ?_
      refine sub_mk [(6, 8)] rfl rfl (by subst hT; rfl) ?_
      simp only [tmSub, hpSub, objSub, eqTm, eqHp, rn, lk, SV.ren, SV.renC, SV.renB, SV.renA, ren_ints, ren_strs, ren_pl, ren_svs, SV.v.injEq, Value.int.injEq, Body.ints.injEq, SV.ptr.injEq, SV.sl.injEq, Value.string.injEq, Value.bool.injEq, List.map_cons, List.map_nil, forall_const, Nat.reduceLT, Nat.lt_add_one, imp_self, true_and, and_true, and_self, ob_some, get_mk, lk_cons, ↓reduceIte, Nat.reduceEqDiff, ne_eq, not_true_eq_false, not_false_eq_true, Nat.one_ne_zero, Nat.zero_ne_one, Nat.succ_ne_self, Nat.reduceAdd, Bool.false_eq_true, false_implies, implies_true, reduceCtorEq, Body.ren_nil, w3]
      subst hT; rfl
    · have d1 : j = m := by have := of_decide_eq_false d; omega
      subst d1
      have e5 : l.take j = l := List.take_of_length_le (by omega)
      simp -implicitDefEqProofs only [go_sem, d, l2, e5]
      refine at_ext (enters_mk Tryz.func67 rfl rfl) (sortT (i := 6) (m := j) (ss := l) (by rfl) hll.symm hb) ?_
      simp -implicitDefEqProofs only [go_sem]
      refine at_ext (enters_mk Tryz.func55 rfl rfl) (compactT (i := 6) (m := j) (ss := srtB l) (by rfl) (by rw [srtB_len]; exact hll.symm) hb (cmp_srt l).2) ?_
      rw [(cmp_srt l).1, cmpR_srt]
      have hrl : (rising l).length ≤ l.length := by rw [← (cmp_srt l).1]; refine Nat.le_trans (cmp_srt l).2 ?_; rw [srtB_len]; exact Nat.le_refl _
      have hR : risR l = rising l ++ List.replicate (l.length - (rising l).length) .empty := rfl
      have hRl : (risR l).length = l.length := by rw [hR, List.length_append, List.length_replicate]; omega
      have hRt : rising l = ((risR l).drop 0).take (rising l).length := by rw [List.drop_zero, hR, List.take_left']; rfl
      simp -implicitDefEqProofs only [go_sem, spA, spB, spC, tk2]
      refine at_call tQCheck (checkS (i := 6) (l := rising l) (ss := risR l) (o := 0) (m := (rising l).length) (need := need) (by rfl) (by decide) hRt (by omega) (by omega)) ?_
      unfold mkV
      by_cases hk : okSet (rising l) need = true
      · rw [if_pos hk, if_pos hk]
        simp -implicitDefEqProofs only [go_sem, spA, spB, spC, tk2]
        refine sub_mk [(2, 6)] rfl rfl rfl ?_
        simp only [tmSub, hpSub, objSub, eqTm, eqHp, rn, lk, SV.ren, SV.renC, SV.renB, SV.renA, ren_ints, ren_strs, ren_pl, ren_svs, SV.v.injEq, Value.int.injEq, Body.ints.injEq, SV.ptr.injEq, SV.sl.injEq, Value.string.injEq, Value.bool.injEq, List.map_cons, List.map_nil, forall_const, Nat.reduceLT, Nat.lt_add_one, imp_self, true_and, and_true, and_self, ob_some, get_mk, lk_cons, ↓reduceIte, Nat.reduceEqDiff, ne_eq, not_true_eq_false, not_false_eq_true, Nat.one_ne_zero, Nat.zero_ne_one, Nat.succ_ne_self, Nat.reduceAdd, Bool.false_eq_true, false_implies, implies_true, reduceCtorEq]
      · rw [if_neg hk, if_neg hk]
        simp -implicitDefEqProofs only [go_sem, spA, spB, spC, tk2]
        refine sub_mk [(2, 6)] rfl rfl rfl ?_
        simp only [tmSub, hpSub, objSub, eqTm, eqHp, rn, lk, SV.ren, SV.renC, SV.renB, SV.renA, ren_ints, ren_strs, ren_pl, ren_svs, SV.v.injEq, Value.int.injEq, Body.ints.injEq, SV.ptr.injEq, SV.sl.injEq, Value.string.injEq, Value.bool.injEq, List.map_cons, List.map_nil, forall_const, Nat.reduceLT, Nat.lt_add_one, imp_self, true_and, and_true, and_self, ob_some, get_mk, lk_cons, ↓reduceIte, Nat.reduceEqDiff, ne_eq, not_true_eq_false, not_false_eq_true, Nat.one_ne_zero, Nat.zero_ne_one, Nat.succ_ne_self, Nat.reduceAdd, Bool.false_eq_true, false_implies, implies_true, reduceCtorEq]
end
section
/- The program's Who, Enough. -/
set_option linter.unusedVariables false
set_option linter.unusedSimpArgs false
set_option maxRecDepth 100000
open Go.Proofs
variable {H : Hp} {n : Nat} {x : Nat → Option SO}
abbrev Sg : Type := List (ByteArray × ByteArray)
def sgP (l : Sg) : List Value := l.flatMap fun g => [.string g.1, .string g.2]
abbrev sgZ (l : Sg) : Prop := ∀ g ∈ l, g.2.size = 323
abbrev gE : ByteArray × ByteArray := (.empty, .empty)
theorem sgP_len (l : Sg) : (sgP l).length = 2 * l.length := by
  induction l with
  | nil => rfl
  | cons g l ih => simp only [sgP, List.flatMap_cons, List.length_append, List.length_cons, List.length_nil] at *; omega
theorem sgP_app (l r : Sg) : sgP (l ++ r) = sgP l ++ sgP r := by simp [sgP]
theorem sgP_at : ∀ {l : Sg} {j : Nat}, j < l.length → ((sgP l).drop (2 * j)).take 2 = [.string (l.getD j gE).1, .string (l.getD j gE).2]
  | g :: l, 0, _ => rfl
  | g :: l, j + 1, h => by
    have := sgP_at (l := l) (j := j) (by simpa using h)
    show (List.drop (2 * (j + 1)) (.string g.1 :: .string g.2 :: sgP l)).take 2 = _
    rw [show 2 * (j + 1) = 2 * j + 1 + 1 by omega, List.drop_succ_cons, List.drop_succ_cons]
    exact this
theorem verS {id text g : ByteArray} (hg : g.size = 323) (ht : text.size ≤ 1000000000) : SpecAt Tryz.prog nKVerify [.v (.string id), .v (.string text), .v (.string g)] H n (.v (.int .i64 (ver id text g))) H n := lift_pure (okT.spec tKVerify (verW hg ht)) rfl
theorem boxOf_vagg {xs : Array Value} {K : Body → Prop} : boxOf (.v (.agg xs)) K = K (.pl xs.toList) := rfl
def hit1 (id text : ByteArray) (g : ByteArray × ByteArray) : Bool := decide (g.1 = id) && decide (ver id text g.2 = 0)
def hit (id text : ByteArray) (l : Sg) : Bool := l.any (hit1 id text)
theorem any_no {α : Type} {p : α → Bool} {d : α} : ∀ {l : List α}, (∀ j, j < l.length → p (l.getD j d) = false) → l.any p = false
  | [], _ => rfl
  | a :: l, h => by
    rw [List.any_cons, show p a = false from h 0 (Nat.succ_pos _), Bool.false_or]
    exact any_no (d := d) fun j hj => h (j + 1) (by simpa using hj)
theorem any_yes {α : Type} {p : α → Bool} {d : α} : ∀ {l : List α} {j : Nat}, j < l.length → p (l.getD j d) = true → l.any p = true
  | a :: l, 0, _, h => by rw [List.any_cons, show p a = true from h]; rfl
  | a :: l, j + 1, hj, h => by rw [List.any_cons, any_yes (d := d) (l := l) (j := j) (by simpa using hj) h, Bool.or_true]
theorem contW {l : Sg} {o m : Nat} {gs : Sg} {id text : ByteArray} (hl : l = (gs.drop o).take m) (hm : o + m ≤ gs.length) (hb : m ≤ 10000000) (hz : sgZ l) (ht : text.size ≤ 1000000000) :
    fnVC CT mContF [.sl 1 (2 * o) m 2, .fn 63 [.ptr 2 0, .ptr 3 0]] ⟨[(1, some ⟨false, .pl (sgP gs)⟩), (2, some ⟨false, .sv [.v (.string id)]⟩), (3, some ⟨false, .sv [.v (.string text)]⟩)], x⟩ 4 fun v H' n' => Sub 4 ⟨[(0, .v (.bool (hit id text l)))], ⟨[], x⟩, 4⟩ ⟨[(0, v)], H', n'⟩ := by
  have hll : l.length = m := by rw [hl, List.length_take, List.length_drop]; omega
  have hget : ∀ j, j < m → gs.getD (o + j) gE = l.getD j gE := fun j hj => by rw [hl, take_getD hj, drop_getD]
  unfold mContF
  simp -implicitDefEqProofs only [↓fnVC, initTm]
  simp -implicitDefEqProofs only [go_sem]
  refine in_call mixT tIndexF ?_
  unfold mIndexF
  simp -implicitDefEqProofs only [↓fnVC, initTm]
  simp -implicitDefEqProofs only [go_sem, List.isEmpty_cons, Bool.false_eq_true, if_false]
  refine loop_fam (fun (j : Nat) => j ≤ m ∧ ∀ i, i < j → hit1 id text (l.getD i gE) = false)
    (fun j => ⟨[(0, .sl 1 (2 * o) m 2), (1, .fn 63 [.ptr 2 0, .ptr 3 0]), (7, .v (.int .i64 m)), (8, .v (.int .i64 j))], ⟨[(1, some ⟨false, .pl (sgP gs)⟩), (2, some ⟨false, .sv [.v (.string id)]⟩), (3, some ⟨false, .sv [.v (.string text)]⟩)], x⟩, 4⟩)
    (fun j => m - j) 0 ⟨Nat.zero_le _, fun i hi => absurd hi (Nat.not_lt_zero _)⟩ ?_ ?_
  · refine sub_mk [] rfl rfl rfl ?_
    simp only [tmSub, hpSub, objSub, eqTm, eqHp, rn, lk, SV.ren, SV.renC, SV.renB, SV.renA, ren_ints, ren_strs, ren_pl, ren_svs, SV.v.injEq, Value.int.injEq, Body.ints.injEq, SV.ptr.injEq, SV.sl.injEq, Value.string.injEq, Value.bool.injEq, List.map_cons, List.map_nil, forall_const, Nat.reduceLT, Nat.lt_add_one, imp_self, true_and, and_true, and_self, ob_some, get_mk, lk_cons, ↓reduceIte, Nat.reduceEqDiff, ne_eq, not_true_eq_false, not_false_eq_true, Nat.one_ne_zero, Nat.zero_ne_one, Nat.succ_ne_self, Nat.reduceAdd, Bool.false_eq_true, false_implies, implies_true, reduceCtorEq]
    rfl
  · rintro j ⟨hj, hno⟩
    simp -implicitDefEqProofs only [go_sem]
    refine condK_bb (fun d => ?_) (fun d => ?_)
    · have d1 : j < m := by have := of_decide_eq_true d; omega
      have g1 := sgP_at (l := gs) (j := o + j) (by omega)
      rw [hget j d1] at g1
      have g2 : 2 * o + j * 2 = 2 * (o + j) := by omega
      have hz1 : (l.getD j gE).2.size = 323 := hz _ (by rw [List.getD_eq_getElem?_getD, List.getElem?_eq_getElem (by omega)]; exact List.getElem_mem _)
      simp -implicitDefEqProofs only [go_sem, d, g2, g1]
      refine ⟨⟨by omega, by omega⟩, by rw [sgP_len]; omega, ?_⟩
      have hh1 : hit1 id text (l.getD j gE) = (decide ((l.getD j gE).1 = id) && decide (ver id text (l.getD j gE).2 = 0)) := rfl
      generalize hgd : l.getD j gE = q at hz1 hh1 ⊢
      obtain ⟨qi, qs⟩ := q
      simp only at hz1 hh1 ⊢
      have w3 : IntKind.i64.wrap ((j : Int) + 1) = ((j + 1 : Nat) : Int) := by rw [wrap_i64 (by omega) (by omega)]; omega
      have f1 : decide ((j : Int) ≥ 0) = true := decide_eq_true (by omega)
      refine in_call mixT tQWho1 ?_
      show fnVC _ _ [_, _, _] _ _ _
      unfold mQWho1
      simp -implicitDefEqProofs only [↓fnVC, initTm]
      simp -implicitDefEqProofs only [go_sem, boxOf_vagg]
      by_cases hi : qi = id
      · have e1 : seq qi id = true := by rw [hi]; exact seq_self _
        rw [decide_eq_true hi, Bool.true_and] at hh1
        simp -implicitDefEqProofs only [go_sem, e1]
        refine at_call tKVerify (verS hz1 ht) ?_
        by_cases hv : ver id text qs = 0
        · have e2 : decide (ver id text qs = 0) = true := decide_eq_true hv
          rw [e2] at hh1
          have hf : hit id text l = true := any_yes (d := gE) (j := j) (by omega) (by rw [hgd]; exact hh1)
          rw [hf]
          simp -implicitDefEqProofs only [go_sem, e1, e2, f1]
          exact sub_val rfl (by decide) (by decide) rfl
        · have e2 : decide (ver id text qs = 0) = false := decide_eq_false hv
          rw [e2] at hh1
          simp -implicitDefEqProofs only [go_sem, e1, e2, w3]
          refine kLoop_mk (j + 1) ⟨by omega, fun i hi => ?_⟩ (by omega) ?_
          · by_cases c : i = j
            · subst c; rw [hgd]; exact hh1
            · exact hno i (by omega)
          refine sub_mk [] rfl rfl rfl ?_
          simp only [tmSub, hpSub, objSub, eqTm, eqHp, rn, lk, SV.ren, SV.renC, SV.renB, SV.renA, ren_ints, ren_strs, ren_pl, ren_svs, SV.v.injEq, Value.int.injEq, Body.ints.injEq, SV.ptr.injEq, SV.sl.injEq, Value.string.injEq, Value.bool.injEq, List.map_cons, List.map_nil, forall_const, Nat.reduceLT, Nat.lt_add_one, imp_self, true_and, and_true, and_self, ob_some, get_mk, lk_cons, ↓reduceIte, Nat.reduceEqDiff, ne_eq, not_true_eq_false, not_false_eq_true, Nat.one_ne_zero, Nat.zero_ne_one, Nat.succ_ne_self, Nat.reduceAdd, Bool.false_eq_true, false_implies, implies_true, reduceCtorEq, w3]
      · have e1 : seq qi id = false := seq_ne hi
        rw [decide_eq_false hi, Bool.false_and] at hh1
        simp -implicitDefEqProofs only [go_sem, e1, w3]
        refine kLoop_mk (j + 1) ⟨by omega, fun i hi => ?_⟩ (by omega) ?_
        · by_cases c : i = j
          · subst c; rw [hgd]; exact hh1
          · exact hno i (by omega)
        refine sub_mk [] rfl rfl rfl ?_
        simp only [tmSub, hpSub, objSub, eqTm, eqHp, rn, lk, SV.ren, SV.renC, SV.renB, SV.renA, ren_ints, ren_strs, ren_pl, ren_svs, SV.v.injEq, Value.int.injEq, Body.ints.injEq, SV.ptr.injEq, SV.sl.injEq, Value.string.injEq, Value.bool.injEq, List.map_cons, List.map_nil, forall_const, Nat.reduceLT, Nat.lt_add_one, imp_self, true_and, and_true, and_self, ob_some, get_mk, lk_cons, ↓reduceIte, Nat.reduceEqDiff, ne_eq, not_true_eq_false, not_false_eq_true, Nat.one_ne_zero, Nat.zero_ne_one, Nat.succ_ne_self, Nat.reduceAdd, Bool.false_eq_true, false_implies, implies_true, reduceCtorEq, w3]
    · have d1 : j = m := by have := of_decide_eq_false d; omega
      subst d1
      have hf : hit id text l = false := any_no (d := gE) fun i hi => hno i (by omega)
      rw [hf]
      simp -implicitDefEqProofs only [go_sem, d]
      exact sub_val rfl (by decide) (by decide) rfl
theorem contS {l : Sg} {i j k o m : Nat} {gs : Sg} {id text : ByteArray} {u1 u2 u3 : Bool} (hi : H.get i = some ⟨u1, .pl (sgP gs)⟩) (hj : H.get j = some ⟨u2, .sv [.v (.string id)]⟩) (hk : H.get k = some ⟨u3, .sv [.v (.string text)]⟩) (ne : 0 < i ∧ 0 < j ∧ 0 < k)
    (hl : l = (gs.drop o).take m) (hm : o + m ≤ gs.length) (hb : m ≤ 10000000) (hz : sgZ l) (ht : text.size ≤ 1000000000) :
    SpecAt Tryz.prog nContF [.sl i (2 * o) m 2, .fn 63 [.ptr j 0, .ptr k 0]] H n (.v (.bool (hit id text l))) H n := by
  have := lift_ro (n := n) (H := H) (lc := [(1, some ⟨false, .pl (sgP gs)⟩), (2, some ⟨false, .sv [.v (.string id)]⟩), (3, some ⟨false, .sv [.v (.string text)]⟩)]) (okT.spec tContF (contW (x := H.x) hl hm hb hz ht)) [(1, i), (2, j), (3, k)] rfl rfl rfl (by omega) rfl rfl
    ⟨sub_ro rfl ne.1 hi rfl, sub_ro rfl ne.2.1 hj rfl, sub_ro rfl ne.2.2 hk rfl, trivial⟩ (by simp [apartB, apart1, rn, lk]) (by simp [wrNZ, rn, lk]) rfl
  exact this
def whoL (l : List ByteArray) (need : Int) (text : ByteArray) (gs : Sg) : List ByteArray := if okSet l need = true then l.filter fun id => hit id text gs else []
theorem whoW {l : List ByteArray} {ss : List ByteArray} {o m : Nat} {gl gs : Sg} {p k : Nat} {text : ByteArray} {need : Int} (hl : l = (ss.drop o).take m) (hm : o + m ≤ ss.length) (hb : m ≤ 10000000) (hg : gl = (gs.drop p).take k) (hk : p + k ≤ gs.length) (hkb : k ≤ 10000000) (hz : sgZ gl) (ht : text.size ≤ 1000000000) :
    fnVC CT mQWho [.agg [.sl 1 o m 1, .v (.int .i64 need)], .v (.string text), .sl 2 (2 * p) k 2] ⟨[(1, some ⟨false, .strs ss⟩), (2, some ⟨false, .pl (sgP gs)⟩)], x⟩ 3 fun v H' n' => Sub 3 ⟨[(0, .sl 3 0 (whoL l need text gl).length 1)], ⟨[(3, some ⟨true, .strs (whoL l need text gl)⟩)], x⟩, 4⟩ ⟨[(0, v)], H', n'⟩ := by
  have hll : l.length = m := by rw [hl, List.length_take, List.length_drop]; omega
  have hget : ∀ j, j < m → ss.getD (o + j) .empty = l.getD j .empty := fun j hj => by rw [hl, take_getD hj, drop_getD]
  unfold mQWho
  simp -implicitDefEqProofs only [↓fnVC, initTm]
  simp -implicitDefEqProofs only [go_sem]
  refine at_call tQCheck (checkS (i := 1) (l := l) (ss := ss) (o := o) (m := m) (need := need) (by rfl) (by decide) hl hm hb) ?_
  by_cases hok : okSet l need = true
  · have hw : whoL l need text gl = l.filter fun id => hit id text gl := if_pos hok
    rw [if_pos hok, hw]
    simp -implicitDefEqProofs only [go_sem, List.isEmpty_cons, Bool.false_eq_true, if_false]
    refine loop_fam (fun (j : Nat) => j ≤ m)
      (fun j => ⟨[(2, .sl 2 (2 * p) k 2), (4, .ptr 4 0), (7, .sl 5 0 ((l.take j).filter fun id => hit id text gl).length 1), (15, .sl 1 o m 1), (16, .v (.int .i64 m)), (17, .v (.int .i64 j))], ⟨[(1, some ⟨false, .strs ss⟩), (2, some ⟨false, .pl (sgP gs)⟩), (4, some ⟨true, .sv [.v (.string text)]⟩), (5, some ⟨true, .strs ((l.take j).filter fun id => hit id text gl)⟩)], x⟩, 6⟩)
      (fun j => m - j) 0 (Nat.zero_le _) ?_ ?_
    · refine sub_mk [(5, 0)] rfl rfl rfl ?_
      simp only [tmSub, hpSub, objSub, eqTm, eqHp, rn, lk, SV.ren, SV.renC, SV.renB, SV.renA, ren_ints, ren_strs, ren_pl, ren_svs, SV.v.injEq, Value.int.injEq, Body.ints.injEq, SV.ptr.injEq, SV.sl.injEq, Value.string.injEq, Value.bool.injEq, List.map_cons, List.map_nil, forall_const, Nat.reduceLT, Nat.lt_add_one, imp_self, true_and, and_true, and_self, ob_some, get_mk, lk_cons, ↓reduceIte, Nat.reduceEqDiff, ne_eq, not_true_eq_false, not_false_eq_true, Nat.one_ne_zero, Nat.zero_ne_one, Nat.succ_ne_self, Nat.reduceAdd, Bool.false_eq_true, false_implies, implies_true, reduceCtorEq]
      exact ⟨⟨rfl, rfl⟩, rfl⟩
    · intro j hj
      simp -implicitDefEqProofs only [go_sem]
      refine condK_bb (fun d => ?_) (fun d => ?_)
      · have d1 : j < m := by have := of_decide_eq_true d; omega
        have g1 := hget j d1
        have e4 : l.take (j + 1) = l.take j ++ [l.getD j .empty] := by rw [List.take_add_one, List.getD_eq_getElem?_getD, List.getElem?_eq_getElem (by omega)]; rfl
        have w3 : IntKind.i64.wrap ((j : Int) + 1) = ((j + 1 : Nat) : Int) := by rw [wrap_i64 (by omega) (by omega)]; omega
        simp -implicitDefEqProofs only [go_sem, d, g1, List.isEmpty_cons, Bool.false_eq_true, if_false]
        refine ⟨⟨by omega, by omega⟩, by omega, ?_⟩
        refine at_call tContF (contS (i := 2) (j := 6) (k := 4) (l := gl) (gs := gs) (o := p) (m := k) (by rfl) (by rfl) (by rfl) (by decide) hg hk hkb hz ht) ?_
        have hfl : ((l.take j).filter fun id => hit id text gl).length ≤ j := by refine Nat.le_trans (List.length_filter_le _ _) ?_; rw [List.length_take]; omega
        have e6 : (l.take (j + 1)).filter (fun id => hit id text gl) = (l.take j).filter (fun id => hit id text gl) ++ if hit (l.getD j .empty) text gl = true then [l.getD j .empty] else [] := by
          rw [e4, List.filter_append]; congr 1
          rw [List.filter_cons, List.filter_nil]
        generalize hF : (l.take j).filter (fun id => hit id text gl) = F at hfl e6 ⊢
        have e7 : F.take F.length = F := List.take_of_length_le (Nat.le_refl _)
        by_cases hh : hit (l.getD j .empty) text gl = true
        · rw [if_pos hh] at e6
          rw [hh]
          simp -implicitDefEqProofs only [go_sem]
          refine ⟨by omega, by omega, app_kill ?_⟩
          simp -implicitDefEqProofs only [go_sem, e7, w3]
          refine kLoop_mk (j + 1) (by omega) (by omega) ?_
          refine sub_mk [(5, 8)] rfl rfl rfl ?_
          simp only [tmSub, hpSub, objSub, eqTm, eqHp, rn, lk, SV.ren, SV.renC, SV.renB, SV.renA, ren_ints, ren_strs, ren_pl, ren_svs, SV.v.injEq, Value.int.injEq, Body.ints.injEq, SV.ptr.injEq, SV.sl.injEq, Value.string.injEq, Value.bool.injEq, List.map_cons, List.map_nil, forall_const, Nat.reduceLT, Nat.lt_add_one, imp_self, true_and, and_true, and_self, ob_some, get_mk, lk_cons, ↓reduceIte, Nat.reduceEqDiff, ne_eq, not_true_eq_false, not_false_eq_true, Nat.one_ne_zero, Nat.zero_ne_one, Nat.succ_ne_self, Nat.reduceAdd, Bool.false_eq_true, false_implies, implies_true, reduceCtorEq, w3, e6, e7]
          rw [List.length_append]; rfl
        · rw [if_neg hh, List.append_nil] at e6
          have hh' : hit (l.getD j .empty) text gl = false := by simpa using hh
          rw [hh']
          simp -implicitDefEqProofs only [go_sem, w3]
          refine kLoop_mk (j + 1) (by omega) (by omega) ?_
          refine sub_mk [] rfl rfl rfl ?_
          simp only [tmSub, hpSub, objSub, eqTm, eqHp, rn, lk, SV.ren, SV.renC, SV.renB, SV.renA, ren_ints, ren_strs, ren_pl, ren_svs, SV.v.injEq, Value.int.injEq, Body.ints.injEq, SV.ptr.injEq, SV.sl.injEq, Value.string.injEq, Value.bool.injEq, List.map_cons, List.map_nil, forall_const, Nat.reduceLT, Nat.lt_add_one, imp_self, true_and, and_true, and_self, ob_some, get_mk, lk_cons, ↓reduceIte, Nat.reduceEqDiff, ne_eq, not_true_eq_false, not_false_eq_true, Nat.one_ne_zero, Nat.zero_ne_one, Nat.succ_ne_self, Nat.reduceAdd, Bool.false_eq_true, false_implies, implies_true, reduceCtorEq, w3, e6]
      · have d1 : j = m := by have := of_decide_eq_false d; omega
        subst d1
        have e5 : l.take j = l := List.take_of_length_le (by omega)
        simp -implicitDefEqProofs only [go_sem, d, e5]
        refine sub_mk [(3, 5)] rfl rfl rfl ?_
        simp only [tmSub, hpSub, objSub, eqTm, eqHp, rn, lk, SV.ren, SV.renC, SV.renB, SV.renA, ren_ints, ren_strs, ren_pl, ren_svs, SV.v.injEq, Value.int.injEq, Body.ints.injEq, SV.ptr.injEq, SV.sl.injEq, Value.string.injEq, Value.bool.injEq, List.map_cons, List.map_nil, forall_const, Nat.reduceLT, Nat.lt_add_one, imp_self, true_and, and_true, and_self, ob_some, get_mk, lk_cons, ↓reduceIte, Nat.reduceEqDiff, ne_eq, not_true_eq_false, not_false_eq_true, Nat.one_ne_zero, Nat.zero_ne_one, Nat.succ_ne_self, Nat.reduceAdd, Bool.false_eq_true, false_implies, implies_true, reduceCtorEq]
  · have hw : whoL l need text gl = [] := if_neg hok
    rw [if_neg hok, hw]
    simp -implicitDefEqProofs only [go_sem]
    refine sub_mk [(3, 0)] rfl rfl rfl ?_
    simp only [tmSub, hpSub, objSub, eqTm, eqHp, rn, lk, SV.ren, SV.renC, SV.renB, SV.renA, ren_ints, ren_strs, ren_pl, ren_svs, SV.v.injEq, Value.int.injEq, Body.ints.injEq, SV.ptr.injEq, SV.sl.injEq, Value.string.injEq, Value.bool.injEq, List.map_cons, List.map_nil, forall_const, Nat.reduceLT, Nat.lt_add_one, imp_self, true_and, and_true, and_self, ob_some, get_mk, lk_cons, ↓reduceIte, Nat.reduceEqDiff, ne_eq, not_true_eq_false, not_false_eq_true, Nat.one_ne_zero, Nat.zero_ne_one, Nat.succ_ne_self, Nat.reduceAdd, Bool.false_eq_true, false_implies, implies_true, reduceCtorEq]
    rfl
theorem whoS {l : List ByteArray} {ss : List ByteArray} {a b o m : Nat} {gl gs : Sg} {p k : Nat} {text : ByteArray} {need : Int} {u1 u2 : Bool} (ha : H.get a = some ⟨u1, .strs ss⟩) (hb' : H.get b = some ⟨u2, .pl (sgP gs)⟩) (ne : 0 < a ∧ 0 < b) (hn : n + 1 ≤ 1000)
    (hl : l = (ss.drop o).take m) (hm : o + m ≤ ss.length) (hb : m ≤ 10000000) (hg : gl = (gs.drop p).take k) (hk : p + k ≤ gs.length) (hkb : k ≤ 10000000) (hz : sgZ gl) (ht : text.size ≤ 1000000000) :
    SpecAt Tryz.prog nQWho [.agg [.sl a o m 1, .v (.int .i64 need)], .v (.string text), .sl b (2 * p) k 2] H n (.sl n 0 (whoL l need text gl).length 1) ⟨(n, some ⟨true, .strs (whoL l need text gl)⟩) :: H.l, H.x⟩ (n + 1) := by
  have := lift (n := n) (okT.spec tQWho (whoW (x := H.x) (need := need) hl hm hb hg hk hkb hz ht)) [(1, a), (2, b)] rfl rfl rfl (by omega) rfl rfl
    ⟨sub_ro rfl ne.1 ha rfl, sub_ro rfl ne.2 hb' rfl, trivial⟩ (by simp [apartB, apart1, rn, lk]) (by simp [wrNZ, rn, lk]; try omega) (by omega)
  exact this
def enoB (l : List ByteArray) (need : Int) (text : ByteArray) (gs : Sg) : Bool := okSet l need && decide (need ≤ (whoL l need text gs).length)
theorem enoW {l : List ByteArray} {ss : List ByteArray} {o m : Nat} {gl gs : Sg} {p k : Nat} {text : ByteArray} {need : Int} (hl : l = (ss.drop o).take m) (hm : o + m ≤ ss.length) (hb : m ≤ 10000000) (hg : gl = (gs.drop p).take k) (hk : p + k ≤ gs.length) (hkb : k ≤ 10000000) (hz : sgZ gl) (ht : text.size ≤ 1000000000) :
    fnVC CT mQEnough [.agg [.sl 1 o m 1, .v (.int .i64 need)], .v (.string text), .sl 2 (2 * p) k 2] ⟨[(1, some ⟨false, .strs ss⟩), (2, some ⟨false, .pl (sgP gs)⟩)], x⟩ 3 fun v H' n' => Sub 3 ⟨[(0, .v (.bool (enoB l need text gl)))], ⟨[], x⟩, 3⟩ ⟨[(0, v)], H', n'⟩ := by
  have hwl : (whoL l need text gl).length ≤ 10000000 := by
    unfold whoL; split
    · refine Nat.le_trans (List.length_filter_le _ _) ?_; rw [hl, List.length_take]; omega
    · exact Nat.zero_le _
  unfold mQEnough
  simp -implicitDefEqProofs only [↓fnVC, initTm]
  simp -implicitDefEqProofs only [go_sem]
  refine at_call tQCheck (checkS (i := 1) (l := l) (ss := ss) (o := o) (m := m) (need := need) (by rfl) (by decide) hl hm hb) ?_
  unfold enoB
  by_cases hok : okSet l need = true
  · rw [if_pos hok, hok, Bool.true_and]
    simp -implicitDefEqProofs only [go_sem]
    refine at_call tQWho (whoS (a := 1) (b := 2) (l := l) (ss := ss) (o := o) (m := m) (gl := gl) (gs := gs) (p := p) (k := k) (need := need) (by rfl) (by rfl) (by decide) (by decide) hl hm hb hg hk hkb hz ht) ?_
    simp -implicitDefEqProofs only [go_sem]
    exact sub_val rfl (by decide) (by decide) rfl
  · have hok' : okSet l need = false := by simpa using hok
    rw [if_neg hok, hok', Bool.false_and]
    simp -implicitDefEqProofs only [go_sem]
    exact sub_val rfl (by decide) (by decide) rfl
end
end Go.Sx