/- Layer 1: a digest that is none; pieces. -/
import Derived.Test.YtlnimdiddoalmaaL1v

set_option linter.unusedVariables false
set_option linter.unusedSimpArgs false
set_option maxRecDepth 100000
namespace Go.Sx
attribute [local go_sem ↓] bind_mk intsB_mk strsB_mk svB_mk fnVC ob_some vc_skip vc_exit vc_ret vc_seq vc_block kSeq_normal kSeq_exit kSeq_ret kBlock_normal kBlock_exit kBlock_ret vc_reg vc_regD vc_cond condK_true condK_false vc_loop kLoop_exit kLoop_ret kRoll_normal kRoll_exit kRoll_ret vcOps_nil vcOps_cons gd_bool gd_undef put_some put_none vcT_fin vcT_pure vcT_act vcT_acts vcT_stop stab_none stab_some stabM_nil stabM_cons stabO_ld stabO_ldn stabO_slP stabO_b2s fldOf_ai fldOf_agg fldOf_ait fldOf_aggt intsOf_nil intsOf_cons strsOf_nil strsOf_cons c_omap ob_if lk_nil lk_cons ev_t ev_k z_mov z_pick z_bin z_binB z_binP z_un z_conv z_s2b z_b2s z_alloc z_bld z_bldI z_rowI z_rowS z_ld z_ldn z_st z_stn asN_ptr asN_fn z_nilck z_fld z_fadr z_idxA z_idxP z_idxS z_idxV z_slS z_slL z_slP z_mk z_lenS z_lenL z_app appC_ints appC_pl appC_sv appC_strs isS_strs loose_ints loose_pl loose_sv z_slM z_callv callvK_fn callvK_f callvK_yl vc_rangeF rfEnd_eq rfGo_none rfGo_ret rfGo_exit yGo_mk yEnd_n yEnd_r yEnd_e yRdy_mk yMid_n putPs_nil putPs_cons leaf_v leaf_ptr leaf_sl leaf_yl leaf_mp z_appS z_appZ z_cpyS z_mkfn reps_int reps_str z_rowV z_slnil nilK_zero z_cpy z_call asT_tup z_extT z_box boxOf_ai boxOf_agg boxOf_int boxOf_str boxOf_bool boxOf_ptr boxOf_sl sbin_int sbin_str sbinB_mk sbinP_nn sbinP_pn sbinP_np i_add i_sub i_mul i_quo i_rem i_and i_or i_xor i_andNot i_shl i_shr i_eql i_neq i_lss i_leq i_gtr i_geq st_add st_eql st_neq st_lss st_leq st_gtr st_geq bo_eql bo_neq pt_eql pt_neq un_neg un_xor un_not asI_mk asB_mk asS_mk asP_mk asSl_mk asBy_mk bnd_none bnd_some get_mk hput_mk hdel_mk kill_eq wrOf_eq rowOf_eq rsvs_0 rsvs_1 rsvs_2 rsvs_3 rsv_t rsv_c1 rsv_cn nt_v nt_ptr nt_sl nt_agg nt_ai get_ints get_strs get_pl get_sv getN_ints getN_sv set_ints set_strs set_sv setN_ints setN_sv part_ints part_strs part_sv cat_ints cat_strs cat_sv over_ints ones_ints ones_strs evs_nil evs_cons condK_eqt condK_eqf det_callP V_ns V_nn V_gs V_gn obC_mk fresh_ev setN_plagg setN_intsv setN_svai setN_svagg over_intsv set_pl setN_pl setN_plai getN_pl getN_strs part_pl cat_pl over_pl over_plints z_mm
attribute [local go_sem] initTm ne_eq not_true_eq_false not_false_eq_true true_and and_true List.length_cons List.length_nil Int.toNat_natCast Nat.add_zero Nat.zero_add Nat.mul_one List.getElem?_cons_zero List.drop_zero List.take_length List.take_succ_cons List.take_zero List.take_nil List.drop_succ_cons Option.map_some Nat.le_refl implies_true List.getElem?_cons_succ decide_true decide_false Bool.not_true Bool.not_false beq_self_eq_true Nat.succ_ne_self Nat.one_ne_zero Nat.zero_ne_one vk_mk hk_mk nk_mk tok_eq plsOf_map intsOf_map bodyOf_pl bodyOf_ints bodyOf_strs bodyOf_sv part_aggv part_agg part_ai part_int part_str part_bool part_sl part_ptr part_nil numsOf_map u_int u_str u_bool u_pnil u_sl u_ptr u_oci u_ocs evq_nil evq_cons fillS_nil fillS_cons u_ocb ones_pl cells_sv cells_ints cells_strs cells_pl smms_nil smms_cons smm_min smm_max plsOf_nil List.nil_append List.all_cons List.all_nil Bool.and_self Bool.true_and Bool.and_true zws_len zw_len zi_len List.set_cons_zero List.set_cons_succ List.flatMap_cons List.flatMap_nil List.append_nil
open Go.Proofs
variable {H : Hp} {n : Nat} {x : Nat → Option SO}

theorem s8 : SpecAt Try.prog 8 [] H n (.v (.bool true)) H n := spec_of_ctr (ok1.tab.f 8) rfl
theorem s9 {i o m : Nat} {ss : List ByteArray} (hr : rowAt H i (.strs []) = some (.strs ss)) (hom : o + m ≤ ss.length) (hb : m ≤ 1099511627776) (hl : (catb ((ss.drop o).take m)).length ≤ 1073741824) :
    SpecAt Try.prog 9 [.sl i o m 1] H n (.v (.string (sha (catb ((ss.drop o).take m))))) H n := by
  refine spec_of_ctr (ok1.tab.f 9) ?_
  show f9 i o m H n = _
  unfold f9; rw [hr]; simp only [Option.bind_some, strsB_mk, if_pos (And.intro hom (And.intro hb hl))]
theorem sha_size (ys : List Int) : (sha ys).size = 32 := by
  unfold sha; rw [tx_sz, outb_len, Hs_len]
theorem catb_one (s : ByteArray) : catb [s] = bts s := by simp [catb]
theorem w7 {s : ByteArray} (hs : s.size ≤ 1073741824) : fnVC C1v m7 [.v (.string s)] ⟨[], x⟩ 1 fun v H' n' => Sub 1 ⟨[(0, .v (.bool true))], ⟨[], x⟩, 1⟩ ⟨[(0, v)], H', n'⟩ := by
  unfold m7
  simp -implicitDefEqProofs only [↓fnVC, initTm]
  simp -implicitDefEqProofs only [go_sem, ↓reduceIte, Nat.reduceEqDiff, Nat.reduceAdd, Nat.reduceMul, Nat.reduceLT, Nat.reduceLeDiff, Nat.reduceSub, Int.reduceToNat, Int.reduceLE, Int.reduceLT, reduceCtorEq, Int.reduceEq, Int.reduceGT, Int.reduceGE, Int.reduceNeg]
  refine at_call t8 s8 ?_
  simp -implicitDefEqProofs only [go_sem, ↓reduceIte, Nat.reduceEqDiff, Nat.reduceAdd, Nat.reduceMul, Nat.reduceLT, Nat.reduceLeDiff, Nat.reduceSub, Int.reduceToNat, Int.reduceLE, Int.reduceLT, reduceCtorEq, Int.reduceEq, Int.reduceGT, Int.reduceGE, Int.reduceNeg]
  refine at_call t19 adN ?_
  simp -implicitDefEqProofs only [go_sem, ↓reduceIte, Nat.reduceEqDiff, Nat.reduceAdd, Nat.reduceMul, Nat.reduceLT, Nat.reduceLeDiff, Nat.reduceSub, Int.reduceToNat, Int.reduceLE, Int.reduceLT, reduceCtorEq, Int.reduceEq, Int.reduceGT, Int.reduceGE, Int.reduceNeg]
  refine at_call t22 lnN ?_
  simp -implicitDefEqProofs only [go_sem, ↓reduceIte, Nat.reduceEqDiff, Nat.reduceAdd, Nat.reduceMul, Nat.reduceLT, Nat.reduceLeDiff, Nat.reduceSub, Int.reduceToNat, Int.reduceLE, Int.reduceLT, reduceCtorEq, Int.reduceEq, Int.reduceGT, Int.reduceGE, Int.reduceNeg]
  refine at_call t21 smN ?_
  simp -implicitDefEqProofs only [go_sem, ↓reduceIte, Nat.reduceEqDiff, Nat.reduceAdd, Nat.reduceMul, Nat.reduceLT, Nat.reduceLeDiff, Nat.reduceSub, Int.reduceToNat, Int.reduceLE, Int.reduceLT, reduceCtorEq, Int.reduceEq, Int.reduceGT, Int.reduceGE, Int.reduceNeg]
  refine at_call t9 (s9 (ss := []) rfl (by decide) (by decide) (by decide)) ?_
  have h0 : seq (sha []) (sha (catb [])) = true := seq_self _
  simp -implicitDefEqProofs only [go_sem, ↓reduceIte, Nat.reduceEqDiff, Nat.reduceAdd, Nat.reduceMul, Nat.reduceLT, Nat.reduceLeDiff, Nat.reduceSub, Int.reduceToNat, Int.reduceLE, Int.reduceLT, reduceCtorEq, Int.reduceEq, Int.reduceGT, Int.reduceGE, Int.reduceNeg, h0]
  refine at_call t20 cpN ?_
  simp -implicitDefEqProofs only [go_sem, ↓reduceIte, Nat.reduceEqDiff, Nat.reduceAdd, Nat.reduceMul, Nat.reduceLT, Nat.reduceLeDiff, Nat.reduceSub, Int.reduceToNat, Int.reduceLE, Int.reduceLT, reduceCtorEq, Int.reduceEq, Int.reduceGT, Int.reduceGE, Int.reduceNeg]
  refine at_call t9 (s9 (ss := [s]) (o := 0) (m := 1) rfl (by show 0 + 1 ≤ 1; decide) (by decide) (by show (catb [s]).length ≤ _; rw [catb_one, bts_len]; exact hs)) ?_
  have h1 : ∀ ys, decide (((sha ys).size : Int) = 32) = true := fun ys => by rw [sha_size]; rfl
  simp -implicitDefEqProofs only [go_sem, ↓reduceIte, Nat.reduceEqDiff, Nat.reduceAdd, Nat.reduceMul, Nat.reduceLT, Nat.reduceLeDiff, Nat.reduceSub, Int.reduceToNat, Int.reduceLE, Int.reduceLT, reduceCtorEq, Int.reduceEq, Int.reduceGT, Int.reduceGE, Int.reduceNeg, h1]
  exact sub_val rfl (by decide) (by decide) rfl
theorem sh7 {s : ByteArray} (hs : s.size ≤ 1073741824) : SpecAt Try.prog 7 [.v (.string s)] H n (.v (.bool true)) H n := lift_pure (ok1v.spec t7 (w7 (x := H.x) hs)) rfl
/-! ### Pieces -/
/-- A part of a text: from a to b. -/
theorem bts_ext (s : ByteArray) (a b : Nat) : bts (s.extract a b) = ((bts s).drop a).take (b - a) := by
  simp [bts, ByteArray.data_extract, List.extract_eq_take_drop, List.map_take, List.map_drop]
theorem ext_size {s : ByteArray} {a b : Nat} (h : a ≤ b) (hb : b ≤ s.size) : (s.extract a b).size = b - a := by
  rw [ByteArray.size_extract]; omega
/-- At a place in the text: what was handed in, and the parts. -/
structure PcOK (text : ByteArray) (at_ : Nat) (parts : List ByteArray) : Prop where
  le : at_ ≤ text.size
  cat : catb parts = (bts text).take at_
def pcI (text : ByteArray) (cs : List Int) (o m : Nat) (x : Nat → Option SO) (p : Nat × Nat × List ByteArray) : St :=
  ⟨[(0, .v (.string text)), (5, .ptr 2 0), (6, .v (.int .i64 p.2.1)), (7, .ptr 4 0), (8, .sl 6 0 p.2.2.length 1), (20, .sl 1 o m 1), (21, .v (.int .i64 m)), (22, .v (.int .i64 p.1))],
   ⟨[(1, some ⟨false, .ints .u16 cs⟩), (2, some ⟨true, dgB (decide (0 < p.1)) ((bts text).take p.2.1) 3⟩), (3, some ⟨true, .ints .u8 (dgR ((bts text).take p.2.1))⟩), (4, some ⟨true, dgB (decide (0 < p.1)) ((bts text).take p.2.1) 5⟩), (5, some ⟨true, .ints .u8 (dgR ((bts text).take p.2.1))⟩), (6, some ⟨true, .strs p.2.2⟩)], x⟩, 7⟩
theorem w6 {text : ByteArray} {cs : List Int} {o m : Nat} (hs : text.size ≤ 1073741820) (hm : m ≤ 1099511627776) (hom : o + m ≤ cs.length) (hc : ∀ c ∈ cs, 0 ≤ c ∧ c ≤ 65535) :
    fnVC C1v m6 [.v (.string text), .sl 1 o m 1] ⟨[(1, some ⟨false, .ints .u16 cs⟩)], x⟩ 2 fun v H' n' => Sub 2 ⟨[(0, .v (.bool true))], ⟨[], x⟩, 2⟩ ⟨[(0, v)], H', n'⟩ := by
  unfold m6
  simp -implicitDefEqProofs only [↓fnVC, initTm]
  simp -implicitDefEqProofs only [go_sem, ↓reduceIte, Nat.reduceEqDiff, Nat.reduceAdd, Nat.reduceMul, Nat.reduceLT, Nat.reduceLeDiff, Nat.reduceSub, Int.reduceToNat, Int.reduceLE, Int.reduceLT, reduceCtorEq, Int.reduceEq, Int.reduceGT, Int.reduceGE, Int.reduceNeg]
  refine at_call t8 s8 ?_
  simp -implicitDefEqProofs only [go_sem, ↓reduceIte, Nat.reduceEqDiff, Nat.reduceAdd, Nat.reduceMul, Nat.reduceLT, Nat.reduceLeDiff, Nat.reduceSub, Int.reduceToNat, Int.reduceLE, Int.reduceLT, reduceCtorEq, Int.reduceEq, Int.reduceGT, Int.reduceGE, Int.reduceNeg]
  refine at_call t18 (nwDg (by decide)) ?_
  simp -implicitDefEqProofs only [go_sem, ↓reduceIte, Nat.reduceEqDiff, Nat.reduceAdd, Nat.reduceMul, Nat.reduceLT, Nat.reduceLeDiff, Nat.reduceSub, Int.reduceToNat, Int.reduceLE, Int.reduceLT, reduceCtorEq, Int.reduceEq, Int.reduceGT, Int.reduceGE, Int.reduceNeg]
  have hM : min (m : Int) 20 = ((min m 20 : Nat) : Int) := by omega
  refine ⟨⟨by omega, by omega⟩, ?_⟩
  refine loop_fam (fun (p : Nat × Nat × List ByteArray) => p.1 ≤ min m 20 ∧ PcOK text p.2.1 p.2.2 ∧ p.2.2.length = p.1 ∧ (p.1 = 0 → p.2.1 = 0)) (pcI text cs o (min m 20) x) (fun p => min m 20 - p.1) (0, 0, []) ⟨Nat.zero_le _, ⟨Nat.zero_le _, rfl⟩, rfl, fun _ => rfl⟩ ?_ ?_
  · unfold pcI
    refine sub_mk [(5, 0), (6, 0)] rfl rfl rfl ?_
    simp only [tmSub, hpSub, objSub, eqTm, eqHp, rn, lk, SV.ren, SV.renC, SV.renB, SV.renA, ren_ints, ren_strs, ren_pl, ren_svs, SV.v.injEq, Value.int.injEq, Body.ints.injEq, SV.ptr.injEq, SV.sl.injEq, Value.string.injEq, Value.bool.injEq, List.map_cons, List.map_nil, forall_const, Nat.reduceLT, Nat.lt_add_one, imp_self, true_and, and_true, and_self, ob_some, get_mk, lk_cons, ↓reduceIte, Nat.reduceEqDiff, ne_eq, not_true_eq_false, not_false_eq_true, Nat.one_ne_zero, Nat.zero_ne_one, Nat.succ_ne_self, Nat.reduceAdd, Bool.false_eq_true, false_implies, implies_true, reduceCtorEq, hM, Int.toNat_natCast, Nat.sub_zero]
    exact ⟨⟨by simp, by simp, by simp⟩, rfl, by simp [dgR], by simp [dgB, dgC, dgW, dgR, Body.ren, SV.renB, SV.renA, rn, lk], by simp [dgR, Body.cells], rfl⟩
  · rintro ⟨i, at_, parts⟩ ⟨hi, ⟨hle, hcat⟩, hpl, h00⟩
    simp only at hi hle hcat hpl h00
    have hbs : ((bts text).take at_).length = at_ := by rw [List.length_take, bts_len]; omega
    unfold pcI
    simp -implicitDefEqProofs only [go_sem, ↓reduceIte, Nat.reduceEqDiff, Nat.reduceAdd, Nat.reduceMul, Nat.reduceLT, Nat.reduceLeDiff, Nat.reduceSub, Int.reduceToNat, Int.reduceLE, Int.reduceLT, reduceCtorEq, Int.reduceEq, Int.reduceGT, Int.reduceGE, Int.reduceNeg]
    refine condK_bb (fun c1 => ?_) (fun c1 => ?_)
    · simp only [decide_eq_true_eq] at c1
      have hii : i < min m 20 := by omega
      have hcm : cs.getD (o + i) 0 ∈ cs := by
        rw [List.getD_eq_getElem?_getD, List.getElem?_eq_getElem (by omega)]; exact List.getElem_mem _
      obtain ⟨c0, c65⟩ := hc _ hcm
      obtain ⟨c, hcd⟩ : ∃ c, cs.getD (o + i) 0 = c := ⟨_, rfl⟩
      rw [hcd] at c0 c65
      obtain ⟨k, hk⟩ : ∃ k : Nat, c % ((text.size - at_ + 1 : Nat) : Int) = (k : Int) := ⟨(c % ((text.size - at_ + 1 : Nat) : Int)).toNat, by have := Int.emod_nonneg c (b := ((text.size - at_ + 1 : Nat) : Int)) (by omega); omega⟩
      have hkl : k ≤ text.size - at_ := by
        have := Int.emod_lt_of_pos c (b := ((text.size - at_ + 1 : Nat) : Int)) (by omega)
        omega
      have e1 : IntKind.i64.wrap c = c := wrap_i64 (by omega) (by omega)
      have e2 : IntKind.i64.wrap (IntKind.i64.wrap ((text.size : Int) - (at_ : Int)) + 1) = ((text.size - at_ + 1 : Nat) : Int) := by
        rw [wrap_i64 (n := (text.size : Int) - (at_ : Int)) (by omega) (by omega), wrap_i64 (by omega) (by omega)]; omega
      have e3 : c.tmod ((text.size - at_ + 1 : Nat) : Int) = (k : Int) := by rw [Int.tmod_eq_emod_of_nonneg c0, hk]
      have e4 : IntKind.i64.wrap ((at_ : Int) + (k : Int)) = ((at_ + k : Nat) : Int) := by rw [wrap_i64 (by omega) (by omega)]; omega
      have hps : (bts (text.extract at_ (at_ + k))) = ((bts text).drop at_).take k := by rw [bts_ext, Nat.add_sub_cancel_left]
      have hpz : (text.extract at_ (at_ + k)).size = k := by rw [ext_size (by omega) (by omega)]; omega
      have hnx : (bts text).take at_ ++ bts (text.extract at_ (at_ + k)) = (bts text).take (at_ + k) := by rw [hps, List.take_add]
      have hbg : decide (0 < i) = false → (bts text).take at_ = [] := fun h => by
        have : i = 0 := by simpa using h
        rw [h00 this]; rfl
      simp -implicitDefEqProofs only [go_sem, ↓reduceIte, Nat.reduceEqDiff, Nat.reduceAdd, Nat.reduceMul, Nat.reduceLT, Nat.reduceLeDiff, Nat.reduceSub, Int.reduceToNat, Int.reduceLE, Int.reduceLT, reduceCtorEq, Int.reduceEq, Int.reduceGT, Int.reduceGE, Int.reduceNeg, c1, hcd, e1, e2, e3, e4]
      refine ⟨by omega, by omega, by omega, ⟨by omega, by omega, by omega⟩, ?_⟩
      refine at_call t19 (adS (bg := decide (0 < i)) (bs := (bts text).take at_) (i := 2) (r := 3) (by rfl) (by rfl) (by decide) hbg (by rw [hbs, hpz]; omega) (by decide)) ?_
      rw [hnx]
      simp -implicitDefEqProofs only [go_sem, ↓reduceIte, Nat.reduceEqDiff, Nat.reduceAdd, Nat.reduceMul, Nat.reduceLT, Nat.reduceLeDiff, Nat.reduceSub, Int.reduceToNat, Int.reduceLE, Int.reduceLT, reduceCtorEq, Int.reduceEq, Int.reduceGT, Int.reduceGE, Int.reduceNeg, e4]
      refine ⟨⟨by omega, by omega, by omega⟩, ?_⟩
      refine at_call t19 (adS (bg := decide (0 < i)) (bs := (bts text).take at_) (i := 4) (r := 5) (by rfl) (by rfl) (by decide) hbg (by rw [hbs, hpz]; omega) (by decide)) ?_
      rw [hnx]
      simp -implicitDefEqProofs only [go_sem, ↓reduceIte, Nat.reduceEqDiff, Nat.reduceAdd, Nat.reduceMul, Nat.reduceLT, Nat.reduceLeDiff, Nat.reduceSub, Int.reduceToNat, Int.reduceLE, Int.reduceLT, reduceCtorEq, Int.reduceEq, Int.reduceGT, Int.reduceGE, Int.reduceNeg, e4]
      refine ⟨⟨by omega, by omega, by omega⟩, by omega, by omega, app_kill ?_⟩
      have et : List.take parts.length (List.drop 0 parts) = parts := List.take_length
      simp -implicitDefEqProofs only [go_sem, ↓reduceIte, Nat.reduceEqDiff, Nat.reduceAdd, Nat.reduceMul, Nat.reduceLT, Nat.reduceLeDiff, Nat.reduceSub, Int.reduceToNat, Int.reduceLE, Int.reduceLT, reduceCtorEq, Int.reduceEq, Int.reduceGT, Int.reduceGE, Int.reduceNeg, e4, et]
      refine at_call t20 (cpDg (bg := true) (bs := (bts text).take (at_ + k)) (i := 2) (r := 7) (by exact ⟨⟨_, rfl⟩, ⟨_, rfl⟩, by decide, fun h => by cases h⟩) (by rw [List.length_take, bts_len]; omega) (by decide)) ?_
      simp -implicitDefEqProofs only [go_sem, ↓reduceIte, Nat.reduceEqDiff, Nat.reduceAdd, Nat.reduceMul, Nat.reduceLT, Nat.reduceLeDiff, Nat.reduceSub, Int.reduceToNat, Int.reduceLE, Int.reduceLT, reduceCtorEq, Int.reduceEq, Int.reduceGT, Int.reduceGE, Int.reduceNeg]
      have hpre : bts (text.extract 0 (at_ + k)) = (bts text).take (at_ + k) := by rw [bts_ext]; rfl
      have hpl2 : ((bts text).take (at_ + k)).length = at_ + k := by rw [List.length_take, bts_len]; omega
      have g1 : sha (catb [text.extract 0 (at_ + k)]) = sha ((bts text).take (at_ + k)) := by rw [catb_one, hpre]
      have g2 : seq (sha ((bts text).take (at_ + k))) (sha ((bts text).take (at_ + k))) = true := seq_self _
      have g3 : decide ((((bts text).take (at_ + k)).length : Int) = ((at_ + k : Nat) : Int)) = true := decide_eq_true (by rw [hpl2])
      refine ⟨⟨by omega, by omega⟩, ?_⟩
      constructor <;> (
        refine at_call t21 (smDg (bg := true) (bs := (bts text).take (at_ + k)) (i := 2) (r := 7) (by exact ⟨⟨_, rfl⟩, ⟨_, rfl⟩, by decide, fun h => by cases h⟩) (by rw [hpl2]; omega)) ?_
        simp -implicitDefEqProofs only [go_sem, ↓reduceIte, Nat.reduceEqDiff, Nat.reduceAdd, Nat.reduceMul, Nat.reduceLT, Nat.reduceLeDiff, Nat.reduceSub, Int.reduceToNat, Int.reduceLE, Int.reduceLT, reduceCtorEq, Int.reduceEq, Int.reduceGT, Int.reduceGE, Int.reduceNeg]
        refine at_call t9 (s9 (ss := [text.extract 0 (at_ + k)]) (o := 0) (m := 1) rfl (by show 0 + 1 ≤ 1; decide) (by decide) (by show (catb [text.extract 0 (at_ + k)]).length ≤ _; rw [catb_one, hpre, hpl2]; omega)) ?_
        simp -implicitDefEqProofs only [go_sem, ↓reduceIte, Nat.reduceEqDiff, Nat.reduceAdd, Nat.reduceMul, Nat.reduceLT, Nat.reduceLeDiff, Nat.reduceSub, Int.reduceToNat, Int.reduceLE, Int.reduceLT, reduceCtorEq, Int.reduceEq, Int.reduceGT, Int.reduceGE, Int.reduceNeg, g1, g2]
        refine at_call t22 (lnDg (bg := true) (bs := (bts text).take (at_ + k)) (i := 2) (r := 7) (by exact ⟨⟨_, rfl⟩, ⟨_, rfl⟩, by decide, fun h => by cases h⟩)) ?_
        simp -implicitDefEqProofs only [go_sem, ↓reduceIte, Nat.reduceEqDiff, Nat.reduceAdd, Nat.reduceMul, Nat.reduceLT, Nat.reduceLeDiff, Nat.reduceSub, Int.reduceToNat, Int.reduceLE, Int.reduceLT, reduceCtorEq, Int.reduceEq, Int.reduceGT, Int.reduceGE, Int.reduceNeg, g3]
        refine at_call t19 (adS (bg := true) (bs := (bts text).take (at_ + k)) (i := 11) (r := 12) (by rfl) (by rfl) (by decide) (fun h => by cases h) (by rw [hpl2]; show at_ + k + 4 ≤ _; omega) (by decide)) ?_
        simp -implicitDefEqProofs only [go_sem, ↓reduceIte, Nat.reduceEqDiff, Nat.reduceAdd, Nat.reduceMul, Nat.reduceLT, Nat.reduceLeDiff, Nat.reduceSub, Int.reduceToNat, Int.reduceLE, Int.reduceLT, reduceCtorEq, Int.reduceEq, Int.reduceGT, Int.reduceGE, Int.reduceNeg]
        refine ⟨⟨by omega, by omega⟩, ?_⟩
        have hq : ((bts text).take (at_ + k) ++ bts ⟨#[109, 111, 114, 101]⟩).length = at_ + k + 4 := by rw [List.length_append, hpl2]; rfl
        have hm2 : catb [text.extract 0 (at_ + k), ⟨#[109, 111, 114, 101]⟩] = (bts text).take (at_ + k) ++ bts ⟨#[109, 111, 114, 101]⟩ := by
          simp only [catb, List.flatMap_cons, List.flatMap_nil, List.append_nil]; rw [hpre]
        have g4 : sha (catb [text.extract 0 (at_ + k), ⟨#[109, 111, 114, 101]⟩]) = sha ((bts text).take (at_ + k) ++ bts ⟨#[109, 111, 114, 101]⟩) := by rw [hm2]
        have g5 : seq (sha ((bts text).take (at_ + k) ++ bts ⟨#[109, 111, 114, 101]⟩)) (sha ((bts text).take (at_ + k) ++ bts ⟨#[109, 111, 114, 101]⟩)) = true := seq_self _
        have g6 : decide (((((bts text).take (at_ + k) ++ bts ⟨#[109, 111, 114, 101]⟩).length : Nat) : Int) = IntKind.i64.wrap (((at_ + k : Nat) : Int) + 4)) = true := decide_eq_true (by rw [hq, wrap_i64 (by omega) (by omega)]; omega)
        constructor <;> (
          refine at_call t21 (smDg (bg := true) (bs := (bts text).take (at_ + k) ++ bts ⟨#[109, 111, 114, 101]⟩) (i := 11) (r := 14) (by exact ⟨⟨_, rfl⟩, ⟨_, rfl⟩, by decide, fun h => by cases h⟩) (by rw [hq]; omega)) ?_
          simp -implicitDefEqProofs only [go_sem, ↓reduceIte, Nat.reduceEqDiff, Nat.reduceAdd, Nat.reduceMul, Nat.reduceLT, Nat.reduceLeDiff, Nat.reduceSub, Int.reduceToNat, Int.reduceLE, Int.reduceLT, reduceCtorEq, Int.reduceEq, Int.reduceGT, Int.reduceGE, Int.reduceNeg]
          refine at_call t9 (s9 (ss := [text.extract 0 (at_ + k), ⟨#[109, 111, 114, 101]⟩]) (o := 0) (m := 2) rfl (by show 0 + 2 ≤ 2; decide) (by decide) (by show (catb [text.extract 0 (at_ + k), ⟨#[109, 111, 114, 101]⟩]).length ≤ _; rw [hm2, hq]; omega)) ?_
          simp -implicitDefEqProofs only [go_sem, ↓reduceIte, Nat.reduceEqDiff, Nat.reduceAdd, Nat.reduceMul, Nat.reduceLT, Nat.reduceLeDiff, Nat.reduceSub, Int.reduceToNat, Int.reduceLE, Int.reduceLT, reduceCtorEq, Int.reduceEq, Int.reduceGT, Int.reduceGE, Int.reduceNeg, g4, g5]
          refine at_call t22 (lnDg (bg := true) (bs := (bts text).take (at_ + k) ++ bts ⟨#[109, 111, 114, 101]⟩) (i := 11) (r := 14) (by exact ⟨⟨_, rfl⟩, ⟨_, rfl⟩, by decide, fun h => by cases h⟩)) ?_
          simp -implicitDefEqProofs only [go_sem, ↓reduceIte, Nat.reduceEqDiff, Nat.reduceAdd, Nat.reduceMul, Nat.reduceLT, Nat.reduceLeDiff, Nat.reduceSub, Int.reduceToNat, Int.reduceLE, Int.reduceLT, reduceCtorEq, Int.reduceEq, Int.reduceGT, Int.reduceGE, Int.reduceNeg, g6]
          have hw1 : IntKind.i64.wrap ((i : Int) + 1) = ((i + 1 : Nat) : Int) := by rw [wrap_i64 (by omega) (by omega)]; omega
          simp -implicitDefEqProofs only [go_sem, ↓reduceIte, Nat.reduceEqDiff, Nat.reduceAdd, Nat.reduceMul, Nat.reduceLT, Nat.reduceLeDiff, Nat.reduceSub, Int.reduceToNat, Int.reduceLE, Int.reduceLT, reduceCtorEq, Int.reduceEq, Int.reduceGT, Int.reduceGE, Int.reduceNeg, hw1]
          refine kLoop_mk (i + 1, at_ + k, parts ++ [text.extract at_ (at_ + k)]) ⟨by simp only; omega, ⟨by simp only; omega, ?_⟩, by simp [hpl], fun h => by simp at h⟩ (by simp only; omega) ?_
          · show catb (parts ++ [_]) = _
            rw [catb_app, hcat, catb_one, hnx]
          · refine sub_mk [(3, 7), (5, 8), (6, 10)] rfl rfl rfl ?_
            simp only [tmSub, hpSub, objSub, eqTm, eqHp, rn, lk, SV.ren, SV.renC, SV.renB, SV.renA, ren_ints, ren_strs, ren_pl, ren_svs, SV.v.injEq, Value.int.injEq, Body.ints.injEq, SV.ptr.injEq, SV.sl.injEq, Value.string.injEq, Value.bool.injEq, List.map_cons, List.map_nil, forall_const, Nat.reduceLT, Nat.lt_add_one, imp_self, true_and, and_true, and_self, ob_some, get_mk, lk_cons, ↓reduceIte, Nat.reduceEqDiff, ne_eq, not_true_eq_false, not_false_eq_true, Nat.one_ne_zero, Nat.zero_ne_one, Nat.succ_ne_self, Nat.reduceAdd, Bool.false_eq_true, false_implies, implies_true, reduceCtorEq]
            have hd1 : decide (0 < i + 1) = true := decide_eq_true (by omega)
            exact ⟨⟨by simp, hw1⟩, by rw [hd1]; rfl, by rw [hd1]; rfl⟩))
    · have hbg : decide (0 < i) = false → (bts text).take at_ = [] := fun h => by
        have : i = 0 := by simpa using h
        rw [h00 this]; rfl
      have hps : bts (text.extract at_ text.size) = (bts text).drop at_ := by
        rw [bts_ext]; exact List.take_of_length_le (by rw [List.length_drop, bts_len]; exact Nat.le_refl _)
      have hpz : (text.extract at_ text.size).size = text.size - at_ := ext_size (by omega) (by omega)
      have hnx : (bts text).take at_ ++ bts (text.extract at_ text.size) = bts text := by rw [hps, List.take_append_drop]
      have hcl : catb (parts ++ [text.extract at_ text.size]) = bts text := by rw [catb_app, hcat, catb_one, hnx]
      simp -implicitDefEqProofs only [go_sem, ↓reduceIte, Nat.reduceEqDiff, Nat.reduceAdd, Nat.reduceMul, Nat.reduceLT, Nat.reduceLeDiff, Nat.reduceSub, Int.reduceToNat, Int.reduceLE, Int.reduceLT, reduceCtorEq, Int.reduceEq, Int.reduceGT, Int.reduceGE, Int.reduceNeg, c1]
      refine ⟨⟨by omega, by omega⟩, ?_⟩
      refine at_call t19 (adS (bg := decide (0 < i)) (bs := (bts text).take at_) (i := 2) (r := 3) (by rfl) (by rfl) (by decide) hbg (by rw [hbs, hpz]; omega) (by decide)) ?_
      rw [hnx]
      simp -implicitDefEqProofs only [go_sem, ↓reduceIte, Nat.reduceEqDiff, Nat.reduceAdd, Nat.reduceMul, Nat.reduceLT, Nat.reduceLeDiff, Nat.reduceSub, Int.reduceToNat, Int.reduceLE, Int.reduceLT, reduceCtorEq, Int.reduceEq, Int.reduceGT, Int.reduceGE, Int.reduceNeg]
      refine ⟨⟨by omega, by omega⟩, ?_⟩
      refine at_call t19 (adS (bg := decide (0 < i)) (bs := (bts text).take at_) (i := 4) (r := 5) (by rfl) (by rfl) (by decide) hbg (by rw [hbs, hpz]; omega) (by decide)) ?_
      rw [hnx]
      simp -implicitDefEqProofs only [go_sem, ↓reduceIte, Nat.reduceEqDiff, Nat.reduceAdd, Nat.reduceMul, Nat.reduceLT, Nat.reduceLeDiff, Nat.reduceSub, Int.reduceToNat, Int.reduceLE, Int.reduceLT, reduceCtorEq, Int.reduceEq, Int.reduceGT, Int.reduceGE, Int.reduceNeg]
      refine ⟨⟨by omega, by omega⟩, by omega, by omega, app_kill ?_⟩
      have et : List.take parts.length (List.drop 0 parts) = parts := List.take_length
      simp -implicitDefEqProofs only [go_sem, ↓reduceIte, Nat.reduceEqDiff, Nat.reduceAdd, Nat.reduceMul, Nat.reduceLT, Nat.reduceLeDiff, Nat.reduceSub, Int.reduceToNat, Int.reduceLE, Int.reduceLT, reduceCtorEq, Int.reduceEq, Int.reduceGT, Int.reduceGE, Int.reduceNeg, et]
      refine at_call t21 (smDg (bg := true) (bs := bts text) (i := 2) (r := 7) (by exact ⟨⟨_, rfl⟩, ⟨_, rfl⟩, by decide, fun h => by cases h⟩) (by rw [bts_len]; omega)) ?_
      simp -implicitDefEqProofs only [go_sem, ↓reduceIte, Nat.reduceEqDiff, Nat.reduceAdd, Nat.reduceMul, Nat.reduceLT, Nat.reduceLeDiff, Nat.reduceSub, Int.reduceToNat, Int.reduceLE, Int.reduceLT, reduceCtorEq, Int.reduceEq, Int.reduceGT, Int.reduceGE, Int.reduceNeg]
      refine at_call t9 (s9 (ss := [text]) (o := 0) (m := 1) rfl (by show 0 + 1 ≤ 1; decide) (by decide) (by show (catb [text]).length ≤ _; rw [catb_one, bts_len]; omega)) ?_
      have g1 : sha (catb [text]) = sha (bts text) := by rw [catb_one]
      have g2 : seq (sha (bts text)) (sha (bts text)) = true := seq_self _
      simp -implicitDefEqProofs only [go_sem, ↓reduceIte, Nat.reduceEqDiff, Nat.reduceAdd, Nat.reduceMul, Nat.reduceLT, Nat.reduceLeDiff, Nat.reduceSub, Int.reduceToNat, Int.reduceLE, Int.reduceLT, reduceCtorEq, Int.reduceEq, Int.reduceGT, Int.reduceGE, Int.reduceNeg, g1, g2]
      refine at_call t21 (smDg (bg := true) (bs := bts text) (i := 2) (r := 7) (by exact ⟨⟨_, rfl⟩, ⟨_, rfl⟩, by decide, fun h => by cases h⟩) (by rw [bts_len]; omega)) ?_
      simp -implicitDefEqProofs only [go_sem, ↓reduceIte, Nat.reduceEqDiff, Nat.reduceAdd, Nat.reduceMul, Nat.reduceLT, Nat.reduceLeDiff, Nat.reduceSub, Int.reduceToNat, Int.reduceLE, Int.reduceLT, reduceCtorEq, Int.reduceEq, Int.reduceGT, Int.reduceGE, Int.reduceNeg]
      have et2 : List.take (parts.length + 1) (List.drop 0 (parts ++ [text.extract at_ text.size])) = parts ++ [text.extract at_ text.size] := List.take_of_length_le (by simp)
      refine at_call t9 (s9 (ss := parts ++ [text.extract at_ text.size]) (o := 0) (m := parts.length + 1) rfl (by simp) (by omega) (by rw [et2, hcl, bts_len]; omega)) ?_
      have g3 : sha (catb (parts ++ [text.extract at_ text.size])) = sha (bts text) := by rw [hcl]
      have et3 : List.take (parts.length + 1) (parts ++ [text.extract at_ text.size]) = parts ++ [text.extract at_ text.size] := List.take_of_length_le (by simp)
      simp -implicitDefEqProofs only [go_sem, ↓reduceIte, Nat.reduceEqDiff, Nat.reduceAdd, Nat.reduceMul, Nat.reduceLT, Nat.reduceLeDiff, Nat.reduceSub, Int.reduceToNat, Int.reduceLE, Int.reduceLT, reduceCtorEq, Int.reduceEq, Int.reduceGT, Int.reduceGE, Int.reduceNeg, et2, et3, g3, g2]
      refine at_call t22 (lnDg (bg := true) (bs := bts text) (i := 2) (r := 7) (by exact ⟨⟨_, rfl⟩, ⟨_, rfl⟩, by decide, fun h => by cases h⟩)) ?_
      have g4 : decide (((bts text).length : Int) = (text.size : Int)) = true := decide_eq_true (by rw [bts_len])
      simp -implicitDefEqProofs only [go_sem, ↓reduceIte, Nat.reduceEqDiff, Nat.reduceAdd, Nat.reduceMul, Nat.reduceLT, Nat.reduceLeDiff, Nat.reduceSub, Int.reduceToNat, Int.reduceLE, Int.reduceLT, reduceCtorEq, Int.reduceEq, Int.reduceGT, Int.reduceGE, Int.reduceNeg, g4]
      refine at_call t21 (smDg (bg := true) (bs := bts text) (i := 4) (r := 8) (by exact ⟨⟨_, rfl⟩, ⟨_, rfl⟩, by decide, fun h => by cases h⟩) (by rw [bts_len]; omega)) ?_
      simp -implicitDefEqProofs only [go_sem, ↓reduceIte, Nat.reduceEqDiff, Nat.reduceAdd, Nat.reduceMul, Nat.reduceLT, Nat.reduceLeDiff, Nat.reduceSub, Int.reduceToNat, Int.reduceLE, Int.reduceLT, reduceCtorEq, Int.reduceEq, Int.reduceGT, Int.reduceGE, Int.reduceNeg]
      refine at_call t21 (smDg (bg := true) (bs := bts text) (i := 2) (r := 7) (by exact ⟨⟨_, rfl⟩, ⟨_, rfl⟩, by decide, fun h => by cases h⟩) (by rw [bts_len]; omega)) ?_
      simp -implicitDefEqProofs only [go_sem, ↓reduceIte, Nat.reduceEqDiff, Nat.reduceAdd, Nat.reduceMul, Nat.reduceLT, Nat.reduceLeDiff, Nat.reduceSub, Int.reduceToNat, Int.reduceLE, Int.reduceLT, reduceCtorEq, Int.reduceEq, Int.reduceGT, Int.reduceGE, Int.reduceNeg, g2]
      exact sub_val rfl (by decide) (by decide) rfl
end Go.Sx
