/- Layer 3: FlashFalls. -/
import Derived.Test.YtipnhjljhofabaaF3A
import Derived.Test.YtipnhjljhofabaaSxC
import Derived.Test.YtipnhjljhofabaaRows

set_option linter.unusedVariables false
set_option linter.unusedSimpArgs false
set_option maxRecDepth 100000
namespace Go.Sx
attribute [local go_sem ↓] bind_mk intsB_mk strsB_mk svB_mk fnVC ob_some vc_skip vc_exit vc_ret vc_seq vc_block kSeq_normal kSeq_exit kSeq_ret kBlock_normal kBlock_exit kBlock_ret vc_reg vc_regD vc_cond condK_true condK_false vc_loop kLoop_exit kLoop_ret kRoll_normal kRoll_exit kRoll_ret vcOps_nil vcOps_cons gd_bool gd_undef put_some put_none vcT_fin vcT_pure vcT_act vcT_acts vcT_stop stab_none stab_some stabM_nil stabM_cons stabO_ld stabO_ldn stabO_slP stabO_b2s fldOf_ai fldOf_agg fldOf_ait fldOf_aggt intsOf_nil intsOf_cons strsOf_nil strsOf_cons c_omap ob_if lk_nil lk_cons ev_t ev_k z_mov z_pick z_bin z_binB z_binP z_un z_conv z_s2b z_b2s z_alloc z_bld z_bldI z_rowI z_rowS z_ld z_ldn z_st z_stn asN_ptr asN_fn z_nilck z_fld z_fadr z_idxA z_idxP z_idxS z_idxV z_slS z_slL z_slP z_mk z_lenS z_lenL z_app z_appS z_appZ z_cpyS z_mkfn reps_int reps_str z_rowV z_slnil nilK_zero z_cpy z_call asT_tup z_extT z_box boxOf_ai boxOf_agg boxOf_int boxOf_str boxOf_bool boxOf_ptr boxOf_sl sbin_int sbin_str sbinB_mk sbinP_nn sbinP_pn sbinP_np i_add i_sub i_mul i_quo i_rem i_and i_or i_xor i_andNot i_shl i_shr i_eql i_neq i_lss i_leq i_gtr i_geq st_add st_eql st_neq st_lss st_leq st_gtr st_geq bo_eql bo_neq pt_eql pt_neq un_neg un_xor un_not asI_mk asB_mk asS_mk asP_mk asSl_mk asBy_mk bnd_none bnd_some get_mk hput_mk hdel_mk kill_eq wrOf_eq rowOf_eq rsvs_0 rsvs_1 rsvs_2 rsvs_3 rsv_t rsv_c1 rsv_cn nt_v nt_ptr nt_sl nt_agg nt_ai get_ints get_strs get_pl get_sv getN_ints getN_sv set_ints set_strs set_sv setN_ints setN_sv part_ints part_strs part_sv cat_ints cat_strs cat_sv over_ints ones_ints ones_strs evs_nil evs_cons condK_eqt condK_eqf det_callP V_ns V_nn V_gs V_gn obC_mk fresh_ev setN_plagg setN_intsv setN_svai setN_svagg over_intsv set_pl setN_pl setN_plai getN_pl getN_strs part_pl cat_pl over_pl over_plints z_mm
attribute [local go_sem] initTm ne_eq not_true_eq_false not_false_eq_true true_and and_true List.length_cons List.length_nil Int.toNat_natCast Nat.add_zero Nat.zero_add Nat.mul_one List.getElem?_cons_zero List.drop_zero List.take_length List.take_succ_cons List.take_zero List.take_nil List.drop_succ_cons Option.map_some Nat.le_refl implies_true List.getElem?_cons_succ decide_true decide_false Bool.not_true Bool.not_false beq_self_eq_true Nat.succ_ne_self Nat.one_ne_zero Nat.zero_ne_one vk_mk hk_mk nk_mk tok_eq plsOf_map intsOf_map bodyOf_pl bodyOf_ints bodyOf_strs bodyOf_sv part_aggv part_agg part_ai part_int part_str part_bool part_sl part_ptr part_nil numsOf_map u_int u_str u_bool u_pnil u_sl u_ptr u_oci u_ocs evq_nil evq_cons fillS_nil fillS_cons u_ocb ones_pl cells_sv cells_ints cells_strs cells_pl smms_nil smms_cons smm_min smm_max plsOf_nil List.nil_append List.all_cons List.all_nil Bool.and_self Bool.true_and Bool.and_true zws_len zw_len zi_len List.set_cons_zero List.set_cons_succ List.flatMap_cons List.flatMap_nil List.append_nil
open Go.Proofs
variable {H : Hp} {n : Nat} {x : Nat → Option SO} {d d' : Fd} {i a b c : Nat}

/-- Ahead of the i-th step, where the power goes at step k (0: never). -/
structure Fl (k i : Nat) (d : Fd) : Prop where
  ok : d.ok
  len : d.seen.length = 4
  few : d.pend.length ≤ i
  off : d.off = decide (0 < k ∧ k < i)
  fa : d.fa = if k = 0 ∨ k < i then 0 else ((k - i + 1 : Nat) : Int)
  st : d.st = if k = 0 ∨ i ≤ k then ((i - 1 : Nat) : Int) else ((k - 1 : Nat) : Int)
theorem Fl.wr {k j : Nat} {s : ByteArray} (h : Fl k i d) (h1 : 1 ≤ i) (hk : k = 0 ∨ i < k) (hi : i ≤ 40) (hj : j < 4) (hs : s.size ≤ 64) : d.off = false ∧ d.fa ≠ 1 ∧ Fl k (i + 1) (wrD d j s) := by
  have e1 : d.off = false := by rw [h.off]; exact decide_eq_false (by omega)
  have e2 : d.fa ≠ 1 := by rw [h.fa]; split <;> omega
  have e3 := h.st
  have e4 := h.fa
  have e5 := h.few
  rw [if_pos (by omega)] at e3
  refine ⟨e1, e2, wrD_ok h.ok (by rw [h.len]; exact hj) hs e2 (by omega) (by omega), by rw [wrD_len, h.len], by rw [wrD_pend]; simp; omega, by rw [wrD_off e2, e1]; exact (decide_eq_false (by omega)).symm, ?_, by rw [wrD_st e2, e3, if_pos (by omega)]; omega⟩
  unfold wrD; rw [stepD_no e2]
  show (if 0 < d.fa then d.fa - 1 else d.fa) = _
  rcases hk with rfl | hk
  · rw [if_pos (.inl rfl)] at e4
    rw [if_neg (by omega), if_pos (by omega)]; omega
  · rw [if_neg (by omega)] at e4
    rw [if_pos (by omega), if_neg (by omega)]; omega
theorem Fl.ba {k : Nat} (h : Fl k i d) (h1 : 1 ≤ i) (hk : k = 0 ∨ i < k) (hi : i ≤ 40) : d.off = false ∧ d.fa ≠ 1 ∧ Fl k (i + 1) (baD d) := by
  have e1 : d.off = false := by rw [h.off]; exact decide_eq_false (by omega)
  have e2 : d.fa ≠ 1 := by rw [h.fa]; split <;> omega
  have e3 := h.st
  have e4 := h.fa
  rw [if_pos (by omega)] at e3
  refine ⟨e1, e2, baD_ok h.ok e2 (by omega), by rw [baD_seen, h.len], by simp [baD], by rw [baD_off e2, e1]; exact (decide_eq_false (by omega)).symm, ?_, by rw [baD_st e2, e3, if_pos (by omega)]; omega⟩
  unfold baD; rw [stepD_no e2]
  show (if 0 < d.fa then d.fa - 1 else d.fa) = _
  rcases hk with rfl | hk
  · rw [if_pos (.inl rfl)] at e4
    rw [if_neg (by omega), if_pos (by omega)]; omega
  · rw [if_neg (by omega)] at e4
    rw [if_pos (by omega), if_neg (by omega)]; omega
theorem stepD_one (h : d.fa = 1) : stepD d = { d with fa := 0, off := true } := by unfold stepD; rw [if_pos h]
theorem Fl.falls {k : Nat} (h : Fl k i d) (h1 : 1 ≤ i) (hk : i = k) (hi : i ≤ 40) : d.off = false ∧ d.fa = 1 ∧ Fl k (i + 1) (stepD d) := by
  subst hk
  have e1 : d.off = false := by rw [h.off]; exact decide_eq_false (by omega)
  have e2 : d.fa = 1 := by rw [h.fa, if_neg (by omega)]; omega
  have e3 := h.st
  rw [if_pos (by omega)] at e3
  obtain ⟨h1', h2, h3, h4, h5, h6, h7, h8, h9, h10⟩ := h.ok
  refine ⟨e1, e2, ?_⟩
  rw [stepD_one e2]
  refine ⟨⟨h1', h2, h3, h4, h5, h6, h7, h8, Int.le_refl _, by simp only; omega⟩, h.len, Nat.le_succ_of_le h.few, (decide_eq_true (by omega)).symm, by rw [if_pos (by omega)], by rw [if_neg (by omega)]; exact e3⟩
theorem Fl.gone {k : Nat} (h : Fl k i d) (hk : 0 < k ∧ k < i) : d.off = true ∧ Fl k (i + 1) d := by
  have e1 : d.off = true := by rw [h.off]; exact decide_eq_true hk
  have e3 := h.st
  rw [if_neg (by omega)] at e3
  refine ⟨e1, h.ok, h.len, Nat.le_succ_of_le h.few, by rw [e1]; exact (decide_eq_true (by omega)).symm, by rw [h.fa, if_pos (by omega), if_pos (by omega)], by rw [if_neg (by omega)]; exact e3⟩
theorem Fl.new {k : Nat} (hk : k < 40) : Fl k 1 { newD 4 with fa := (k : Int) } := by
  obtain ⟨h1', h2, h3, h4, h5, h6, h7, h8, h9, h10⟩ := newD_ok (k := 4) (by decide)
  refine ⟨⟨h1', h2, h3, h4, h5, h6, h7, h8, by simp only; omega, by simp only; omega⟩, rfl, by simp [newD], (decide_eq_false (by omega)).symm, ?_, ?_⟩
  · simp only; split <;> omega
  · rw [if_pos (by omega)]; rfl
theorem offS (hg : H.get i = some ⟨true, devB d a b c⟩) : SpecAt Try.prog 17 [.ptr i 0] H n (.v (.bool d.off)) H n := ok3.pure t17 (by
  unfold m17
  simp -implicitDefEqProofs only [↓fnVC, initTm]
  simp -implicitDefEqProofs only [go_sem, ↓reduceIte, Nat.reduceEqDiff, Nat.reduceAdd, Nat.reduceMul, Nat.reduceLT, Nat.reduceLeDiff, Nat.reduceSub, Int.reduceToNat, Int.reduceLE, Int.reduceLT, reduceCtorEq, Int.reduceEq, Int.reduceGT, Int.reduceGE, Int.reduceNeg, hg, devB])
theorem stS (hg : H.get i = some ⟨true, devB d a b c⟩) : SpecAt Try.prog 18 [.ptr i 0] H n (.v (.int .i64 d.st)) H n := ok3.pure t18 (by
  unfold m18
  simp -implicitDefEqProofs only [↓fnVC, initTm]
  simp -implicitDefEqProofs only [go_sem, ↓reduceIte, Nat.reduceEqDiff, Nat.reduceAdd, Nat.reduceMul, Nat.reduceLT, Nat.reduceLeDiff, Nat.reduceSub, Int.reduceToNat, Int.reduceLE, Int.reduceLT, reduceCtorEq, Int.reduceEq, Int.reduceGT, Int.reduceGE, Int.reduceNeg, hg, devB])
theorem peS (hg : H.get i = some ⟨true, devB d a b c⟩) : SpecAt Try.prog 19 [.ptr i 0] H n (.v (.int .i64 d.pend.length)) H n := ok3.pure t19 (by
  unfold m19
  simp -implicitDefEqProofs only [↓fnVC, initTm]
  simp -implicitDefEqProofs only [go_sem, ↓reduceIte, Nat.reduceEqDiff, Nat.reduceAdd, Nat.reduceMul, Nat.reduceLT, Nat.reduceLeDiff, Nat.reduceSub, Int.reduceToNat, Int.reduceLE, Int.reduceLT, reduceCtorEq, Int.reduceEq, Int.reduceGT, Int.reduceGE, Int.reduceNeg, hg, devB])
theorem seS (hg : H.get i = some ⟨true, devB d a b c⟩) : SpecAt Try.prog 26 [.ptr i 0] H n (.v (.int .i64 d.seen.length)) H n := ok3.pure t26 (by
  unfold m26
  simp -implicitDefEqProofs only [↓fnVC, initTm]
  simp -implicitDefEqProofs only [go_sem, ↓reduceIte, Nat.reduceEqDiff, Nat.reduceAdd, Nat.reduceMul, Nat.reduceLT, Nat.reduceLeDiff, Nat.reduceSub, Int.reduceToNat, Int.reduceLE, Int.reduceLT, reduceCtorEq, Int.reduceEq, Int.reduceGT, Int.reduceGE, Int.reduceNeg, hg, devB])
/-- The family of states: the device at 2, its rows at 3, 4, 5. -/
def flI (k m : Nat) (o : Nat) (bs : List Bool) (x : Nat → Option SO) (p : Nat × Fd) : St :=
  ⟨[(1, .sl 1 o m 1), (5, .ptr 2 0), (7, .v (.int .i64 k)), (8, .v (.int .i64 p.1))], ⟨(1, some ⟨false, .pl (bs.map Value.bool)⟩) :: devL p.2 2 3 4 5 [], x⟩, 6⟩
theorem w4 {v : Int} {bs : List Bool} {o m : Nat} (hv0 : 0 ≤ v) (hv1 : v ≤ 255) (hom : o + m ≤ bs.length) :
    fnVC C3 m4 [.v (.int .u8 v), .sl 1 o m 1] ⟨[(1, some ⟨false, .pl (bs.map Value.bool)⟩)], x⟩ 2 fun v H' n' => Sub 2 ⟨[(0, .v (.bool true))], ⟨[(1, some ⟨false, .pl (bs.map Value.bool)⟩)], x⟩, 2⟩ ⟨[(0, v)], H', n'⟩ := by
  obtain ⟨k, hk, hk1⟩ : ∃ k : Nat, (k : Int) = v % 40 ∧ k < 40 := ⟨(v % 40).toNat, by omega, by omega⟩
  have hr : IntKind.i64.wrap (v.tmod 40) = (k : Int) := by rw [Int.tmod_eq_emod_of_nonneg hv0, ← hk, wrap_i64 (by omega) (by omega)]
  have hm : max (k : Int) 0 = (k : Int) := by omega
  unfold m4
  simp -implicitDefEqProofs only [↓fnVC, initTm]
  simp -implicitDefEqProofs only [go_sem, ↓reduceIte, Nat.reduceEqDiff, Nat.reduceAdd, Nat.reduceMul, Nat.reduceLT, Nat.reduceLeDiff, Nat.reduceSub, Int.reduceToNat, Int.reduceLE, Int.reduceLT, reduceCtorEq, Int.reduceEq, Int.reduceGT, Int.reduceGE, Int.reduceNeg]
  refine at_call t9 keS ?_
  simp -implicitDefEqProofs only [go_sem, ↓reduceIte, Nat.reduceEqDiff, Nat.reduceAdd, Nat.reduceMul, Nat.reduceLT, Nat.reduceLeDiff, Nat.reduceSub, Int.reduceToNat, Int.reduceLE, Int.reduceLT, reduceCtorEq, Int.reduceEq, Int.reduceGT, Int.reduceGE, Int.reduceNeg]
  refine at_call t10 (nwD (k := 4) (by decide) (by decide) (by decide)) ?_
  simp -implicitDefEqProofs only [go_sem, ↓reduceIte, Nat.reduceEqDiff, Nat.reduceAdd, Nat.reduceMul, Nat.reduceLT, Nat.reduceLeDiff, Nat.reduceSub, Int.reduceToNat, Int.reduceLE, Int.reduceLT, reduceCtorEq, Int.reduceEq, Int.reduceGT, Int.reduceGE, Int.reduceNeg, devL_eq, devB, hr]
  refine in_call mix3 t16 ?_
  unfold m16
  simp -implicitDefEqProofs only [↓fnVC, initTm]
  simp -implicitDefEqProofs only [go_sem, ↓reduceIte, Nat.reduceEqDiff, Nat.reduceAdd, Nat.reduceMul, Nat.reduceLT, Nat.reduceLeDiff, Nat.reduceSub, Int.reduceToNat, Int.reduceLE, Int.reduceLT, reduceCtorEq, Int.reduceEq, Int.reduceGT, Int.reduceGE, Int.reduceNeg, hm]
  refine loop_fam (fun (p : Nat × Fd) => 1 ≤ p.1 ∧ p.1 ≤ 41 ∧ Fl k p.1 p.2) (flI k m o bs x) (fun p => 41 - p.1) (1, { newD 4 with fa := (k : Int) }) ⟨Nat.le_refl _, Nat.le_add_left 1 40, Fl.new hk1⟩ ?_ ?_
  · unfold flI devL devB
    refine sub0 rfl rfl ?_
    simp only [tmSub, hpSub, objSub, eqTm, eqHp, rn, lk, SV.ren, SV.renC, SV.renB, SV.renA, ren_ints, ren_strs, ren_pl, ren_svs, SV.v.injEq, Value.int.injEq, Body.ints.injEq, SV.ptr.injEq, SV.sl.injEq, Value.string.injEq, Value.bool.injEq, List.map_cons, List.map_nil, forall_const, Nat.reduceLT, Nat.lt_add_one, imp_self, true_and, and_true, and_self, ob_some, get_mk, lk_cons, ↓reduceIte, Nat.reduceEqDiff, ne_eq, not_true_eq_false, not_false_eq_true, Nat.one_ne_zero, Nat.zero_ne_one, Nat.succ_ne_self, Nat.reduceAdd, Bool.false_eq_true, false_implies, implies_true, reduceCtorEq]
    rfl
  · rintro ⟨t, d⟩ ⟨ht1, ht2, hF⟩
    simp only at ht1 ht2 hF
    unfold flI
    simp -implicitDefEqProofs only [go_sem, ↓reduceIte, Nat.reduceEqDiff, Nat.reduceAdd, Nat.reduceMul, Nat.reduceLT, Nat.reduceLeDiff, Nat.reduceSub, Int.reduceToNat, Int.reduceLE, Int.reduceLT, reduceCtorEq, Int.reduceEq, Int.reduceGT, Int.reduceGE, Int.reduceNeg, devL_eq]
    have hsz : (ByteArray.mk #[120]).size ≤ 64 := by decide
    have hmd : (t : Int).tmod 4 = ((t % 4 : Nat) : Int) := by rw [Int.tmod_eq_emod_of_nonneg (by omega)]; exact (Int.natCast_emod t 4).symm
    have hlt : t % 4 < 4 := Nat.mod_lt _ (by decide)
    have hw1 : t ≤ 40 → IntKind.i64.wrap ((t : Int) + 1) = ((t + 1 : Nat) : Int) := fun _ => by rw [wrap_i64 (by omega) (by omega)]; omega
    refine condK_bb (fun e1 => ?_) (fun e1 => ?_)
    · have c1 : t ≤ 40 := by simp only [decide_eq_true_eq] at e1; omega
      replace hw1 := hw1 c1
      simp -implicitDefEqProofs only [go_sem, ↓reduceIte, Nat.reduceEqDiff, Nat.reduceAdd, Nat.reduceMul, Nat.reduceLT, Nat.reduceLeDiff, Nat.reduceSub, Int.reduceToNat, Int.reduceLE, Int.reduceLT, reduceCtorEq, Int.reduceEq, Int.reduceGT, Int.reduceGE, Int.reduceNeg]
      have hD : DevAt ⟨[(1, some ⟨false, .pl (bs.map Value.bool)⟩), (2, some ⟨true, devB d 3 4 5⟩), (3, some ⟨true, secB d.seen⟩), (4, some ⟨true, secB d.safe⟩), (5, some ⟨true, .pl (prow d.pend)⟩)], x⟩ d 2 3 4 5 := ⟨rfl, rfl, rfl, rfl, by decide⟩
      by_cases cg : t < m
      · have eA : decide ((t : Int) < (m : Int)) = true := decide_eq_true (by omega)
        have eG : (bs.map Value.bool)[o + t]? = some (Value.bool (bs.getD (o + t) false)) := by rw [List.getElem?_map, List.getD_eq_getElem?_getD, List.getElem?_eq_getElem (by omega)]; rfl
        have hii : (0 ≤ (t : Int) ∧ (t : Int) < (m : Int)) := ⟨by omega, by omega⟩
        cases eB : bs.getD (o + t) false with
        | true =>
          simp -implicitDefEqProofs only [go_sem, ↓reduceIte, Nat.reduceEqDiff, Nat.reduceAdd, Nat.reduceMul, Nat.reduceLT, Nat.reduceLeDiff, Nat.reduceSub, Int.reduceToNat, Int.reduceLE, Int.reduceLT, reduceCtorEq, Int.reduceEq, Int.reduceGT, Int.reduceGE, Int.reduceNeg, eA, eG, eB]
          refine ⟨hii, ?_⟩
          rcases (by omega : k = 0 ∨ (0 < k ∧ t < k) ∨ (0 < k ∧ t = k) ∨ (0 < k ∧ k < t)) with c3 | c3 | c3 | c3
          · have f1 : decide ((k : Int) > 0) = false := decide_eq_false (by omega)
            have f3 : decide ((k : Int) = 0) = true := decide_eq_true (by omega)
            have f2 : True := trivial
            have f4 : True := trivial
            obtain ⟨u1, u2, u3⟩ := hF.ba ht1 (by omega) c1
            refine at_call t12 (baW hD hF.ok u1 u2 (by decide) rfl) ?_
            simp -implicitDefEqProofs only [go_sem, ↓reduceIte, Nat.reduceEqDiff, Nat.reduceAdd, Nat.reduceMul, Nat.reduceLT, Nat.reduceLeDiff, Nat.reduceSub, Int.reduceToNat, Int.reduceLE, Int.reduceLT, reduceCtorEq, Int.reduceEq, Int.reduceGT, Int.reduceGE, Int.reduceNeg, f1, f2, f3, f4, hw1]
            refine kLoop_mk (t + 1, baD d) ⟨by omega, by omega, u3⟩ (by simp only; omega) ?_
            unfold devL devB secB
            refine sub_mk [(5, 6)] rfl rfl rfl ?_
            simp only [tmSub, hpSub, objSub, eqTm, eqHp, rn, lk, SV.ren, SV.renC, SV.renB, SV.renA, ren_ints, ren_strs, ren_pl, ren_svs, SV.v.injEq, Value.int.injEq, Body.ints.injEq, SV.ptr.injEq, SV.sl.injEq, Value.string.injEq, Value.bool.injEq, List.map_cons, List.map_nil, forall_const, Nat.reduceLT, Nat.lt_add_one, imp_self, true_and, and_true, and_self, ob_some, get_mk, lk_cons, ↓reduceIte, Nat.reduceEqDiff, ne_eq, not_true_eq_false, not_false_eq_true, Nat.one_ne_zero, Nat.zero_ne_one, Nat.succ_ne_self, Nat.reduceAdd, Bool.false_eq_true, false_implies, implies_true, reduceCtorEq]
          · have f1 : decide ((k : Int) > 0) = true := decide_eq_true (by omega)
            have f2 : decide ((t : Int) ≥ (k : Int)) = false := decide_eq_false (by omega)
            have f3 : decide ((k : Int) = 0) = false := decide_eq_false (by omega)
            have f4 : decide ((t : Int) < (k : Int)) = true := decide_eq_true (by omega)
            obtain ⟨u1, u2, u3⟩ := hF.ba ht1 (by omega) c1
            refine at_call t12 (baW hD hF.ok u1 u2 (by decide) rfl) ?_
            simp -implicitDefEqProofs only [go_sem, ↓reduceIte, Nat.reduceEqDiff, Nat.reduceAdd, Nat.reduceMul, Nat.reduceLT, Nat.reduceLeDiff, Nat.reduceSub, Int.reduceToNat, Int.reduceLE, Int.reduceLT, reduceCtorEq, Int.reduceEq, Int.reduceGT, Int.reduceGE, Int.reduceNeg, f1, f2, f3, f4, hw1]
            refine kLoop_mk (t + 1, baD d) ⟨by omega, by omega, u3⟩ (by simp only; omega) ?_
            unfold devL devB secB
            refine sub_mk [(5, 6)] rfl rfl rfl ?_
            simp only [tmSub, hpSub, objSub, eqTm, eqHp, rn, lk, SV.ren, SV.renC, SV.renB, SV.renA, ren_ints, ren_strs, ren_pl, ren_svs, SV.v.injEq, Value.int.injEq, Body.ints.injEq, SV.ptr.injEq, SV.sl.injEq, Value.string.injEq, Value.bool.injEq, List.map_cons, List.map_nil, forall_const, Nat.reduceLT, Nat.lt_add_one, imp_self, true_and, and_true, and_self, ob_some, get_mk, lk_cons, ↓reduceIte, Nat.reduceEqDiff, ne_eq, not_true_eq_false, not_false_eq_true, Nat.one_ne_zero, Nat.zero_ne_one, Nat.succ_ne_self, Nat.reduceAdd, Bool.false_eq_true, false_implies, implies_true, reduceCtorEq]
          · have f1 : decide ((k : Int) > 0) = true := decide_eq_true (by omega)
            have f2 : decide ((t : Int) ≥ (k : Int)) = true := decide_eq_true (by omega)
            have f3 : decide ((k : Int) = 0) = false := decide_eq_false (by omega)
            have f4 : decide ((t : Int) < (k : Int)) = false := decide_eq_false (by omega)
            obtain ⟨u1, u2, u3⟩ := hF.falls ht1 c3.2 c1
            rw [stepD_one u2] at u3
            refine at_call t12 (baF (d' := { d with fa := 0, off := true }) (e := 7) hD (by rw [if_neg (by rw [u1]; simp), if_pos u2, stepD_one u2])) ?_
            simp -implicitDefEqProofs only [go_sem, ↓reduceIte, Nat.reduceEqDiff, Nat.reduceAdd, Nat.reduceMul, Nat.reduceLT, Nat.reduceLeDiff, Nat.reduceSub, Int.reduceToNat, Int.reduceLE, Int.reduceLT, reduceCtorEq, Int.reduceEq, Int.reduceGT, Int.reduceGE, Int.reduceNeg, f1, f2, f3, f4, hw1]
            refine kLoop_mk (t + 1, { d with fa := 0, off := true }) ⟨by omega, by omega, u3⟩ (by simp only; omega) ?_
            unfold devL devB secB
            refine sub_mk [] rfl rfl rfl ?_
            simp only [tmSub, hpSub, objSub, eqTm, eqHp, rn, lk, SV.ren, SV.renC, SV.renB, SV.renA, ren_ints, ren_strs, ren_pl, ren_svs, SV.v.injEq, Value.int.injEq, Body.ints.injEq, SV.ptr.injEq, SV.sl.injEq, Value.string.injEq, Value.bool.injEq, List.map_cons, List.map_nil, forall_const, Nat.reduceLT, Nat.lt_add_one, imp_self, true_and, and_true, and_self, ob_some, get_mk, lk_cons, ↓reduceIte, Nat.reduceEqDiff, ne_eq, not_true_eq_false, not_false_eq_true, Nat.one_ne_zero, Nat.zero_ne_one, Nat.succ_ne_self, Nat.reduceAdd, Bool.false_eq_true, false_implies, implies_true, reduceCtorEq]
          · have f1 : decide ((k : Int) > 0) = true := decide_eq_true (by omega)
            have f2 : decide ((t : Int) ≥ (k : Int)) = true := decide_eq_true (by omega)
            have f3 : decide ((k : Int) = 0) = false := decide_eq_false (by omega)
            have f4 : decide ((t : Int) < (k : Int)) = false := decide_eq_false (by omega)
            obtain ⟨u1, u3⟩ := hF.gone c3
            refine at_call t12 (baF (d' := d) (e := 7) hD (by rw [if_pos u1])) ?_
            simp -implicitDefEqProofs only [go_sem, ↓reduceIte, Nat.reduceEqDiff, Nat.reduceAdd, Nat.reduceMul, Nat.reduceLT, Nat.reduceLeDiff, Nat.reduceSub, Int.reduceToNat, Int.reduceLE, Int.reduceLT, reduceCtorEq, Int.reduceEq, Int.reduceGT, Int.reduceGE, Int.reduceNeg, f1, f2, f3, f4, hw1]
            refine kLoop_mk (t + 1, d) ⟨by omega, by omega, u3⟩ (by simp only; omega) ?_
            unfold devL devB secB
            refine sub_mk [] rfl rfl rfl ?_
            simp only [tmSub, hpSub, objSub, eqTm, eqHp, rn, lk, SV.ren, SV.renC, SV.renB, SV.renA, ren_ints, ren_strs, ren_pl, ren_svs, SV.v.injEq, Value.int.injEq, Body.ints.injEq, SV.ptr.injEq, SV.sl.injEq, Value.string.injEq, Value.bool.injEq, List.map_cons, List.map_nil, forall_const, Nat.reduceLT, Nat.lt_add_one, imp_self, true_and, and_true, and_self, ob_some, get_mk, lk_cons, ↓reduceIte, Nat.reduceEqDiff, ne_eq, not_true_eq_false, not_false_eq_true, Nat.one_ne_zero, Nat.zero_ne_one, Nat.succ_ne_self, Nat.reduceAdd, Bool.false_eq_true, false_implies, implies_true, reduceCtorEq]
        | false =>
          simp -implicitDefEqProofs only [go_sem, ↓reduceIte, Nat.reduceEqDiff, Nat.reduceAdd, Nat.reduceMul, Nat.reduceLT, Nat.reduceLeDiff, Nat.reduceSub, Int.reduceToNat, Int.reduceLE, Int.reduceLT, reduceCtorEq, Int.reduceEq, Int.reduceGT, Int.reduceGE, Int.reduceNeg, eA, eG, eB, hmd]
          refine ⟨hii, ?_⟩
          rcases (by omega : k = 0 ∨ (0 < k ∧ t < k) ∨ (0 < k ∧ t = k) ∨ (0 < k ∧ k < t)) with c3 | c3 | c3 | c3
          · have f1 : decide ((k : Int) > 0) = false := decide_eq_false (by omega)
            have f3 : decide ((k : Int) = 0) = true := decide_eq_true (by omega)
            have f2 : True := trivial
            have f4 : True := trivial
            obtain ⟨u1, u2, u3⟩ := hF.wr (j := t % 4) (s := ⟨#[120]⟩) ht1 (by omega) c1 hlt hsz
            refine at_call t11 (wrW (k := t % 4) hD hF.ok (by rw [hF.len]; exact hlt) hsz u1 u2 (by decide) rfl) ?_
            simp -implicitDefEqProofs only [go_sem, ↓reduceIte, Nat.reduceEqDiff, Nat.reduceAdd, Nat.reduceMul, Nat.reduceLT, Nat.reduceLeDiff, Nat.reduceSub, Int.reduceToNat, Int.reduceLE, Int.reduceLT, reduceCtorEq, Int.reduceEq, Int.reduceGT, Int.reduceGE, Int.reduceNeg, f1, f2, f3, f4, hw1]
            refine kLoop_mk (t + 1, wrD d (t % 4) ⟨#[120]⟩) ⟨by omega, by omega, u3⟩ (by simp only; omega) ?_
            unfold devL devB secB
            refine sub_mk [(5, 6)] rfl rfl rfl ?_
            simp only [tmSub, hpSub, objSub, eqTm, eqHp, rn, lk, SV.ren, SV.renC, SV.renB, SV.renA, ren_ints, ren_strs, ren_pl, ren_svs, SV.v.injEq, Value.int.injEq, Body.ints.injEq, SV.ptr.injEq, SV.sl.injEq, Value.string.injEq, Value.bool.injEq, List.map_cons, List.map_nil, forall_const, Nat.reduceLT, Nat.lt_add_one, imp_self, true_and, and_true, and_self, ob_some, get_mk, lk_cons, ↓reduceIte, Nat.reduceEqDiff, ne_eq, not_true_eq_false, not_false_eq_true, Nat.one_ne_zero, Nat.zero_ne_one, Nat.succ_ne_self, Nat.reduceAdd, Bool.false_eq_true, false_implies, implies_true, reduceCtorEq]
          · have f1 : decide ((k : Int) > 0) = true := decide_eq_true (by omega)
            have f2 : decide ((t : Int) ≥ (k : Int)) = false := decide_eq_false (by omega)
            have f3 : decide ((k : Int) = 0) = false := decide_eq_false (by omega)
            have f4 : decide ((t : Int) < (k : Int)) = true := decide_eq_true (by omega)
            obtain ⟨u1, u2, u3⟩ := hF.wr (j := t % 4) (s := ⟨#[120]⟩) ht1 (by omega) c1 hlt hsz
            refine at_call t11 (wrW (k := t % 4) hD hF.ok (by rw [hF.len]; exact hlt) hsz u1 u2 (by decide) rfl) ?_
            simp -implicitDefEqProofs only [go_sem, ↓reduceIte, Nat.reduceEqDiff, Nat.reduceAdd, Nat.reduceMul, Nat.reduceLT, Nat.reduceLeDiff, Nat.reduceSub, Int.reduceToNat, Int.reduceLE, Int.reduceLT, reduceCtorEq, Int.reduceEq, Int.reduceGT, Int.reduceGE, Int.reduceNeg, f1, f2, f3, f4, hw1]
            refine kLoop_mk (t + 1, wrD d (t % 4) ⟨#[120]⟩) ⟨by omega, by omega, u3⟩ (by simp only; omega) ?_
            unfold devL devB secB
            refine sub_mk [(5, 6)] rfl rfl rfl ?_
            simp only [tmSub, hpSub, objSub, eqTm, eqHp, rn, lk, SV.ren, SV.renC, SV.renB, SV.renA, ren_ints, ren_strs, ren_pl, ren_svs, SV.v.injEq, Value.int.injEq, Body.ints.injEq, SV.ptr.injEq, SV.sl.injEq, Value.string.injEq, Value.bool.injEq, List.map_cons, List.map_nil, forall_const, Nat.reduceLT, Nat.lt_add_one, imp_self, true_and, and_true, and_self, ob_some, get_mk, lk_cons, ↓reduceIte, Nat.reduceEqDiff, ne_eq, not_true_eq_false, not_false_eq_true, Nat.one_ne_zero, Nat.zero_ne_one, Nat.succ_ne_self, Nat.reduceAdd, Bool.false_eq_true, false_implies, implies_true, reduceCtorEq]
          · have f1 : decide ((k : Int) > 0) = true := decide_eq_true (by omega)
            have f2 : decide ((t : Int) ≥ (k : Int)) = true := decide_eq_true (by omega)
            have f3 : decide ((k : Int) = 0) = false := decide_eq_false (by omega)
            have f4 : decide ((t : Int) < (k : Int)) = false := decide_eq_false (by omega)
            obtain ⟨u1, u2, u3⟩ := hF.falls ht1 c3.2 c1
            rw [stepD_one u2] at u3
            refine at_call t11 (wrF (d' := { d with fa := 0, off := true }) (e := 7) hD hF.ok (by unfold wrNo; rw [if_neg (by rw [u1]; simp), if_neg (by rw [hF.len]; omega), if_neg (by omega), if_pos u2, stepD_one u2]) ⟨rfl, rfl, rfl⟩) ?_
            simp -implicitDefEqProofs only [go_sem, ↓reduceIte, Nat.reduceEqDiff, Nat.reduceAdd, Nat.reduceMul, Nat.reduceLT, Nat.reduceLeDiff, Nat.reduceSub, Int.reduceToNat, Int.reduceLE, Int.reduceLT, reduceCtorEq, Int.reduceEq, Int.reduceGT, Int.reduceGE, Int.reduceNeg, f1, f2, f3, f4, hw1]
            refine kLoop_mk (t + 1, { d with fa := 0, off := true }) ⟨by omega, by omega, u3⟩ (by simp only; omega) ?_
            unfold devL devB secB
            refine sub_mk [] rfl rfl rfl ?_
            simp only [tmSub, hpSub, objSub, eqTm, eqHp, rn, lk, SV.ren, SV.renC, SV.renB, SV.renA, ren_ints, ren_strs, ren_pl, ren_svs, SV.v.injEq, Value.int.injEq, Body.ints.injEq, SV.ptr.injEq, SV.sl.injEq, Value.string.injEq, Value.bool.injEq, List.map_cons, List.map_nil, forall_const, Nat.reduceLT, Nat.lt_add_one, imp_self, true_and, and_true, and_self, ob_some, get_mk, lk_cons, ↓reduceIte, Nat.reduceEqDiff, ne_eq, not_true_eq_false, not_false_eq_true, Nat.one_ne_zero, Nat.zero_ne_one, Nat.succ_ne_self, Nat.reduceAdd, Bool.false_eq_true, false_implies, implies_true, reduceCtorEq]
          · have f1 : decide ((k : Int) > 0) = true := decide_eq_true (by omega)
            have f2 : decide ((t : Int) ≥ (k : Int)) = true := decide_eq_true (by omega)
            have f3 : decide ((k : Int) = 0) = false := decide_eq_false (by omega)
            have f4 : decide ((t : Int) < (k : Int)) = false := decide_eq_false (by omega)
            obtain ⟨u1, u3⟩ := hF.gone c3
            refine at_call t11 (wrF (d' := d) (e := 7) hD hF.ok (by unfold wrNo; rw [if_pos u1]) ⟨rfl, rfl, rfl⟩) ?_
            simp -implicitDefEqProofs only [go_sem, ↓reduceIte, Nat.reduceEqDiff, Nat.reduceAdd, Nat.reduceMul, Nat.reduceLT, Nat.reduceLeDiff, Nat.reduceSub, Int.reduceToNat, Int.reduceLE, Int.reduceLT, reduceCtorEq, Int.reduceEq, Int.reduceGT, Int.reduceGE, Int.reduceNeg, f1, f2, f3, f4, hw1]
            refine kLoop_mk (t + 1, d) ⟨by omega, by omega, u3⟩ (by simp only; omega) ?_
            unfold devL devB secB
            refine sub_mk [] rfl rfl rfl ?_
            simp only [tmSub, hpSub, objSub, eqTm, eqHp, rn, lk, SV.ren, SV.renC, SV.renB, SV.renA, ren_ints, ren_strs, ren_pl, ren_svs, SV.v.injEq, Value.int.injEq, Body.ints.injEq, SV.ptr.injEq, SV.sl.injEq, Value.string.injEq, Value.bool.injEq, List.map_cons, List.map_nil, forall_const, Nat.reduceLT, Nat.lt_add_one, imp_self, true_and, and_true, and_self, ob_some, get_mk, lk_cons, ↓reduceIte, Nat.reduceEqDiff, ne_eq, not_true_eq_false, not_false_eq_true, Nat.one_ne_zero, Nat.zero_ne_one, Nat.succ_ne_self, Nat.reduceAdd, Bool.false_eq_true, false_implies, implies_true, reduceCtorEq]
      · have eA : decide ((t : Int) < (m : Int)) = false := decide_eq_false (by omega)
        simp -implicitDefEqProofs only [go_sem, ↓reduceIte, Nat.reduceEqDiff, Nat.reduceAdd, Nat.reduceMul, Nat.reduceLT, Nat.reduceLeDiff, Nat.reduceSub, Int.reduceToNat, Int.reduceLE, Int.reduceLT, reduceCtorEq, Int.reduceEq, Int.reduceGT, Int.reduceGE, Int.reduceNeg, eA, hmd]
        rcases (by omega : k = 0 ∨ (0 < k ∧ t < k) ∨ (0 < k ∧ t = k) ∨ (0 < k ∧ k < t)) with c3 | c3 | c3 | c3
        · have f1 : decide ((k : Int) > 0) = false := decide_eq_false (by omega)
          have f3 : decide ((k : Int) = 0) = true := decide_eq_true (by omega)
          have f2 : True := trivial
          have f4 : True := trivial
          obtain ⟨u1, u2, u3⟩ := hF.wr (j := t % 4) (s := ⟨#[120]⟩) ht1 (by omega) c1 hlt hsz
          refine at_call t11 (wrW (k := t % 4) hD hF.ok (by rw [hF.len]; exact hlt) hsz u1 u2 (by decide) rfl) ?_
          simp -implicitDefEqProofs only [go_sem, ↓reduceIte, Nat.reduceEqDiff, Nat.reduceAdd, Nat.reduceMul, Nat.reduceLT, Nat.reduceLeDiff, Nat.reduceSub, Int.reduceToNat, Int.reduceLE, Int.reduceLT, reduceCtorEq, Int.reduceEq, Int.reduceGT, Int.reduceGE, Int.reduceNeg, f1, f2, f3, f4, hw1]
          refine kLoop_mk (t + 1, wrD d (t % 4) ⟨#[120]⟩) ⟨by omega, by omega, u3⟩ (by simp only; omega) ?_
          unfold devL devB secB
          refine sub_mk [(5, 6)] rfl rfl rfl ?_
          simp only [tmSub, hpSub, objSub, eqTm, eqHp, rn, lk, SV.ren, SV.renC, SV.renB, SV.renA, ren_ints, ren_strs, ren_pl, ren_svs, SV.v.injEq, Value.int.injEq, Body.ints.injEq, SV.ptr.injEq, SV.sl.injEq, Value.string.injEq, Value.bool.injEq, List.map_cons, List.map_nil, forall_const, Nat.reduceLT, Nat.lt_add_one, imp_self, true_and, and_true, and_self, ob_some, get_mk, lk_cons, ↓reduceIte, Nat.reduceEqDiff, ne_eq, not_true_eq_false, not_false_eq_true, Nat.one_ne_zero, Nat.zero_ne_one, Nat.succ_ne_self, Nat.reduceAdd, Bool.false_eq_true, false_implies, implies_true, reduceCtorEq]
        · have f1 : decide ((k : Int) > 0) = true := decide_eq_true (by omega)
          have f2 : decide ((t : Int) ≥ (k : Int)) = false := decide_eq_false (by omega)
          have f3 : decide ((k : Int) = 0) = false := decide_eq_false (by omega)
          have f4 : decide ((t : Int) < (k : Int)) = true := decide_eq_true (by omega)
          obtain ⟨u1, u2, u3⟩ := hF.wr (j := t % 4) (s := ⟨#[120]⟩) ht1 (by omega) c1 hlt hsz
          refine at_call t11 (wrW (k := t % 4) hD hF.ok (by rw [hF.len]; exact hlt) hsz u1 u2 (by decide) rfl) ?_
          simp -implicitDefEqProofs only [go_sem, ↓reduceIte, Nat.reduceEqDiff, Nat.reduceAdd, Nat.reduceMul, Nat.reduceLT, Nat.reduceLeDiff, Nat.reduceSub, Int.reduceToNat, Int.reduceLE, Int.reduceLT, reduceCtorEq, Int.reduceEq, Int.reduceGT, Int.reduceGE, Int.reduceNeg, f1, f2, f3, f4, hw1]
          refine kLoop_mk (t + 1, wrD d (t % 4) ⟨#[120]⟩) ⟨by omega, by omega, u3⟩ (by simp only; omega) ?_
          unfold devL devB secB
          refine sub_mk [(5, 6)] rfl rfl rfl ?_
          simp only [tmSub, hpSub, objSub, eqTm, eqHp, rn, lk, SV.ren, SV.renC, SV.renB, SV.renA, ren_ints, ren_strs, ren_pl, ren_svs, SV.v.injEq, Value.int.injEq, Body.ints.injEq, SV.ptr.injEq, SV.sl.injEq, Value.string.injEq, Value.bool.injEq, List.map_cons, List.map_nil, forall_const, Nat.reduceLT, Nat.lt_add_one, imp_self, true_and, and_true, and_self, ob_some, get_mk, lk_cons, ↓reduceIte, Nat.reduceEqDiff, ne_eq, not_true_eq_false, not_false_eq_true, Nat.one_ne_zero, Nat.zero_ne_one, Nat.succ_ne_self, Nat.reduceAdd, Bool.false_eq_true, false_implies, implies_true, reduceCtorEq]
        · have f1 : decide ((k : Int) > 0) = true := decide_eq_true (by omega)
          have f2 : decide ((t : Int) ≥ (k : Int)) = true := decide_eq_true (by omega)
          have f3 : decide ((k : Int) = 0) = false := decide_eq_false (by omega)
          have f4 : decide ((t : Int) < (k : Int)) = false := decide_eq_false (by omega)
          obtain ⟨u1, u2, u3⟩ := hF.falls ht1 c3.2 c1
          rw [stepD_one u2] at u3
          refine at_call t11 (wrF (d' := { d with fa := 0, off := true }) (e := 7) hD hF.ok (by unfold wrNo; rw [if_neg (by rw [u1]; simp), if_neg (by rw [hF.len]; omega), if_neg (by omega), if_pos u2, stepD_one u2]) ⟨rfl, rfl, rfl⟩) ?_
          simp -implicitDefEqProofs only [go_sem, ↓reduceIte, Nat.reduceEqDiff, Nat.reduceAdd, Nat.reduceMul, Nat.reduceLT, Nat.reduceLeDiff, Nat.reduceSub, Int.reduceToNat, Int.reduceLE, Int.reduceLT, reduceCtorEq, Int.reduceEq, Int.reduceGT, Int.reduceGE, Int.reduceNeg, f1, f2, f3, f4, hw1]
          refine kLoop_mk (t + 1, { d with fa := 0, off := true }) ⟨by omega, by omega, u3⟩ (by simp only; omega) ?_
          unfold devL devB secB
          refine sub_mk [] rfl rfl rfl ?_
          simp only [tmSub, hpSub, objSub, eqTm, eqHp, rn, lk, SV.ren, SV.renC, SV.renB, SV.renA, ren_ints, ren_strs, ren_pl, ren_svs, SV.v.injEq, Value.int.injEq, Body.ints.injEq, SV.ptr.injEq, SV.sl.injEq, Value.string.injEq, Value.bool.injEq, List.map_cons, List.map_nil, forall_const, Nat.reduceLT, Nat.lt_add_one, imp_self, true_and, and_true, and_self, ob_some, get_mk, lk_cons, ↓reduceIte, Nat.reduceEqDiff, ne_eq, not_true_eq_false, not_false_eq_true, Nat.one_ne_zero, Nat.zero_ne_one, Nat.succ_ne_self, Nat.reduceAdd, Bool.false_eq_true, false_implies, implies_true, reduceCtorEq]
        · have f1 : decide ((k : Int) > 0) = true := decide_eq_true (by omega)
          have f2 : decide ((t : Int) ≥ (k : Int)) = true := decide_eq_true (by omega)
          have f3 : decide ((k : Int) = 0) = false := decide_eq_false (by omega)
          have f4 : decide ((t : Int) < (k : Int)) = false := decide_eq_false (by omega)
          obtain ⟨u1, u3⟩ := hF.gone c3
          refine at_call t11 (wrF (d' := d) (e := 7) hD hF.ok (by unfold wrNo; rw [if_pos u1]) ⟨rfl, rfl, rfl⟩) ?_
          simp -implicitDefEqProofs only [go_sem, ↓reduceIte, Nat.reduceEqDiff, Nat.reduceAdd, Nat.reduceMul, Nat.reduceLT, Nat.reduceLeDiff, Nat.reduceSub, Int.reduceToNat, Int.reduceLE, Int.reduceLT, reduceCtorEq, Int.reduceEq, Int.reduceGT, Int.reduceGE, Int.reduceNeg, f1, f2, f3, f4, hw1]
          refine kLoop_mk (t + 1, d) ⟨by omega, by omega, u3⟩ (by simp only; omega) ?_
          unfold devL devB secB
          refine sub_mk [] rfl rfl rfl ?_
          simp only [tmSub, hpSub, objSub, eqTm, eqHp, rn, lk, SV.ren, SV.renC, SV.renB, SV.renA, ren_ints, ren_strs, ren_pl, ren_svs, SV.v.injEq, Value.int.injEq, Body.ints.injEq, SV.ptr.injEq, SV.sl.injEq, Value.string.injEq, Value.bool.injEq, List.map_cons, List.map_nil, forall_const, Nat.reduceLT, Nat.lt_add_one, imp_self, true_and, and_true, and_self, ob_some, get_mk, lk_cons, ↓reduceIte, Nat.reduceEqDiff, ne_eq, not_true_eq_false, not_false_eq_true, Nat.one_ne_zero, Nat.zero_ne_one, Nat.succ_ne_self, Nat.reduceAdd, Bool.false_eq_true, false_implies, implies_true, reduceCtorEq]
    · have c1 : t = 41 := by simp only [decide_eq_false_iff_not] at e1; omega
      subst c1
      have hD : DevAt ⟨[(1, some ⟨false, .pl (bs.map Value.bool)⟩), (2, some ⟨true, devB d 3 4 5⟩), (3, some ⟨true, secB d.seen⟩), (4, some ⟨true, secB d.safe⟩), (5, some ⟨true, .pl (prow d.pend)⟩)], x⟩ d 2 3 4 5 := ⟨rfl, rfl, rfl, rfl, by decide⟩
      simp -implicitDefEqProofs only [go_sem, ↓reduceIte, Nat.reduceEqDiff, Nat.reduceAdd, Nat.reduceMul, Nat.reduceLT, Nat.reduceLeDiff, Nat.reduceSub, Int.reduceToNat, Int.reduceLE, Int.reduceLT, reduceCtorEq, Int.reduceEq, Int.reduceGT, Int.reduceGE, Int.reduceNeg]
      refine at_call t14 (rdS (k := 0) hD hF.ok) ?_
      have hst := hF.st
      have hoff := hF.off
      obtain ⟨d6, e6⟩ : ∃ d6, crD d ((([] : List Int).drop 0).take 0) = d6 := ⟨_, rfl⟩
      have o6 : d6.ok := e6 ▸ crD_ok hF.ok
      have l6 : d6.seen.length = 4 := by rw [← e6]; simp only [crD, crl_len]; rw [hF.ok.len, hF.len]
      have q6 : d6.off = false ∧ d6.fa = 0 ∧ d6.st = d.st := by rw [← e6]; exact ⟨rfl, rfl, rfl⟩
      have p6 : d6.pend.length = 0 := by rw [← e6]; rfl
      have v6 : rdV d6 0 = .tup [.v (.string (tx (d6.seen.getD 0 []))), .v (.int .i64 0)] := by unfold rdV; rw [if_neg (by rw [q6.1]; simp), if_neg (by rw [l6]; omega)]; rfl
      have hy : (ByteArray.mk #[121]).size ≤ 64 := by decide
      have hs6 : (wrD d6 0 ⟨#[121]⟩).st = d6.st + 1 := wrD_st (by omega)
      rcases (by omega : k = 0 ∨ 0 < k) with c3 | c3
      · have f1 : decide ((k : Int) > 0) = false := decide_eq_false (by omega)
        have o1 : d.off = false := by rw [hoff]; exact decide_eq_false (by omega)
        have s1 : d.st = 40 := by rw [hst, if_pos (.inl c3)]; rfl
        have v1 : rdV d 0 = .tup [.v (.string (tx (d.seen.getD 0 []))), .v (.int .i64 0)] := by unfold rdV; rw [if_neg (by rw [o1]; simp), if_neg (by rw [hF.len]; omega)]; rfl
        have s2 : (wrD d6 0 ⟨#[121]⟩).st = 41 := by rw [hs6, q6.2.2, s1]; rfl
        have f9 : IntKind.i64.wrap (40 + 1) = 41 := rfl
        simp -implicitDefEqProofs only [go_sem, ↓reduceIte, Nat.reduceEqDiff, Nat.reduceAdd, Nat.reduceMul, Nat.reduceLT, Nat.reduceLeDiff, Nat.reduceSub, Int.reduceToNat, Int.reduceLE, Int.reduceLT, reduceCtorEq, Int.reduceEq, Int.reduceGT, Int.reduceGE, Int.reduceNeg, v1, f1]
        refine at_call t17 (offS hD.gi) ?_
        simp -implicitDefEqProofs only [go_sem, ↓reduceIte, Nat.reduceEqDiff, Nat.reduceAdd, Nat.reduceMul, Nat.reduceLT, Nat.reduceLeDiff, Nat.reduceSub, Int.reduceToNat, Int.reduceLE, Int.reduceLT, reduceCtorEq, Int.reduceEq, Int.reduceGT, Int.reduceGE, Int.reduceNeg, o1, f1, Bool.not_true, Bool.not_false, beq_self_eq_true]
        refine at_call t18 (stS hD.gi) ?_
        simp -implicitDefEqProofs only [go_sem, ↓reduceIte, Nat.reduceEqDiff, Nat.reduceAdd, Nat.reduceMul, Nat.reduceLT, Nat.reduceLeDiff, Nat.reduceSub, Int.reduceToNat, Int.reduceLE, Int.reduceLT, reduceCtorEq, Int.reduceEq, Int.reduceGT, Int.reduceGE, Int.reduceNeg, s1]
        refine at_call t15 (crW (row := []) (r := 0) (o := 0) (m := 0) hD hF.ok (by rw [hF.len]; decide) (Nat.le_refl _) rfl (by decide) (by decide) e6) ?_
        simp -implicitDefEqProofs only [go_sem, ↓reduceIte, Nat.reduceEqDiff, Nat.reduceAdd, Nat.reduceMul, Nat.reduceLT, Nat.reduceLeDiff, Nat.reduceSub, Int.reduceToNat, Int.reduceLE, Int.reduceLT, reduceCtorEq, Int.reduceEq, Int.reduceGT, Int.reduceGE, Int.reduceNeg]
        refine at_call t14 (rdS (k := 0) (a := 6) (b := 4) (c := 7) ⟨rfl, rfl, rfl, rfl, by decide⟩ o6) ?_
        simp -implicitDefEqProofs only [go_sem, ↓reduceIte, Nat.reduceEqDiff, Nat.reduceAdd, Nat.reduceMul, Nat.reduceLT, Nat.reduceLeDiff, Nat.reduceSub, Int.reduceToNat, Int.reduceLE, Int.reduceLT, reduceCtorEq, Int.reduceEq, Int.reduceGT, Int.reduceGE, Int.reduceNeg, v6]
        refine at_call t11 (wrW (k := 0) (a := 6) (b := 4) (c := 7) ⟨rfl, rfl, rfl, rfl, by decide⟩ o6 (by omega) hy q6.1 (by omega) (by decide) rfl) ?_
        simp -implicitDefEqProofs only [go_sem, ↓reduceIte, Nat.reduceEqDiff, Nat.reduceAdd, Nat.reduceMul, Nat.reduceLT, Nat.reduceLeDiff, Nat.reduceSub, Int.reduceToNat, Int.reduceLE, Int.reduceLT, reduceCtorEq, Int.reduceEq, Int.reduceGT, Int.reduceGE, Int.reduceNeg]
        refine at_call t18 (stS rfl) ?_
        simp -implicitDefEqProofs only [go_sem, ↓reduceIte, Nat.reduceEqDiff, Nat.reduceAdd, Nat.reduceMul, Nat.reduceLT, Nat.reduceLeDiff, Nat.reduceSub, Int.reduceToNat, Int.reduceLE, Int.reduceLT, reduceCtorEq, Int.reduceEq, Int.reduceGT, Int.reduceGE, Int.reduceNeg, s2, f9]
        refine sub_mk [] rfl rfl rfl ?_
        simp only [tmSub, hpSub, objSub, eqTm, eqHp, rn, lk, SV.ren, SV.renC, SV.renB, SV.renA, ren_ints, ren_strs, ren_pl, ren_svs, SV.v.injEq, Value.int.injEq, Body.ints.injEq, SV.ptr.injEq, SV.sl.injEq, Value.string.injEq, Value.bool.injEq, List.map_cons, List.map_nil, forall_const, Nat.reduceLT, Nat.lt_add_one, imp_self, true_and, and_true, and_self, ob_some, get_mk, lk_cons, ↓reduceIte, Nat.reduceEqDiff, ne_eq, not_true_eq_false, not_false_eq_true, Nat.one_ne_zero, Nat.zero_ne_one, Nat.succ_ne_self, Nat.reduceAdd, Bool.false_eq_true, false_implies, implies_true, reduceCtorEq]
      · have f1 : decide ((k : Int) > 0) = true := decide_eq_true (by omega)
        have o1 : d.off = true := by rw [hoff]; exact decide_eq_true (by omega)
        have s1 : d.st = IntKind.i64.wrap ((k : Int) - 1) := by rw [hst, if_neg (by omega), wrap_i64 (by omega) (by omega)]; omega
        have v1 : rdV d 0 = .tup [.v (.string ⟨#[]⟩), .v (.int .i64 7)] := by unfold rdV; rw [if_pos o1]
        have f9 : IntKind.i64.wrap (IntKind.i64.wrap ((k : Int) - 1) + 1) = (k : Int) := by rw [wrap_i64 (n := (k : Int) - 1) (by omega) (by omega), wrap_i64 (by omega) (by omega)]; omega
        have s2 : (wrD d6 0 ⟨#[121]⟩).st = (k : Int) := by rw [hs6, q6.2.2, s1, wrap_i64 (by omega) (by omega)]; omega
        simp -implicitDefEqProofs only [go_sem, ↓reduceIte, Nat.reduceEqDiff, Nat.reduceAdd, Nat.reduceMul, Nat.reduceLT, Nat.reduceLeDiff, Nat.reduceSub, Int.reduceToNat, Int.reduceLE, Int.reduceLT, reduceCtorEq, Int.reduceEq, Int.reduceGT, Int.reduceGE, Int.reduceNeg, v1, f1]
        refine at_call t17 (offS hD.gi) ?_
        simp -implicitDefEqProofs only [go_sem, ↓reduceIte, Nat.reduceEqDiff, Nat.reduceAdd, Nat.reduceMul, Nat.reduceLT, Nat.reduceLeDiff, Nat.reduceSub, Int.reduceToNat, Int.reduceLE, Int.reduceLT, reduceCtorEq, Int.reduceEq, Int.reduceGT, Int.reduceGE, Int.reduceNeg, o1, f1, Bool.not_true, Bool.not_false, beq_self_eq_true]
        refine at_call t18 (stS hD.gi) ?_
        simp -implicitDefEqProofs only [go_sem, ↓reduceIte, Nat.reduceEqDiff, Nat.reduceAdd, Nat.reduceMul, Nat.reduceLT, Nat.reduceLeDiff, Nat.reduceSub, Int.reduceToNat, Int.reduceLE, Int.reduceLT, reduceCtorEq, Int.reduceEq, Int.reduceGT, Int.reduceGE, Int.reduceNeg, s1]
        refine at_call t15 (crW (row := []) (r := 0) (o := 0) (m := 0) hD hF.ok (by rw [hF.len]; decide) (Nat.le_refl _) rfl (by decide) (by decide) e6) ?_
        simp -implicitDefEqProofs only [go_sem, ↓reduceIte, Nat.reduceEqDiff, Nat.reduceAdd, Nat.reduceMul, Nat.reduceLT, Nat.reduceLeDiff, Nat.reduceSub, Int.reduceToNat, Int.reduceLE, Int.reduceLT, reduceCtorEq, Int.reduceEq, Int.reduceGT, Int.reduceGE, Int.reduceNeg]
        refine at_call t14 (rdS (k := 0) (a := 6) (b := 4) (c := 7) ⟨rfl, rfl, rfl, rfl, by decide⟩ o6) ?_
        simp -implicitDefEqProofs only [go_sem, ↓reduceIte, Nat.reduceEqDiff, Nat.reduceAdd, Nat.reduceMul, Nat.reduceLT, Nat.reduceLeDiff, Nat.reduceSub, Int.reduceToNat, Int.reduceLE, Int.reduceLT, reduceCtorEq, Int.reduceEq, Int.reduceGT, Int.reduceGE, Int.reduceNeg, v6]
        refine at_call t11 (wrW (k := 0) (a := 6) (b := 4) (c := 7) ⟨rfl, rfl, rfl, rfl, by decide⟩ o6 (by omega) hy q6.1 (by omega) (by decide) rfl) ?_
        simp -implicitDefEqProofs only [go_sem, ↓reduceIte, Nat.reduceEqDiff, Nat.reduceAdd, Nat.reduceMul, Nat.reduceLT, Nat.reduceLeDiff, Nat.reduceSub, Int.reduceToNat, Int.reduceLE, Int.reduceLT, reduceCtorEq, Int.reduceEq, Int.reduceGT, Int.reduceGE, Int.reduceNeg]
        refine at_call t18 (stS rfl) ?_
        simp -implicitDefEqProofs only [go_sem, ↓reduceIte, Nat.reduceEqDiff, Nat.reduceAdd, Nat.reduceMul, Nat.reduceLT, Nat.reduceLeDiff, Nat.reduceSub, Int.reduceToNat, Int.reduceLE, Int.reduceLT, reduceCtorEq, Int.reduceEq, Int.reduceGT, Int.reduceGE, Int.reduceNeg, s2, f9]
        refine sub_mk [] rfl rfl rfl ?_
        simp only [tmSub, hpSub, objSub, eqTm, eqHp, rn, lk, SV.ren, SV.renC, SV.renB, SV.renA, ren_ints, ren_strs, ren_pl, ren_svs, SV.v.injEq, Value.int.injEq, Body.ints.injEq, SV.ptr.injEq, SV.sl.injEq, Value.string.injEq, Value.bool.injEq, List.map_cons, List.map_nil, forall_const, Nat.reduceLT, Nat.lt_add_one, imp_self, true_and, and_true, and_self, ob_some, get_mk, lk_cons, ↓reduceIte, Nat.reduceEqDiff, ne_eq, not_true_eq_false, not_false_eq_true, Nat.one_ne_zero, Nat.zero_ne_one, Nat.succ_ne_self, Nat.reduceAdd, Bool.false_eq_true, false_implies, implies_true, reduceCtorEq]
theorem s4 {v : Int} {bs : List Bool} {o m : Nat} (hv0 : 0 ≤ v) (hv1 : v ≤ 255) (hom : o + m ≤ bs.length) :
    SpecAt Try.prog 4 [.v (.int .u8 v), .sl 1 o m 1] ⟨[(1, some ⟨false, .pl (bs.map Value.bool)⟩)], x⟩ 2 (.v (.bool true)) ⟨[(1, some ⟨false, .pl (bs.map Value.bool)⟩)], x⟩ 2 := ok3.spec t4 (w4 hv0 hv1 hom)
end Go.Sx

/- Layer 3: FlashNone. -/
set_option linter.unusedVariables false
set_option linter.unusedSimpArgs false
set_option maxRecDepth 100000
namespace Go.Sx
attribute [local go_sem ↓] bind_mk intsB_mk strsB_mk svB_mk fnVC ob_some vc_skip vc_exit vc_ret vc_seq vc_block kSeq_normal kSeq_exit kSeq_ret kBlock_normal kBlock_exit kBlock_ret vc_reg vc_regD vc_cond condK_true condK_false vc_loop kLoop_exit kLoop_ret kRoll_normal kRoll_exit kRoll_ret vcOps_nil vcOps_cons gd_bool gd_undef put_some put_none vcT_fin vcT_pure vcT_act vcT_acts vcT_stop stab_none stab_some stabM_nil stabM_cons stabO_ld stabO_ldn stabO_slP stabO_b2s fldOf_ai fldOf_agg fldOf_ait fldOf_aggt intsOf_nil intsOf_cons strsOf_nil strsOf_cons c_omap ob_if lk_nil lk_cons ev_t ev_k z_mov z_pick z_bin z_binB z_binP z_un z_conv z_s2b z_b2s z_alloc z_bld z_bldI z_rowI z_rowS z_ld z_ldn z_st z_stn asN_ptr asN_fn z_nilck z_fld z_fadr z_idxA z_idxP z_idxS z_idxV z_slS z_slL z_slP z_mk z_lenS z_lenL z_app z_appS z_appZ z_cpyS z_mkfn reps_int reps_str z_rowV z_slnil nilK_zero z_cpy z_call asT_tup z_extT z_box boxOf_ai boxOf_agg boxOf_int boxOf_str boxOf_bool boxOf_ptr boxOf_sl sbin_int sbin_str sbinB_mk sbinP_nn sbinP_pn sbinP_np i_add i_sub i_mul i_quo i_rem i_and i_or i_xor i_andNot i_shl i_shr i_eql i_neq i_lss i_leq i_gtr i_geq st_add st_eql st_neq st_lss st_leq st_gtr st_geq bo_eql bo_neq pt_eql pt_neq un_neg un_xor un_not asI_mk asB_mk asS_mk asP_mk asSl_mk asBy_mk bnd_none bnd_some get_mk hput_mk hdel_mk kill_eq wrOf_eq rowOf_eq rsvs_0 rsvs_1 rsvs_2 rsvs_3 rsv_t rsv_c1 rsv_cn nt_v nt_ptr nt_sl nt_agg nt_ai get_ints get_strs get_pl get_sv getN_ints getN_sv set_ints set_strs set_sv setN_ints setN_sv part_ints part_strs part_sv cat_ints cat_strs cat_sv over_ints ones_ints ones_strs evs_nil evs_cons condK_eqt condK_eqf det_callP V_ns V_nn V_gs V_gn obC_mk fresh_ev setN_plagg setN_intsv setN_svai setN_svagg over_intsv set_pl setN_pl setN_plai getN_pl getN_strs part_pl cat_pl over_pl over_plints z_mm
attribute [local go_sem] initTm ne_eq not_true_eq_false not_false_eq_true true_and and_true List.length_cons List.length_nil Int.toNat_natCast Nat.add_zero Nat.zero_add Nat.mul_one List.getElem?_cons_zero List.drop_zero List.take_length List.take_succ_cons List.take_zero List.take_nil List.drop_succ_cons Option.map_some Nat.le_refl implies_true List.getElem?_cons_succ decide_true decide_false Bool.not_true Bool.not_false beq_self_eq_true Nat.succ_ne_self Nat.one_ne_zero Nat.zero_ne_one vk_mk hk_mk nk_mk tok_eq plsOf_map intsOf_map bodyOf_pl bodyOf_ints bodyOf_strs bodyOf_sv part_aggv part_agg part_ai part_int part_str part_bool part_sl part_ptr part_nil numsOf_map u_int u_str u_bool u_pnil u_sl u_ptr u_oci u_ocs evq_nil evq_cons fillS_nil fillS_cons u_ocb ones_pl cells_sv cells_ints cells_strs cells_pl smms_nil smms_cons smm_min smm_max plsOf_nil List.nil_append List.all_cons List.all_nil Bool.and_self Bool.true_and Bool.and_true zws_len zw_len zi_len List.set_cons_zero List.set_cons_succ List.flatMap_cons List.flatMap_nil List.append_nil
open Go.Proofs
variable {H : Hp} {n : Nat} {x : Nat → Option SO} {d d' : Fd} {i a b c : Nat}

theorem seq_nil : seq ⟨#[]⟩ ⟨#[]⟩ = true := seq_self3 _
theorem atNil {k : Int} : SpecAt Try.prog 27 [.v (.pointer none), .v (.int .i64 k)] H n (.v (.int .i64 1)) H n := ok3.pure t27 (by
  unfold m27
  simp -implicitDefEqProofs only [↓fnVC, initTm]
  by_cases c1 : k < 0
  · have e1 : decide (k < 0) = true := decide_eq_true c1
    simp -implicitDefEqProofs only [go_sem, ↓reduceIte, Nat.reduceEqDiff, Nat.reduceAdd, Nat.reduceMul, Nat.reduceLT, Nat.reduceLeDiff, Nat.reduceSub, Int.reduceToNat, Int.reduceLE, Int.reduceLT, reduceCtorEq, Int.reduceEq, Int.reduceGT, Int.reduceGE, Int.reduceNeg, e1]
  · have e1 : decide (k < 0) = false := decide_eq_false c1
    have e2 : decide (k ≥ 0) = true := decide_eq_true (by omega)
    simp -implicitDefEqProofs only [go_sem, ↓reduceIte, Nat.reduceEqDiff, Nat.reduceAdd, Nat.reduceMul, Nat.reduceLT, Nat.reduceLeDiff, Nat.reduceSub, Int.reduceToNat, Int.reduceLE, Int.reduceLT, reduceCtorEq, Int.reduceEq, Int.reduceGT, Int.reduceGE, Int.reduceNeg, e1]
    refine in_call mix3 t26 ?_
    unfold m26
    simp -implicitDefEqProofs only [↓fnVC, initTm]
    simp -implicitDefEqProofs only [go_sem, ↓reduceIte, Nat.reduceEqDiff, Nat.reduceAdd, Nat.reduceMul, Nat.reduceLT, Nat.reduceLeDiff, Nat.reduceSub, Int.reduceToNat, Int.reduceLE, Int.reduceLT, reduceCtorEq, Int.reduceEq, Int.reduceGT, Int.reduceGE, Int.reduceNeg, e1, e2])
theorem rdNil {k : Int} : SpecAt Try.prog 14 [.v (.pointer none), .v (.int .i64 k)] H n (.tup [.v (.string ⟨#[]⟩), .v (.int .i64 1)]) H n := ok3.pure t14 (by
  unfold m14
  simp -implicitDefEqProofs only [↓fnVC, initTm]
  simp -implicitDefEqProofs only [go_sem, ↓reduceIte, Nat.reduceEqDiff, Nat.reduceAdd, Nat.reduceMul, Nat.reduceLT, Nat.reduceLeDiff, Nat.reduceSub, Int.reduceToNat, Int.reduceLE, Int.reduceLT, reduceCtorEq, Int.reduceEq, Int.reduceGT, Int.reduceGE, Int.reduceNeg]
  refine at_call t27 atNil ?_
  simp -implicitDefEqProofs only [go_sem, ↓reduceIte, Nat.reduceEqDiff, Nat.reduceAdd, Nat.reduceMul, Nat.reduceLT, Nat.reduceLeDiff, Nat.reduceSub, Int.reduceToNat, Int.reduceLE, Int.reduceLT, reduceCtorEq, Int.reduceEq, Int.reduceGT, Int.reduceGE, Int.reduceNeg])
theorem wrNil {k : Int} {s : ByteArray} : SpecAt Try.prog 11 [.v (.pointer none), .v (.int .i64 k), .v (.string s)] H n (.v (.int .i64 1)) H n := ok3.pure t11 (by
  unfold m11
  simp -implicitDefEqProofs only [↓fnVC, initTm]
  simp -implicitDefEqProofs only [go_sem, ↓reduceIte, Nat.reduceEqDiff, Nat.reduceAdd, Nat.reduceMul, Nat.reduceLT, Nat.reduceLeDiff, Nat.reduceSub, Int.reduceToNat, Int.reduceLE, Int.reduceLT, reduceCtorEq, Int.reduceEq, Int.reduceGT, Int.reduceGE, Int.reduceNeg]
  refine at_call t27 atNil ?_
  simp -implicitDefEqProofs only [go_sem, ↓reduceIte, Nat.reduceEqDiff, Nat.reduceAdd, Nat.reduceMul, Nat.reduceLT, Nat.reduceLeDiff, Nat.reduceSub, Int.reduceToNat, Int.reduceLE, Int.reduceLT, reduceCtorEq, Int.reduceEq, Int.reduceGT, Int.reduceGE, Int.reduceNeg])
theorem baNil : SpecAt Try.prog 12 [.v (.pointer none)] H n (.v (.int .i64 1)) H n := ok3.pure t12 (by
  unfold m12
  simp -implicitDefEqProofs only [↓fnVC, initTm]
  simp -implicitDefEqProofs only [go_sem, ↓reduceIte, Nat.reduceEqDiff, Nat.reduceAdd, Nat.reduceMul, Nat.reduceLT, Nat.reduceLeDiff, Nat.reduceSub, Int.reduceToNat, Int.reduceLE, Int.reduceLT, reduceCtorEq, Int.reduceEq, Int.reduceGT, Int.reduceGE, Int.reduceNeg])
theorem faNil {k : Int} : SpecAt Try.prog 16 [.v (.pointer none), .v (.int .i64 k)] H n (.tup []) H n := ok3.pure t16 (by
  unfold m16
  simp -implicitDefEqProofs only [↓fnVC, initTm]
  simp -implicitDefEqProofs only [go_sem, ↓reduceIte, Nat.reduceEqDiff, Nat.reduceAdd, Nat.reduceMul, Nat.reduceLT, Nat.reduceLeDiff, Nat.reduceSub, Int.reduceToNat, Int.reduceLE, Int.reduceLT, reduceCtorEq, Int.reduceEq, Int.reduceGT, Int.reduceGE, Int.reduceNeg])
theorem cpNil : SpecAt Try.prog 13 [.v (.pointer none)] H n (.v (.pointer none)) H n := ok3.pure t13 (by
  unfold m13
  simp -implicitDefEqProofs only [↓fnVC, initTm]
  simp -implicitDefEqProofs only [go_sem, ↓reduceIte, Nat.reduceEqDiff, Nat.reduceAdd, Nat.reduceMul, Nat.reduceLT, Nat.reduceLeDiff, Nat.reduceSub, Int.reduceToNat, Int.reduceLE, Int.reduceLT, reduceCtorEq, Int.reduceEq, Int.reduceGT, Int.reduceGE, Int.reduceNeg])
theorem seNil : SpecAt Try.prog 26 [.v (.pointer none)] H n (.v (.int .i64 0)) H n := ok3.pure t26 (by
  unfold m26
  simp -implicitDefEqProofs only [↓fnVC, initTm]
  simp -implicitDefEqProofs only [go_sem, ↓reduceIte, Nat.reduceEqDiff, Nat.reduceAdd, Nat.reduceMul, Nat.reduceLT, Nat.reduceLeDiff, Nat.reduceSub, Int.reduceToNat, Int.reduceLE, Int.reduceLT, reduceCtorEq, Int.reduceEq, Int.reduceGT, Int.reduceGE, Int.reduceNeg])
theorem peNil : SpecAt Try.prog 19 [.v (.pointer none)] H n (.v (.int .i64 0)) H n := ok3.pure t19 (by
  unfold m19
  simp -implicitDefEqProofs only [↓fnVC, initTm]
  simp -implicitDefEqProofs only [go_sem, ↓reduceIte, Nat.reduceEqDiff, Nat.reduceAdd, Nat.reduceMul, Nat.reduceLT, Nat.reduceLeDiff, Nat.reduceSub, Int.reduceToNat, Int.reduceLE, Int.reduceLT, reduceCtorEq, Int.reduceEq, Int.reduceGT, Int.reduceGE, Int.reduceNeg])
theorem stNil : SpecAt Try.prog 18 [.v (.pointer none)] H n (.v (.int .i64 0)) H n := ok3.pure t18 (by
  unfold m18
  simp -implicitDefEqProofs only [↓fnVC, initTm]
  simp -implicitDefEqProofs only [go_sem, ↓reduceIte, Nat.reduceEqDiff, Nat.reduceAdd, Nat.reduceMul, Nat.reduceLT, Nat.reduceLeDiff, Nat.reduceSub, Int.reduceToNat, Int.reduceLE, Int.reduceLT, reduceCtorEq, Int.reduceEq, Int.reduceGT, Int.reduceGE, Int.reduceNeg])
theorem ofNil : SpecAt Try.prog 17 [.v (.pointer none)] H n (.v (.bool false)) H n := ok3.pure t17 (by
  unfold m17
  simp -implicitDefEqProofs only [↓fnVC, initTm]
  simp -implicitDefEqProofs only [go_sem, ↓reduceIte, Nat.reduceEqDiff, Nat.reduceAdd, Nat.reduceMul, Nat.reduceLT, Nat.reduceLeDiff, Nat.reduceSub, Int.reduceToNat, Int.reduceLE, Int.reduceLT, reduceCtorEq, Int.reduceEq, Int.reduceGT, Int.reduceGE, Int.reduceNeg])
theorem w8 {u k : Int} {s : ByteArray} {m : Nat} {b0 : Body} :
    fnVC C3 m8 [.agg [.v (.int .u8 u), .v (.int .i64 k), .v (.string s), .sl 1 0 m 1]] ⟨[(1, some ⟨false, b0⟩)], x⟩ 2 fun v H' n' => Sub 2 ⟨[(0, .v (.bool true))], ⟨[], x⟩, 2⟩ ⟨[(0, v)], H', n'⟩ := by
  unfold m8
  simp -implicitDefEqProofs only [↓fnVC, initTm]
  simp -implicitDefEqProofs only [go_sem, ↓reduceIte, Nat.reduceEqDiff, Nat.reduceAdd, Nat.reduceMul, Nat.reduceLT, Nat.reduceLeDiff, Nat.reduceSub, Int.reduceToNat, Int.reduceLE, Int.reduceLT, reduceCtorEq, Int.reduceEq, Int.reduceGT, Int.reduceGE, Int.reduceNeg]
  refine at_call t9 keS ?_
  simp -implicitDefEqProofs only [go_sem, ↓reduceIte, Nat.reduceEqDiff, Nat.reduceAdd, Nat.reduceMul, Nat.reduceLT, Nat.reduceLeDiff, Nat.reduceSub, Int.reduceToNat, Int.reduceLE, Int.reduceLT, reduceCtorEq, Int.reduceEq, Int.reduceGT, Int.reduceGE, Int.reduceNeg]
  refine at_call t16 faNil ?_
  simp -implicitDefEqProofs only [go_sem, ↓reduceIte, Nat.reduceEqDiff, Nat.reduceAdd, Nat.reduceMul, Nat.reduceLT, Nat.reduceLeDiff, Nat.reduceSub, Int.reduceToNat, Int.reduceLE, Int.reduceLT, reduceCtorEq, Int.reduceEq, Int.reduceGT, Int.reduceGE, Int.reduceNeg]
  refine in_call mix3 t15 ?_
  unfold m15
  simp -implicitDefEqProofs only [↓fnVC, initTm]
  simp -implicitDefEqProofs only [go_sem, ↓reduceIte, Nat.reduceEqDiff, Nat.reduceAdd, Nat.reduceMul, Nat.reduceLT, Nat.reduceLeDiff, Nat.reduceSub, Int.reduceToNat, Int.reduceLE, Int.reduceLT, reduceCtorEq, Int.reduceEq, Int.reduceGT, Int.reduceGE, Int.reduceNeg]
  refine at_call t14 rdNil ?_
  simp -implicitDefEqProofs only [go_sem, ↓reduceIte, Nat.reduceEqDiff, Nat.reduceAdd, Nat.reduceMul, Nat.reduceLT, Nat.reduceLeDiff, Nat.reduceSub, Int.reduceToNat, Int.reduceLE, Int.reduceLT, reduceCtorEq, Int.reduceEq, Int.reduceGT, Int.reduceGE, Int.reduceNeg, seq_nil]
  refine at_call t11 wrNil ?_
  simp -implicitDefEqProofs only [go_sem, ↓reduceIte, Nat.reduceEqDiff, Nat.reduceAdd, Nat.reduceMul, Nat.reduceLT, Nat.reduceLeDiff, Nat.reduceSub, Int.reduceToNat, Int.reduceLE, Int.reduceLT, reduceCtorEq, Int.reduceEq, Int.reduceGT, Int.reduceGE, Int.reduceNeg]
  refine at_call t12 baNil ?_
  simp -implicitDefEqProofs only [go_sem, ↓reduceIte, Nat.reduceEqDiff, Nat.reduceAdd, Nat.reduceMul, Nat.reduceLT, Nat.reduceLeDiff, Nat.reduceSub, Int.reduceToNat, Int.reduceLE, Int.reduceLT, reduceCtorEq, Int.reduceEq, Int.reduceGT, Int.reduceGE, Int.reduceNeg]
  refine at_call t26 seNil ?_
  simp -implicitDefEqProofs only [go_sem, ↓reduceIte, Nat.reduceEqDiff, Nat.reduceAdd, Nat.reduceMul, Nat.reduceLT, Nat.reduceLeDiff, Nat.reduceSub, Int.reduceToNat, Int.reduceLE, Int.reduceLT, reduceCtorEq, Int.reduceEq, Int.reduceGT, Int.reduceGE, Int.reduceNeg]
  refine at_call t19 peNil ?_
  simp -implicitDefEqProofs only [go_sem, ↓reduceIte, Nat.reduceEqDiff, Nat.reduceAdd, Nat.reduceMul, Nat.reduceLT, Nat.reduceLeDiff, Nat.reduceSub, Int.reduceToNat, Int.reduceLE, Int.reduceLT, reduceCtorEq, Int.reduceEq, Int.reduceGT, Int.reduceGE, Int.reduceNeg]
  refine at_call t18 stNil ?_
  simp -implicitDefEqProofs only [go_sem, ↓reduceIte, Nat.reduceEqDiff, Nat.reduceAdd, Nat.reduceMul, Nat.reduceLT, Nat.reduceLeDiff, Nat.reduceSub, Int.reduceToNat, Int.reduceLE, Int.reduceLT, reduceCtorEq, Int.reduceEq, Int.reduceGT, Int.reduceGE, Int.reduceNeg]
  refine at_call t17 ofNil ?_
  simp -implicitDefEqProofs only [go_sem, ↓reduceIte, Nat.reduceEqDiff, Nat.reduceAdd, Nat.reduceMul, Nat.reduceLT, Nat.reduceLeDiff, Nat.reduceSub, Int.reduceToNat, Int.reduceLE, Int.reduceLT, reduceCtorEq, Int.reduceEq, Int.reduceGT, Int.reduceGE, Int.reduceNeg]
  refine at_call t13 cpNil ?_
  simp -implicitDefEqProofs only [go_sem, ↓reduceIte, Nat.reduceEqDiff, Nat.reduceAdd, Nat.reduceMul, Nat.reduceLT, Nat.reduceLeDiff, Nat.reduceSub, Int.reduceToNat, Int.reduceLE, Int.reduceLT, reduceCtorEq, Int.reduceEq, Int.reduceGT, Int.reduceGE, Int.reduceNeg]
  exact sub_val rfl (by decide) (by decide) rfl
theorem s8 {u k : Int} {s : ByteArray} {m : Nat} {b0 : Body} :
    SpecAt Try.prog 8 [.agg [.v (.int .u8 u), .v (.int .i64 k), .v (.string s), .sl 1 0 m 1]] ⟨[(1, some ⟨false, b0⟩)], x⟩ 2 (.v (.bool true)) ⟨[], x⟩ 2 := ok3.spec t8 w8
end Go.Sx

/- Layer 3: a call (Op) that came in. -/
set_option linter.unusedVariables false
set_option linter.unusedSimpArgs false
set_option maxRecDepth 100000
namespace Go.Sx
open Go.Proofs Go.ChangeShapes Go.WideShapes Go.ChangeAt Go.RowKit
variable {H : Type} {enc : TypeId × Value → H} {W : World}

/-- The four cells of a call. -/
theorem op_cells {fuel : Nat} {cs : List Value} {x : DataW H × List MemPlace} (h : DataW.trod enc Try.prog W 0 (fun _ => true) true fuel 44 cs = some x) :
    ∃ (u k : Int) (s : ByteArray) (kv : Value) (n : Nat) (y : DataW H × List MemPlace), cs = [.int .u8 u, .int .i64 k, .string s, kv] ∧ (Lit.int .u8 u).wf = true ∧ (Lit.int .i64 k).wf = true ∧ DataW.trod enc Try.prog W 0 (fun _ => true) true n 33 [kv] = some y := by
  obtain ⟨xs, n, rfl, rfl, hl, hxl, hf⟩ := DataW.trod_struct Try.underlying44 h
  have h0 := hf 0 { name := "Kind", type := 5, offset := 0, embedded := false, tag := "", pkgPath := "", byteOffset := 0 } rfl
  have h1 := hf 1 { name := "N", type := 3, offset := 1, embedded := false, tag := "", pkgPath := "", byteOffset := 8 } rfl
  have h2 := hf 2 { name := "Text", type := 9, offset := 2, embedded := false, tag := "", pkgPath := "", byteOffset := 16 } rfl
  have h3 := hf 3 { name := "Fate", type := 35, offset := 3, embedded := false, tag := "", pkgPath := "", byteOffset := 32 } rfl
  have c5 : Try.prog.cellsOf 5 = 1 := by kernel_rfl
  have c3 : Try.prog.cellsOf 3 = 1 := by kernel_rfl
  have c9 : Try.prog.cellsOf 9 = 1 := by kernel_rfl
  have c35 : Try.prog.cellsOf 35 = 1 := by kernel_rfl
  have c44 : Try.prog.cellsOf 44 = 4 := by kernel_rfl
  rw [c44] at hl
  match cs, hl with
  | [a, b, c, d], _ =>
    simp only [c5, c3, c9, c35, List.drop_succ_cons, List.drop_zero, List.take_succ_cons, List.take_zero] at h0 h1 h2 h3
    have g : ∀ i, i < 4 → ∃ y, xs[i]? = some y := fun i hi => ⟨_, List.getElem?_eq_getElem (by rw [hxl]; exact hi)⟩
    obtain ⟨y0, g0⟩ := g 0 (by decide)
    obtain ⟨y1, g1⟩ := g 1 (by decide)
    obtain ⟨y2, g2⟩ := g 2 (by decide)
    obtain ⟨y3, g3⟩ := g 3 (by decide)
    rw [g0] at h0
    rw [g1] at h1
    rw [g2] at h2
    rw [g3] at h3
    obtain ⟨u, e0, hu⟩ := DataW.trod_int Try.underlying5 h0
    obtain ⟨k, e1, hk⟩ := DataW.trod_int Try.underlying3 h1
    obtain ⟨s, e2, hs⟩ := DataW.trod_string Try.underlying9 h2
    obtain ⟨xs', n', rfl, e3, hl', hxl', hf'⟩ := DataW.trod_struct Try.underlying35 h3
    have h4 := hf' 0 { name := "Keep", type := 33, offset := 0, embedded := false, tag := "", pkgPath := "", byteOffset := 0 } rfl
    have c33 : Try.prog.cellsOf 33 = 1 := by kernel_rfl
    simp only [c33, List.drop_zero, List.take_succ_cons, List.take_zero] at h4
    obtain ⟨y4, g4⟩ : ∃ y, xs'[0]? = some y := ⟨_, List.getElem?_eq_getElem (by rw [hxl']; decide)⟩
    rw [g4] at h4
    simp only [List.cons.injEq, and_true] at e0 e1 e2
    subst e0; subst e1; subst e2
    exact ⟨u, k, s, d, _, _, rfl, hu.2, hk.2, h4⟩
/-- A slice of numbers in a cell. -/
theorem in_ints {b0 t e : TypeId} {P : Program} {v : Value} {fuel : Nat} {y : DataW H × List MemPlace} {ρ : Nat → Loc} {n : Nat} {Hs : Hp} {k : IntKind}
    (ht : P.underlying t = some (.slice e)) (he : P.underlying e = some (.int k)) (hc : P.cellsOf e = 1) (hval : Value.okWide P W .any b0 t v)
    (h0 : DataW.trod enc P W 0 (fun _ => true) true fuel t [v] = some y) (hH : HRel (· < W.heap.size) W ρ n Hs W) (hn : n < 1000) (hro : ∀ i s, Hs.get i = some s → s.wr = false) :
    ∃ (l : Loc) (zs : List Int) (m : Nat), HRel (· < W.heap.size) W (upd ρ n l) (n + 1) (Hs.put n ⟨false, .ints k zs⟩) W ∧ (∀ i s, (Hs.put n ⟨false, .ints k zs⟩).get i = some s → s.wr = false) ∧ slrel l 0 m 1 v ∧ m ≤ zs.length := by
  obtain ⟨a0, len, cap, rfl⟩ := okWide_slice ht hval
  rcases open_ints ht he hc h0 with ⟨hcs, hx⟩ | ⟨a, len', cap', zs, hcs, _, hl, hm, hz, hx, hcell, hws⟩
  · cases hcs
    refine ⟨⟨none, 0, 0⟩, [], 0, hrel_in hH hn _ _ rfl rfl (fun k hk => by cases hk) hro, ?_, ⟨rfl, .inl rfl⟩, Nat.le_refl _⟩
    intro i s h
    rw [Hp.get_put] at h
    split at h
    · cases h; rfl
    · exact hro i s h
  · cases hcs
    replace hz : zs.length = cap := by simpa using hz
    obtain ⟨hs, c, T, fr, hb⟩ := spot_none ht hval
    obtain ⟨l, g1, g2, g3⟩ := hrel_row (b := .ints k zs) (vs := zs.map (Value.int k)) (z := 1) hH hn hro (by decide) hs hb hl (by simp [hz]) (fun i hi => by
      have hi' : i < zs.length := by simpa using hi
      rw [hcell i hi', List.getElem?_map, List.getD_eq_getElem?_getD, List.getElem?_eq_getElem hi']; rfl) rfl (by simp) (by
        have := all2_v_mk (ρ := ρ) (zs.map (Value.int k)); simpa [Body.cells, Function.comp_def] using this)
    exact ⟨l, zs, len, g1, g2, g3, by omega⟩
/-- The slice in a call that came in by value. -/
theorem op_keep {b0 : Nat} {cs : Array Value} {a b c kv : Value} (hval : Value.okWide Try.prog W .any b0 44 (.agg cs)) (hcs : cs.toList = [a, b, c, kv]) : Value.okWide Try.prog W .any b0 33 kv := by
  simp only [Value.okWide, Try.underlying44] at hval
  obtain ⟨cs', e, hsz, ts, hts, _, hrow⟩ := hval
  cases e
  have ht : Try.prog.cellTypes Try.prog.depth 44 = some [5, 3, 9, 33] := by kernel_rfl
  rw [ht] at hts
  cases hts
  obtain ⟨u, hu, hc⟩ := hrow 3 kv (by rw [← Array.getElem?_toList, hcs]; rfl)
  cases hu
  simp only [Value.okWide, Try.underlying33]
  exact hc
end Go.Sx

/- Layer 3: slices of calls (Op) that came in. -/
set_option linter.unusedVariables false
set_option linter.unusedSimpArgs false
set_option maxRecDepth 100000
namespace Go.Sx
open Go.Proofs Go.ChangeShapes Go.WideShapes Go.ChangeAt Go.RowKit Go.Deep
variable {H : Type} {enc : TypeId × Value → H} {W : World}

theorem cells?_get {W : World} {b n : Nat} {a : Addr} {cs : List Value} (h : W.cells? b a n = some cs) (i : Nat) (hi : i < n) : W.cell? (a.add i) = cs[i]? := by
  unfold World.cells? at h
  split at h
  · exact mapM_some_get h i i (by simp [hi])
  · cases h
/-- A slice of numbers that lies in a cell. -/
structure KV (W : World) (l : Loc) (zs : List Int) (m : Nat) (kv : Value) : Prop where
  row : ∀ ρ, ObjOK ρ W l ⟨false, .ints .i64 zs⟩
  live : ∀ k, l.blk = some k → k < W.heap.size
  sl : slrel l 0 m 1 kv
  len : m ≤ zs.length
theorem in_kv {fuel : Nat} {kv : Value} {y : DataW H × List MemPlace} (h0 : DataW.trod enc Try.prog W 0 (fun _ => true) true fuel 33 [kv] = some y) : ∃ l zs m, KV W l zs m kv := by
  rcases open_ints Try.underlying33 Try.underlying3 (by kernel_rfl) h0 with ⟨hcs, hx⟩ | ⟨a, len, cap, zs, hcs, _, hl, hm, hz, hx, hcell, hws⟩
  · cases hcs
    exact ⟨⟨none, 0, 0⟩, [], 0, fun ρ => rfl, fun k hk => (by cases hk), ⟨rfl, .inl rfl⟩, Nat.le_refl _⟩
  · cases hcs
    replace hz : zs.length = cap := by simpa using hz
    by_cases h00 : cap = 0
    · subst h00
      have : len = 0 := by omega
      subst this
      exact ⟨⟨none, 0, 1⟩, [], 0, fun ρ => rfl, fun k hk => (by cases hk), ⟨rfl, .inr ⟨by decide, a, rfl⟩⟩, Nat.le_refl _⟩
    · have hc0 := hcell 0 (by omega)
      have hs : a.spot = none := by
        have := World.cell?_spot hc0
        simpa [Addr.add] using this
      obtain ⟨c, T, fr, hb⟩ : ∃ c T fr, W.heap[a.block]? = some (.cells c T fr) := by
        have e : a.add 0 = a := by simp [Addr.add]
        rw [e] at hc0
        unfold World.cell? at hc0
        split at hc0
        · rename_i c T fr hb; exact ⟨c, T, fr, hb⟩
        · cases hc0
      have hsz : a.off + zs.length ≤ c.size := by
        have := hcell (zs.length - 1) (by omega)
        rw [cell_at hs hb] at this
        have := (Array.getElem?_eq_some_iff.1 this).1
        omega
      refine ⟨⟨some a.block, a.off, cap⟩, zs, len, fun ρ => ?_, fun k hk => (by cases hk; exact (Array.getElem?_eq_some_iff.1 hb).1), ?_, by omega⟩
      · refine ⟨c, T, fr, hb, by simp only; omega, by simp [Body.cells, hz], ?_, fun h => by cases h⟩
        intro j x hj
        simp only [Body.cells, List.getElem?_map] at hj
        have hj' : j < zs.length := by
          cases hq : zs[j]? with
          | none => rw [hq] at hj; cases hj
          | some q => exact (List.getElem?_eq_some_iff.1 hq).1
        refine ⟨.int .i64 (zs.getD j 0), by rw [← cell_at hs hb]; exact hcell j hj', ?_⟩
        rw [List.getElem?_eq_getElem hj'] at hj
        simp only [Option.map_some, Option.some.injEq] at hj
        subst hj
        simp [crel, arel, List.getD_eq_getElem?_getD, List.getElem?_eq_getElem hj']
      · refine ⟨cap, a.off, hl, by simp, fun h => by simp, ?_⟩
        cases a; cases hs; rfl
/-- A call that came in. -/
structure OpV where
  u : Int
  k : Int
  s : ByteArray
  zs : List Int
  m : Nat
def ocell (id : Nat) (o : OpV) : List SV := [.v (.int .u8 o.u), .v (.int .i64 o.k), .v (.string o.s), .sl id 0 o.m 1]
def orow (A : Nat) : Nat → List OpV → List SV
  | _, [] => []
  | j, o :: r => ocell (1000 + 4 * j + A) o ++ orow A (j + 1) r
theorem orow_len {A : Nat} : ∀ {l : List OpV} {j : Nat}, (orow A j l).length = l.length * 4
  | [], _ => rfl
  | o :: r, j => by simp only [orow, List.length_append, orow_len, ocell, List.length_cons, List.length_nil]; omega
theorem orow_at {A : Nat} {o0 : OpV} : ∀ {l : List OpV} {j0 j : Nat}, j < l.length → ((orow A j0 l).drop (j * 4)).take 4 = ocell (1000 + 4 * (j0 + j) + A) (l.getD j o0)
  | [], _, _, h => by simp at h
  | o :: r, j0, 0, _ => by simp [orow, ocell]
  | o :: r, j0, j + 1, h => by
    have := orow_at (A := A) (o0 := o0) (l := r) (j0 := j0 + 1) (j := j) (by simpa using h)
    have e : (orow A j0 (o :: r)).drop ((j + 1) * 4) = (orow A (j0 + 1) r).drop (j * 4) := by
      rw [show (j + 1) * 4 = 4 + j * 4 by omega, ← List.drop_drop]; rfl
    rw [e, this, show j0 + 1 + j = j0 + (j + 1) by omega]; rfl
/-- Its numbers. -/
def OpV.rng (o : OpV) : Prop := (0 ≤ o.u ∧ o.u ≤ 255) ∧ -9223372036854775808 ≤ o.k ∧ o.k ≤ 9223372036854775807
/-- The cells of the calls of a slice. -/
structure OpsIn (W : World) (v : Value) (ops : List OpV) (m : Nat) (lf : Nat → Loc) : Prop where
  lem : m ≤ ops.length
  rng : ∀ j, j < ops.length → (ops.getD j ⟨0, 0, .empty, [], 0⟩).rng
  ok : ∃ vs : List Value, vs.length = ops.length * 4 ∧ (∀ j, j < ops.length → ∃ kv, (vs.drop (j * 4)).take 4 = [.int .u8 (ops.getD j ⟨0, 0, .empty, [], 0⟩).u, .int .i64 (ops.getD j ⟨0, 0, .empty, [], 0⟩).k, .string (ops.getD j ⟨0, 0, .empty, [], 0⟩).s, kv] ∧
      KV W (lf j) (ops.getD j ⟨0, 0, .empty, [], 0⟩).zs (ops.getD j ⟨0, 0, .empty, [], 0⟩).m kv) ∧
    ((v = .slice none 0 0 ∧ ops = [] ∧ m = 0) ∨ ∃ a c T fr, v = .slice (some a) m ops.length ∧ a.spot = none ∧ W.heap[a.block]? = some (.cells c T fr) ∧ ∀ i, i < vs.length → W.cell? (a.add i) = vs[i]?)
theorem in_ops {b0 : Nat} {v : Value} {d : DataW H} {ps : List MemPlace} (hval : Value.okWide Try.prog W .any b0 42 v) (h0 : DataW.Trod enc Try.prog W 0 (fun _ => true) true 42 v d ps) : ∃ ops m lf, OpsIn W v ops m lf := by
  obtain ⟨a0, len, cap, rfl⟩ := okWide_slice Try.underlying42 hval
  obtain ⟨fuel, hf⟩ := h0
  rcases open_slice Try.underlying42 hf with ⟨hcs, hx⟩ | ⟨a, len', cap', m, n', D, Pl, hcs, _, hl, hm, hmm, hx, hall⟩
  · simp only [Value.cells] at hcs
    cases hcs
    exact ⟨[], 0, fun _ => ⟨none, 0, 0⟩, Nat.le_refl _, fun j hj => (by simp at hj), [], rfl, fun j hj => (by simp at hj), .inl ⟨rfl, rfl, rfl⟩⟩
  · simp only [Value.cells] at hcs
    cases hcs
    simp only [if_true] at hmm
    subst hmm
    obtain ⟨hs, c, T, fr, hb⟩ := spot_none Try.underlying42 hval
    have c44 : Try.prog.cellsOf 44 = 4 := by kernel_rfl
    rw [c44] at hall
    have each : ∀ j, ∃ (o : OpV) (l : Loc) (kv : Value), j < m → W.cells? 0 (a.add (j * 4)) 4 = some [.int .u8 o.u, .int .i64 o.k, .string o.s, kv] ∧ KV W l o.zs o.m kv ∧ o.rng := by
      intro j
      by_cases hj : j < m
      · obtain ⟨cs', g1, g2⟩ := hall j hj
        obtain ⟨u, k, s, kv, n'', y, rfl, hu, hi, hk⟩ := op_cells g2
        obtain ⟨l, zs, q, hkv⟩ := in_kv hk
        exact ⟨⟨u, k, s, zs, q⟩, l, kv, fun _ => ⟨g1, hkv, by simpa [Lit.wf, IntKind.min, IntKind.max, IntKind.signed, IntKind.bits] using hu, by simpa [Lit.wf, IntKind.min, IntKind.max, IntKind.signed, IntKind.bits] using hi⟩⟩
      · exact ⟨⟨0, 0, .empty, [], 0⟩, ⟨none, 0, 0⟩, .bool false, fun h => absurd h hj⟩
    obtain ⟨of, hof⟩ := Classical.axiomOfChoice each
    obtain ⟨lf, hlf⟩ := Classical.axiomOfChoice hof
    obtain ⟨kf, hkf⟩ := Classical.axiomOfChoice hlf
    have hget : ∀ j, j < m → ((List.range m).map of).getD j ⟨0, 0, .empty, [], 0⟩ = of j := fun j hj => by
      rw [List.getD_eq_getElem?_getD, List.getElem?_map, List.getElem?_range hj]; rfl
    refine ⟨(List.range m).map of, len, lf, by simp; exact hl, fun j hj => by rw [hget j (by simpa using hj)]; exact (hkf j (by simpa using hj)).2.2, ((List.range m).map fun j => [Value.int .u8 (of j).u, .int .i64 (of j).k, .string (of j).s, kf j]).flatten, ?_, ?_, .inr ⟨a, c, T, fr, by simp, hs, hb, ?_⟩⟩
    · rw [flat_len (z := 4) (by intro s hs; simp at hs; obtain ⟨j, _, rfl⟩ := hs; rfl)]; simp
    · intro j hj
      have hj' : j < m := by simpa using hj
      refine ⟨kf j, ?_, ?_⟩
      · rw [flat_take (z := 4) (by intro s hs; simp at hs; obtain ⟨j, _, rfl⟩ := hs; rfl) (by simpa using hj'), hget j hj', List.getD_eq_getElem?_getD, List.getElem?_map, List.getElem?_range hj']; rfl
      · rw [hget j hj']; exact (hkf j hj').2.1
    · intro i hi
      rw [flat_len (z := 4) (by intro s hs; simp at hs; obtain ⟨j, _, rfl⟩ := hs; rfl)] at hi
      simp only [List.length_map, List.length_range] at hi
      have hj : i / 4 < m := by omega
      have h1 := (hkf (i / 4) hj).1
      have h2 := flat_take (z := 4) (l := (List.range m).map fun j => [Value.int .u8 (of j).u, .int .i64 (of j).k, .string (of j).s, kf j]) (j := i / 4) (by intro s hs; simp at hs; obtain ⟨j, _, rfl⟩ := hs; rfl) (by simpa using hj)
      rw [List.getD_eq_getElem?_getD, List.getElem?_map, List.getElem?_range hj] at h2
      simp only [Option.map_some, Option.getD_some] at h2
      have h3 : (((List.range m).map fun j => [Value.int .u8 (of j).u, .int .i64 (of j).k, .string (of j).s, kf j]).flatten)[i]? = [Value.int .u8 (of (i / 4)).u, .int .i64 (of (i / 4)).k, .string (of (i / 4)).s, kf (i / 4)][i % 4]? := by
        rw [← h2, List.getElem?_take, if_pos (Nat.mod_lt _ (by decide)), List.getElem?_drop]
        congr 1; omega
      rw [h3]
      have h4 := cells?_get h1 (i % 4) (Nat.mod_lt _ (by decide))
      rw [← h4]
      rw [cell_at hs hb]
      obtain ⟨s1, s2, s3⟩ := add_spot hs (i / 4 * 4)
      rw [cell_at (a := a.add (i / 4 * 4)) s1 (by rw [s2]; exact hb), s3]
      congr 1; omega
/-- A row that came in, and where it lies. -/
theorem row_loc {a : Addr} {len cap z : Nat} {c : Array Value} {T : TypeId} {fr : Nat × Nat} {vs : List Value} (hz0 : 0 < z) (hs : a.spot = none) (hb : W.heap[a.block]? = some (.cells c T fr)) (hl : len ≤ cap)
    (hvs : vs.length = cap * z) (hcell : ∀ i, i < vs.length → W.cell? (a.add i) = vs[i]?) :
    ∃ l : Loc, (∀ (ρ : Nat → Loc) (b : Body), (∀ es, b ≠ .mp es) → All2 (crel ρ) b.cells vs → ObjOK ρ W l ⟨false, b⟩) ∧ (∀ k, l.blk = some k → k < W.heap.size) ∧ slrel l 0 len z (.slice (some a) len cap) := by
  have hblk : a.block < W.heap.size := (Array.getElem?_eq_some_iff.1 hb).1
  have hsz : vs.length ≠ 0 → a.off + vs.length ≤ c.size := by
    intro h
    have := hcell (vs.length - 1) (by omega)
    rw [cell_at hs hb, List.getElem?_eq_getElem (by omega)] at this
    have := (Array.getElem?_eq_some_iff.1 this).1
    omega
  have hobj : ∀ (ρ : Nat → Loc) (l : Loc) (b : Body), (∀ es, b ≠ .mp es) → RowOK ρ W l false b.cells → ObjOK ρ W l ⟨false, b⟩ := by
    intro ρ l b hnm h
    unfold ObjOK
    cases hbb : b with
    | mp es => exact absurd hbb (hnm es)
    | _ => simp only [hbb] at h ⊢; exact h
  by_cases h00 : vs.length = 0
  · refine ⟨⟨some a.block, 0, 0⟩, fun ρ b hnm hcr => hobj ρ _ b hnm ?_, fun k hk => (by cases hk; exact hblk), ?_⟩
    · have hlen := hcr.length
      refine ⟨c, T, fr, hb, Nat.zero_le _, by rw [hlen, h00]; exact Nat.le_refl _, ?_, fun h => by cases h⟩
      intro j x hj
      have : j < b.cells.length := (List.getElem?_eq_some_iff.1 hj).1
      omega
    · have hc : cap = 0 := by
        rcases Nat.mul_eq_zero.1 (hvs ▸ h00) with h | h
        · exact h
        · omega
      refine ⟨cap, a.off, hl, by simp [hc], fun h => absurd hc h, ?_⟩
      cases a; cases hs; rfl
  · refine ⟨⟨some a.block, a.off, cap * z⟩, fun ρ b hnm hcr => hobj ρ _ b hnm ?_, fun k hk => (by cases hk; exact hblk), ?_⟩
    · have hlen := hcr.length
      refine ⟨c, T, fr, hb, by simp only; have := hsz h00; omega, by simp only; omega, ?_, fun h => by cases h⟩
      intro j x hj
      have hj' : j < vs.length := by rw [← hlen]; exact (List.getElem?_eq_some_iff.1 hj).1
      obtain ⟨y, hy, hr⟩ := hcr.get hj
      exact ⟨y, by rw [← cell_at hs hb, hcell j hj', hy], hr⟩
    · refine ⟨cap, a.off, hl, by simp, fun h => by simp, ?_⟩
      cases a; cases hs; rfl
/-- What lies outside: the slices in the calls (A: which argument), and the arguments' rows (behind A = 3). -/
def argX (opsA : Nat → List OpV) (rb : Nat → Option Body) (i : Nat) : Option SO :=
  if i < 1000 then none else if (i - 1000) % 4 = 3 then (rb ((i - 1000) / 4)).map (fun b => ⟨false, b⟩)
  else if (i - 1000) / 4 < (opsA ((i - 1000) % 4)).length then some ⟨false, .ints .i64 ((opsA ((i - 1000) % 4)).getD ((i - 1000) / 4) ⟨0, 0, .empty, [], 0⟩).zs⟩ else none
def argR (lfA : Nat → Nat → Loc) (lr : Nat → Loc) (i : Nat) : Loc := if i < 1000 then ⟨none, 0, 0⟩ else if (i - 1000) % 4 = 3 then lr ((i - 1000) / 4) else lfA ((i - 1000) % 4) ((i - 1000) / 4)
theorem argX_at {opsA : Nat → List OpV} {rb : Nat → Option Body} {j A : Nat} (hA : A < 3) (hj : j < (opsA A).length) : argX opsA rb (1000 + 4 * j + A) = some ⟨false, .ints .i64 ((opsA A).getD j ⟨0, 0, .empty, [], 0⟩).zs⟩ := by
  unfold argX
  rw [if_neg (by omega), show (1000 + 4 * j + A - 1000) / 4 = j by omega, show (1000 + 4 * j + A - 1000) % 4 = A by omega, if_neg (by omega), if_pos hj]
theorem argX_row {opsA : Nat → List OpV} {rb : Nat → Option Body} {j : Nat} {b : Body} (h : rb j = some b) : argX opsA rb (1003 + 4 * j) = some ⟨false, b⟩ := by
  unfold argX
  rw [if_neg (by omega), show (1003 + 4 * j - 1000) / 4 = j by omega, if_pos (by omega), h]; rfl
theorem argR_at {lfA : Nat → Nat → Loc} {lr : Nat → Loc} {j A : Nat} (hA : A < 3) : argR lfA lr (1000 + 4 * j + A) = lfA A j := by
  unfold argR
  rw [if_neg (by omega), show (1000 + 4 * j + A - 1000) / 4 = j by omega, show (1000 + 4 * j + A - 1000) % 4 = A by omega, if_neg (by omega)]
theorem argR_row {lfA : Nat → Nat → Loc} {lr : Nat → Loc} {j : Nat} : argR lfA lr (1003 + 4 * j) = lr j := by
  unfold argR
  rw [if_neg (by omega), show (1003 + 4 * j - 1000) / 4 = j by omega, if_pos (by omega)]
theorem hrel_args {opsA : Nat → List OpV} {lfA : Nat → Nat → Loc} {vA : Nat → Value} {mA : Nat → Nat} {rb : Nat → Option Body} {lr : Nat → Loc} (h : ∀ A, A < 3 → OpsIn W (vA A) (opsA A) (mA A) (lfA A))
    (hr : ∀ j b, rb j = some b → b.lt 1 = true ∧ (∀ k, (lr j).blk = some k → k < W.heap.size) ∧ ObjOK (argR lfA lr) W (lr j) ⟨false, b⟩) :
    HRel (· < W.heap.size) W (argR lfA lr) 1 ⟨[], argX opsA rb⟩ W := by
  have hx : ∀ i s, argX opsA rb i = some s → 1000 ≤ i ∧ s.wr = false ∧ s.b.lt 1 = true ∧ ObjOK (argR lfA lr) W (argR lfA lr i) s ∧ ∀ k, (argR lfA lr i).blk = some k → k < W.heap.size := by
    intro i s hs
    unfold argX at hs
    split at hs
    · cases hs
    · rename_i hi
      split at hs
      · rename_i h3
        rw [Option.map_eq_some_iff] at hs
        obtain ⟨b, hb, rfl⟩ := hs
        obtain ⟨e1, e2, e3⟩ := hr _ b hb
        have e : argR lfA lr i = lr ((i - 1000) / 4) := by unfold argR; rw [if_neg hi, if_pos h3]
        rw [e]
        exact ⟨by omega, rfl, e1, e3, e2⟩
      · rename_i h3
        split at hs
        · rename_i hj
          cases hs
          obtain ⟨vs, _, hv, _⟩ := (h ((i - 1000) % 4) (by have := Nat.mod_lt (i - 1000) (by decide : 0 < 4); omega)).ok
          obtain ⟨kv, _, hk⟩ := hv _ hj
          have e : argR lfA lr i = lfA ((i - 1000) % 4) ((i - 1000) / 4) := by unfold argR; rw [if_neg hi, if_neg h3]
          rw [e]
          exact ⟨by omega, rfl, rfl, hk.row _, hk.live⟩
        · cases hs
  have hg : ∀ i, Hp.get ⟨[], argX opsA rb⟩ i = argX opsA rb i := fun i => rfl
  refine { os := rfl, tape := rfl, output := rfl, size := Nat.le_refl _, keep := fun _ _ => rfl, old := fun _ h => h, nil := ⟨rfl, rfl⟩, pos := by omega, obj := ?_, lt := ?_, own := ?_, inj := ?_, live := ?_, xok := ?_ }
  · exact fun i s hs => (hx i s (hg i ▸ hs)).2.2.2.1
  · intro i s hs
    obtain ⟨h1, _, h2, _, _⟩ := hx i s (hg i ▸ hs)
    exact ⟨by unfold idOK; simp; omega, h2⟩
  · intro i s b hs hw
    rw [(hx i s (hg i ▸ hs)).2.1] at hw; cases hw
  · intro i j s s' b _ hs _ hw
    rw [(hx i s (hg i ▸ hs)).2.1] at hw; cases hw
  · exact fun i s b hs hb => (hx i s (hg i ▸ hs)).2.2.2.2 b hb
  · intro i s hs
    obtain ⟨h1, h2, h3, _, _⟩ := hx i s hs
    exact ⟨h1, h2, h3, rfl⟩
theorem orow_lt {A n : Nat} : ∀ {l : List OpV} {j : Nat}, (orow A j l).all (ltB n) = true
  | [], _ => rfl
  | o :: r, j => by
    simp only [orow, List.all_append, orow_lt, Bool.and_true, ocell, List.all_cons, List.all_nil, ltB, ltA, idOK]
    simp; omega
/-- The row of the calls. -/
theorem ops_loc {A m : Nat} {v : Value} {ops : List OpV} {lf : Nat → Loc} (h : OpsIn W v ops m lf) :
    ∃ l : Loc, (∀ ρ : Nat → Loc, (∀ j, ρ (1000 + 4 * j + A) = lf j) → ObjOK ρ W l ⟨false, .sv (orow A 0 ops)⟩) ∧ (∀ k, l.blk = some k → k < W.heap.size) ∧ slrel l 0 m 4 v := by
  obtain ⟨hm, _, vs, hvl, hv, hcase⟩ := h
  rcases hcase with ⟨rfl, rfl, rfl⟩ | ⟨a, c, T, fr, rfl, hs, hb, hcell⟩
  · exact ⟨⟨none, 0, 0⟩, fun ρ _ => rfl, fun k hk => (by cases hk), ⟨rfl, .inl rfl⟩⟩
  · obtain ⟨l, g1, g2, g3⟩ := row_loc (vs := vs) (z := 4) (by decide) hs hb hm (by omega) hcell
    refine ⟨l, fun ρ hρ => g1 ρ _ (by simp) ?_, g2, g3⟩
    refine All2.of_get (by simp only [Body.cells]; rw [orow_len, hvl]) fun i x hx => ?_
    simp only [Body.cells] at hx
    have hi : i < ops.length * 4 := by rw [← orow_len (A := A) (l := ops) (j := 0)]; exact (List.getElem?_eq_some_iff.1 hx).1
    have hj : i / 4 < ops.length := by omega
    obtain ⟨kv, h1, h2⟩ := hv (i / 4) hj
    have h3 := orow_at (A := A) (o0 := ⟨0, 0, .empty, [], 0⟩) (l := ops) (j0 := 0) hj
    have e1 : (orow A 0 ops)[i]? = (ocell (1000 + 4 * (0 + i / 4) + A) (ops.getD (i / 4) ⟨0, 0, .empty, [], 0⟩))[i % 4]? := by
      rw [← h3, List.getElem?_take, if_pos (Nat.mod_lt _ (by decide)), List.getElem?_drop]; congr 1; omega
    have e2 : vs[i]? = [Value.int .u8 (ops.getD (i / 4) ⟨0, 0, .empty, [], 0⟩).u, .int .i64 (ops.getD (i / 4) ⟨0, 0, .empty, [], 0⟩).k, .string (ops.getD (i / 4) ⟨0, 0, .empty, [], 0⟩).s, kv][i % 4]? := by
      rw [← h1, List.getElem?_take, if_pos (Nat.mod_lt _ (by decide)), List.getElem?_drop]; congr 1; omega
    rw [e1] at hx
    rw [e2]
    have hid : ρ (1000 + 4 * (0 + i / 4) + A) = lf (i / 4) := by rw [Nat.zero_add]; exact hρ _
    generalize ops.getD (i / 4) ⟨0, 0, .empty, [], 0⟩ = o at hx h2 ⊢
    have h4 : i % 4 = 0 ∨ i % 4 = 1 ∨ i % 4 = 2 ∨ i % 4 = 3 := by omega
    rcases h4 with h4 | h4 | h4 | h4 <;> rw [h4] at hx ⊢ <;> simp only [ocell, List.getElem?_cons_zero, List.getElem?_cons_succ, Option.some.injEq] at hx ⊢ <;> subst hx
    · exact ⟨_, rfl, rfl⟩
    · exact ⟨_, rfl, rfl⟩
    · exact ⟨_, rfl, rfl⟩
    · refine ⟨_, rfl, ?_⟩
      show slrel (ρ (1000 + 4 * (0 + i / 4) + A)) 0 o.m 1 kv
      rw [hid]; exact h2.sl
end Go.Sx

/- Layer 3: FlashKeeps. -/
set_option linter.unusedVariables false
set_option linter.unusedSimpArgs false
set_option maxRecDepth 100000
namespace Go.Sx
attribute [local go_sem ↓] bind_mk intsB_mk strsB_mk svB_mk fnVC ob_some vc_skip vc_exit vc_ret vc_seq vc_block kSeq_normal kSeq_exit kSeq_ret kBlock_normal kBlock_exit kBlock_ret vc_reg vc_regD vc_cond condK_true condK_false vc_loop kLoop_exit kLoop_ret kRoll_normal kRoll_exit kRoll_ret vcOps_nil vcOps_cons gd_bool gd_undef put_some put_none vcT_fin vcT_pure vcT_act vcT_acts vcT_stop stab_none stab_some stabM_nil stabM_cons stabO_ld stabO_ldn stabO_slP stabO_b2s fldOf_ai fldOf_agg fldOf_ait fldOf_aggt intsOf_nil intsOf_cons strsOf_nil strsOf_cons c_omap ob_if lk_nil lk_cons ev_t ev_k z_mov z_pick z_bin z_binB z_binP z_un z_conv z_s2b z_b2s z_alloc z_bld z_bldI z_rowI z_rowS z_ld z_ldn z_st z_stn asN_ptr asN_fn z_nilck z_fld z_fadr z_idxA z_idxP z_idxS z_idxV z_slS z_slL z_slP z_mk z_lenS z_lenL z_app z_appS z_appZ z_cpyS z_mkfn reps_int reps_str z_rowV z_slnil nilK_zero z_cpy z_call asT_tup z_extT z_box boxOf_ai boxOf_agg boxOf_int boxOf_str boxOf_bool boxOf_ptr boxOf_sl sbin_int sbin_str sbinB_mk sbinP_nn sbinP_pn sbinP_np i_add i_sub i_mul i_quo i_rem i_and i_or i_xor i_andNot i_shl i_shr i_eql i_neq i_lss i_leq i_gtr i_geq st_add st_eql st_neq st_lss st_leq st_gtr st_geq bo_eql bo_neq pt_eql pt_neq un_neg un_xor un_not asI_mk asB_mk asS_mk asP_mk asSl_mk asBy_mk bnd_none bnd_some get_mk hput_mk hdel_mk kill_eq wrOf_eq rowOf_eq rsvs_0 rsvs_1 rsvs_2 rsvs_3 rsv_t rsv_c1 rsv_cn nt_v nt_ptr nt_sl nt_agg nt_ai get_ints get_strs get_pl get_sv getN_ints getN_sv set_ints set_strs set_sv setN_ints setN_sv part_ints part_strs part_sv cat_ints cat_strs cat_sv over_ints ones_ints ones_strs evs_nil evs_cons condK_eqt condK_eqf det_callP V_ns V_nn V_gs V_gn obC_mk fresh_ev setN_plagg setN_intsv setN_svai setN_svagg over_intsv set_pl setN_pl setN_plai getN_pl getN_strs part_pl cat_pl over_pl over_plints z_mm
attribute [local go_sem] initTm ne_eq not_true_eq_false not_false_eq_true true_and and_true List.length_cons List.length_nil Int.toNat_natCast Nat.add_zero Nat.zero_add Nat.mul_one List.getElem?_cons_zero List.drop_zero List.take_length List.take_succ_cons List.take_zero List.take_nil List.drop_succ_cons Option.map_some Nat.le_refl implies_true List.getElem?_cons_succ decide_true decide_false Bool.not_true Bool.not_false beq_self_eq_true Nat.succ_ne_self Nat.one_ne_zero Nat.zero_ne_one vk_mk hk_mk nk_mk tok_eq plsOf_map intsOf_map bodyOf_pl bodyOf_ints bodyOf_strs bodyOf_sv part_aggv part_agg part_ai part_int part_str part_bool part_sl part_ptr part_nil numsOf_map u_int u_str u_bool u_pnil u_sl u_ptr u_oci u_ocs evq_nil evq_cons fillS_nil fillS_cons u_ocb ones_pl cells_sv cells_ints cells_strs cells_pl smms_nil smms_cons smm_min smm_max plsOf_nil List.nil_append List.all_cons List.all_nil Bool.and_self Bool.true_and Bool.and_true zws_len zw_len zi_len List.set_cons_zero List.set_cons_succ List.flatMap_cons List.flatMap_nil List.append_nil
open Go.Proofs
variable {H : Hp} {n : Nat} {x : Nat → Option SO} {d d' : Fd} {i a b c : Nat}

/-- What is seen is what is safe and what is pending. -/
def Sn (d : Fd) : Prop := d.seen = setl d.safe d.pend
theorem Sn.new {k : Nat} : Sn (newD k) := rfl
theorem setl_app {S : List (List Int)} {ws : List (Nat × List Int)} {w : Nat × List Int} : setl S (ws ++ [w]) = (setl S ws).set w.1 w.2 := by simp [setl, List.foldl_append]
theorem Sn.wr {j : Nat} {s : ByteArray} (h : Sn d) : Sn (wrD d j s) := by
  unfold Sn at *
  rw [wrD_seen, wrD_safe, wrD_pend, setl_app, ← h]
theorem Sn.ba (h : Sn d) : (baD d).seen = (baD d).safe := by
  rw [baD_seen]; exact h
theorem crl_other {S : List (List Int)} {ws : List (Nat × List Int)} {kf : Nat → Nat} {j : Nat} (hw : ∀ w ∈ ws, w.1 ≠ j) : ∀ t, t ≤ ws.length → (crl S ws kf t).getD j [] = S.getD j []
  | 0, _ => rfl
  | t + 1, ht => by
    have c6 : t < ws.length := by omega
    have := hw (ws.getD t (0, [])) (by rw [List.getD_eq_getElem?_getD, List.getElem?_eq_getElem c6]; exact List.getElem_mem c6)
    have ih := crl_other (S := S) (kf := kf) hw t (by omega)
    rw [← ih]
    simp only [crl]
    rw [List.getD_eq_getElem?_getD, List.getElem?_set_ne this, List.getD_eq_getElem?_getD]
theorem u64_20 (k : Int) : ∃ j : Nat, j < 20 ∧ IntKind.i64.wrap ((IntKind.u64.wrap k).tmod 20) = (j : Int) := by
  have h0 : 0 ≤ IntKind.u64.wrap k := wrap_nn rfl k
  refine ⟨((IntKind.u64.wrap k) % 20).toNat, by omega, ?_⟩
  rw [Int.tmod_eq_emod_of_nonneg h0, wrap_i64 (by omega) (by omega)]
  omega
def kpI (M : Nat) (m2 m3 : Nat) (x : Nat → Option SO) (p : Nat × Fd) : St :=
  ⟨[(1, .sl 1007 0 m2 4), (5, .ptr 1 0), (7, .ptr 2 0), (31, .sl 1003 0 M 4), (32, .v (.int .i64 M)), (33, .v (.int .i64 p.1))],
    ⟨(1, some ⟨true, .sv [.sl 1011 0 m3 1]⟩) :: devL p.2 2 3 4 5 [], x⟩, 6⟩
/-- Behind the first calls: what was written is marked. -/
structure Kp (d d2 : Fd) (ts : List Bool) (t : Nat) : Prop where
  g : Gd d 20 t
  safe : d.safe = d2.safe
  len : ts.length = 20
  touched : ∀ w ∈ d.pend, ts.getD w.1 false = true
def kqI (M : Nat) (m3 : Nat) (d2 : Fd) (x : Nat → Option SO) (p : Nat × Fd × List Bool) : St :=
  ⟨[(5, .ptr 1 0), (7, .ptr 2 0), (11, .ptr 6 0), (12, .sl 10 0 20 1), (68, .sl 1007 0 M 4), (69, .v (.int .i64 M)), (70, .v (.int .i64 p.1))],
    ⟨(1, some ⟨true, .sv [.sl 1011 0 m3 1]⟩) :: (10, some ⟨true, .pl (p.2.2.map Value.bool)⟩) :: devL p.2.1 2 3 4 5 (devL d2 6 7 8 9 []), x⟩, 11⟩
theorem Kp.wr {d d2 : Fd} {ts : List Bool} {t j : Nat} {s : ByteArray} (h : Kp d d2 ts t) (hj : j < 20) (hs : s.size ≤ 64) (ht : t < 1000000) : Kp (wrD d j s) d2 (ts.set j true) (t + 1) := by
  refine ⟨h.g.wr hj hs ht, by rw [wrD_safe, h.safe], by rw [List.length_set, h.len], fun w hw => ?_⟩
  rw [wrD_pend, List.mem_append, List.mem_singleton] at hw
  have hl := h.len
  by_cases hjw : j = w.1
  · subst hjw
    rw [List.getD_eq_getElem?_getD, List.getElem?_set_self (by omega)]; rfl
  · rw [List.getD_eq_getElem?_getD, List.getElem?_set_ne hjw, ← List.getD_eq_getElem?_getD]
    rcases hw with hw | rfl
    · exact h.touched w hw
    · exact absurd rfl hjw
theorem Kp.same {d d2 : Fd} {ts : List Bool} {t j : Nat} {ks : List Int} (h : Kp d d2 ts t) (s2 : d2.seen = d2.safe) (hj : ts.getD j false = false) : (crD d ks).seen.getD j [] = d2.seen.getD j [] := by
  show (crl d.safe d.pend (keepN ks) d.pend.length).getD j [] = _
  rw [crl_other (fun w hw e => by have := h.touched w hw; rw [e, hj] at this; cases this) _ (Nat.le_refl _), h.safe, s2]
theorem reps_bool : (Body.pl [.bool false]).reps 20 = .pl ((List.replicate 20 false).map Value.bool) := rfl
def krI (d3 d2 : Fd) (ts : List Bool) (x : Nat → Option SO) (t : Nat) : St :=
  ⟨[(7, .ptr 2 0), (11, .ptr 6 0), (12, .sl 10 0 20 1), (97, .v (.int .i64 t))], ⟨(10, some ⟨true, .pl (ts.map Value.bool)⟩) :: devL d3 2 3 4 5 (devL d2 6 7 8 9 []), x⟩, 11⟩
theorem w5 {ops1 ops2 : List OpV} {row : List Int} {m1 m2 m3 : Nat} (h1 : m1 ≤ ops1.length) (h2 : m2 ≤ ops2.length) (h3 : m3 ≤ row.length)
    (hx1 : x 1003 = some ⟨false, .sv (orow 0 0 ops1)⟩) (hx2 : x 1007 = some ⟨false, .sv (orow 1 0 ops2)⟩) (hx3 : x 1011 = some ⟨false, .ints .i64 row⟩) :
    fnVC C3 m5 [.sl 1003 0 m1 4, .sl 1007 0 m2 4, .agg [.sl 1011 0 m3 1]] ⟨[], x⟩ 1 fun v H' n' =>
      Sub 1 ⟨[(0, .v (.bool true))], ⟨[], x⟩, 1⟩ ⟨[(0, v)], H', n'⟩ := by
  have q1 : min (m1 : Int) 60 = ((min m1 60 : Nat) : Int) := by omega
  have q2 : min (m2 : Int) 60 = ((min m2 60 : Nat) : Int) := by omega
  have rl1 := orow_len (A := 0) (l := ops1) (j := 0)
  have rl2 := orow_len (A := 1) (l := ops2) (j := 0)
  have ra1 := fun j (hj : j < ops1.length) => orow_at (A := 0) (o0 := ⟨0, 0, .empty, [], 0⟩) (l := ops1) (j0 := 0) hj
  have ra2 := fun j (hj : j < ops2.length) => orow_at (A := 1) (o0 := ⟨0, 0, .empty, [], 0⟩) (l := ops2) (j0 := 0) hj
  generalize hr1 : orow 0 0 ops1 = r1 at rl1 ra1 hx1
  generalize hr2 : orow 1 0 ops2 = r2 at rl2 ra2 hx2
  unfold m5
  simp -implicitDefEqProofs only [↓fnVC, initTm]
  simp -implicitDefEqProofs only [go_sem, ↓reduceIte, Nat.reduceEqDiff, Nat.reduceAdd, Nat.reduceMul, Nat.reduceLT, Nat.reduceLeDiff, Nat.reduceSub, Int.reduceToNat, Int.reduceLE, Int.reduceLT, reduceCtorEq, Int.reduceEq, Int.reduceGT, Int.reduceGE, Int.reduceNeg]
  refine at_call t9 keS ?_
  simp -implicitDefEqProofs only [go_sem, ↓reduceIte, Nat.reduceEqDiff, Nat.reduceAdd, Nat.reduceMul, Nat.reduceLT, Nat.reduceLeDiff, Nat.reduceSub, Int.reduceToNat, Int.reduceLE, Int.reduceLT, reduceCtorEq, Int.reduceEq, Int.reduceGT, Int.reduceGE, Int.reduceNeg]
  refine at_call t10 (nwD (k := 20) (by decide) (by decide) (by decide)) ?_
  simp -implicitDefEqProofs only [go_sem, ↓reduceIte, Nat.reduceEqDiff, Nat.reduceAdd, Nat.reduceMul, Nat.reduceLT, Nat.reduceLeDiff, Nat.reduceSub, Int.reduceToNat, Int.reduceLE, Int.reduceLT, reduceCtorEq, Int.reduceEq, Int.reduceGT, Int.reduceGE, Int.reduceNeg, devL_eq, q1]
  generalize hM1 : min m1 60 = M1
  refine ⟨by omega, ?_⟩
  refine loop_fam (fun (p : Nat × Fd) => p.1 ≤ M1 ∧ Gd p.2 20 p.1 ∧ Sn p.2) (kpI M1 m2 m3 x) (fun p => M1 - p.1) (0, newD 20) ⟨by omega, Gd.new (by decide), Sn.new⟩ ?_ ?_
  · unfold kpI devL
    refine sub0 rfl rfl ?_
    simp only [tmSub, hpSub, objSub, eqTm, eqHp, rn, lk, SV.ren, SV.renC, SV.renB, SV.renA, ren_ints, ren_strs, ren_pl, ren_svs, SV.v.injEq, Value.int.injEq, Body.ints.injEq, SV.ptr.injEq, SV.sl.injEq, Value.string.injEq, Value.bool.injEq, List.map_cons, List.map_nil, forall_const, Nat.reduceLT, Nat.lt_add_one, imp_self, true_and, and_true, and_self, ob_some, get_mk, lk_cons, ↓reduceIte, Nat.reduceEqDiff, ne_eq, not_true_eq_false, not_false_eq_true, Nat.one_ne_zero, Nat.zero_ne_one, Nat.succ_ne_self, Nat.reduceAdd, Bool.false_eq_true, false_implies, implies_true, reduceCtorEq]
    exact ⟨Nat.sub_zero _, by rw [Nat.sub_zero], rfl⟩
  · rintro ⟨t, d⟩ ⟨ht, hg, hsn⟩
    simp only at ht hg hsn
    unfold kpI
    simp -implicitDefEqProofs only [go_sem, ↓reduceIte, Nat.reduceEqDiff, Nat.reduceAdd, Nat.reduceMul, Nat.reduceLT, Nat.reduceLeDiff, Nat.reduceSub, Int.reduceToNat, Int.reduceLE, Int.reduceLT, reduceCtorEq, Int.reduceEq, Int.reduceGT, Int.reduceGE, Int.reduceNeg, devL_eq]
    refine condK_bb (fun e1 => ?_) (fun e1 => ?_)
    · have c1 : t < M1 := by simp only [decide_eq_true_eq] at e1; omega
      have hra := ra1 t (by omega)
      generalize ops1.getD t ⟨0, 0, .empty, [], 0⟩ = o at hra
      obtain ⟨j, hj, hjw⟩ := u64_20 o.k
      have z1 := ext_size (s := o.s)
      have m1' : min (o.s.size : Int) 64 = ((min o.s.size 64 : Nat) : Int) := by omega
      simp -implicitDefEqProofs only [go_sem, ↓reduceIte, Nat.reduceEqDiff, Nat.reduceAdd, Nat.reduceMul, Nat.reduceLT, Nat.reduceLeDiff, Nat.reduceSub, Int.reduceToNat, Int.reduceLE, Int.reduceLT, reduceCtorEq, Int.reduceEq, Int.reduceGT, Int.reduceGE, Int.reduceNeg, hx1, hra, ocell, splice_zero, hjw, m1', Int.reduceToNat]
      refine ⟨by omega, by omega, by omega, at_call t11 (wrG (j := j) (a := 3) (b := 4) (c := 5) ⟨rfl, rfl, rfl, rfl, by decide⟩ hg hj z1 (by decide) rfl) ?_⟩
      simp -implicitDefEqProofs only [go_sem, ↓reduceIte, Nat.reduceEqDiff, Nat.reduceAdd, Nat.reduceMul, Nat.reduceLT, Nat.reduceLeDiff, Nat.reduceSub, Int.reduceToNat, Int.reduceLE, Int.reduceLT, reduceCtorEq, Int.reduceEq, Int.reduceGT, Int.reduceGE, Int.reduceNeg]
      refine kLoop_mk (t + 1, wrD d j (o.s.extract 0 (min o.s.size 64))) ⟨by simp only; omega, hg.wr hj z1 (by omega), hsn.wr⟩ (by simp only; omega) ?_
      unfold devL devB secB
      refine sub_mk [(5, 7)] rfl rfl rfl ?_
      simp only [tmSub, hpSub, objSub, eqTm, eqHp, rn, lk, SV.ren, SV.renC, SV.renB, SV.renA, ren_ints, ren_strs, ren_pl, ren_svs, SV.v.injEq, Value.int.injEq, Body.ints.injEq, SV.ptr.injEq, SV.sl.injEq, Value.string.injEq, Value.bool.injEq, List.map_cons, List.map_nil, forall_const, Nat.reduceLT, Nat.lt_add_one, imp_self, true_and, and_true, and_self, ob_some, get_mk, lk_cons, ↓reduceIte, Nat.reduceEqDiff, ne_eq, not_true_eq_false, not_false_eq_true, Nat.one_ne_zero, Nat.zero_ne_one, Nat.succ_ne_self, Nat.reduceAdd, Bool.false_eq_true, false_implies, implies_true, reduceCtorEq]
      rw [wrap_i64 (by omega) (by omega)]
      exact (Int.natCast_add t 1).symm ▸ rfl
    · have c1 : t = M1 := by simp only [decide_eq_false_iff_not] at e1; omega
      simp -implicitDefEqProofs only [go_sem, ↓reduceIte, Nat.reduceEqDiff, Nat.reduceAdd, Nat.reduceMul, Nat.reduceLT, Nat.reduceLeDiff, Nat.reduceSub, Int.reduceToNat, Int.reduceLE, Int.reduceLT, reduceCtorEq, Int.reduceEq, Int.reduceGT, Int.reduceGE, Int.reduceNeg]
      refine at_call t12 (baG (i := 2) (a := 3) (b := 4) (c := 5) ⟨rfl, rfl, rfl, rfl, by decide⟩ hg (by decide) rfl) ?_
      have g2 := hg.ba (by omega)
      have s2 := hsn.ba
      have p2 : (baD d).pend.length = 0 := rfl
      generalize baD d = d2 at g2 s2 p2 ⊢
      simp -implicitDefEqProofs only [go_sem, ↓reduceIte, Nat.reduceEqDiff, Nat.reduceAdd, Nat.reduceMul, Nat.reduceLT, Nat.reduceLeDiff, Nat.reduceSub, Int.reduceToNat, Int.reduceLE, Int.reduceLT, reduceCtorEq, Int.reduceEq, Int.reduceGT, Int.reduceGE, Int.reduceNeg]
      refine at_call t19 (peS rfl) ?_
      simp -implicitDefEqProofs only [go_sem, ↓reduceIte, Nat.reduceEqDiff, Nat.reduceAdd, Nat.reduceMul, Nat.reduceLT, Nat.reduceLeDiff, Nat.reduceSub, Int.reduceToNat, Int.reduceLE, Int.reduceLT, reduceCtorEq, Int.reduceEq, Int.reduceGT, Int.reduceGE, Int.reduceNeg, p2, Int.cast_ofNat_Int]
      refine at_call t13 (cpS (i := 2) (a := 3) (b := 4) (c := 6) ⟨rfl, rfl, rfl, rfl, by decide⟩ g2.ok (by rw [g2.len]; decide) (by decide)) ?_
      simp -implicitDefEqProofs only [go_sem, ↓reduceIte, Nat.reduceEqDiff, Nat.reduceAdd, Nat.reduceMul, Nat.reduceLT, Nat.reduceLeDiff, Nat.reduceSub, Int.reduceToNat, Int.reduceLE, Int.reduceLT, reduceCtorEq, Int.reduceEq, Int.reduceGT, Int.reduceGE, Int.reduceNeg, q2]
      generalize hM2 : min m2 60 = M2
      refine ⟨by omega, by omega, ?_⟩
      refine loop_fam (fun (p : Nat × Fd × List Bool) => p.1 ≤ M2 ∧ Kp p.2.1 d2 p.2.2 (61 + p.1)) (kqI M2 m3 d2 x) (fun p => M2 - p.1) (0, d2, List.replicate 20 false) ⟨by omega, ⟨⟨g2.ok, g2.len, g2.fa, g2.off, by have := g2.st; simp only; omega, by simp only; omega⟩, rfl, by simp, fun w hw => ?_⟩⟩ ?_ ?_
      · have : d2.pend = [] := List.length_eq_zero_iff.1 p2
        rw [this] at hw; cases hw
      · unfold kqI devL devB secB
        refine sub_mk [(5, 6), (6, 7), (7, 8), (8, 9), (9, 10), (10, 11)] rfl rfl rfl ?_
        simp only [tmSub, hpSub, objSub, eqTm, eqHp, rn, lk, SV.ren, SV.renC, SV.renB, SV.renA, ren_ints, ren_strs, ren_pl, ren_svs, SV.v.injEq, Value.int.injEq, Body.ints.injEq, SV.ptr.injEq, SV.sl.injEq, Value.string.injEq, Value.bool.injEq, List.map_cons, List.map_nil, forall_const, Nat.reduceLT, Nat.lt_add_one, imp_self, true_and, and_true, and_self, ob_some, get_mk, lk_cons, ↓reduceIte, Nat.reduceEqDiff, ne_eq, not_true_eq_false, not_false_eq_true, Nat.one_ne_zero, Nat.zero_ne_one, Nat.succ_ne_self, Nat.reduceAdd, Bool.false_eq_true, false_implies, implies_true, reduceCtorEq, reps_bool]
        exact ⟨Nat.sub_zero _, by rw [Nat.sub_zero], rfl⟩
      · rintro ⟨t, d, ts⟩ ⟨ht, hK⟩
        simp only at ht hK
        unfold kqI
        simp -implicitDefEqProofs only [go_sem, ↓reduceIte, Nat.reduceEqDiff, Nat.reduceAdd, Nat.reduceMul, Nat.reduceLT, Nat.reduceLeDiff, Nat.reduceSub, Int.reduceToNat, Int.reduceLE, Int.reduceLT, reduceCtorEq, Int.reduceEq, Int.reduceGT, Int.reduceGE, Int.reduceNeg, devL_eq]
        refine condK_bb (fun e1 => ?_) (fun e1 => ?_)
        · have c1 : t < M2 := by simp only [decide_eq_true_eq] at e1; omega
          have hra := ra2 t (by omega)
          generalize ops2.getD t ⟨0, 0, .empty, [], 0⟩ = o at hra
          obtain ⟨j, hj, hjw⟩ := u64_20 o.k
          have z1 := ext_size (s := o.s)
          have m1' : min (o.s.size : Int) 64 = ((min o.s.size 64 : Nat) : Int) := by omega
          have hset : (ts.map Value.bool).set j (.bool true) = (ts.set j true).map Value.bool := by rw [List.map_set]
          have hl := hK.len
          simp -implicitDefEqProofs only [go_sem, ↓reduceIte, Nat.reduceEqDiff, Nat.reduceAdd, Nat.reduceMul, Nat.reduceLT, Nat.reduceLeDiff, Nat.reduceSub, Int.reduceToNat, Int.reduceLE, Int.reduceLT, reduceCtorEq, Int.reduceEq, Int.reduceGT, Int.reduceGE, Int.reduceNeg, hx2, hra, ocell, splice_zero, hjw, m1', Int.reduceToNat, hset]
          refine ⟨by omega, by omega, by omega, by simp only [List.length_map]; omega, by omega, at_call t11 (wrG (j := j) (a := 3) (b := 4) (c := 5) ⟨rfl, rfl, rfl, rfl, by decide⟩ hK.g hj z1 (by decide) rfl) ?_⟩
          simp -implicitDefEqProofs only [go_sem, ↓reduceIte, Nat.reduceEqDiff, Nat.reduceAdd, Nat.reduceMul, Nat.reduceLT, Nat.reduceLeDiff, Nat.reduceSub, Int.reduceToNat, Int.reduceLE, Int.reduceLT, reduceCtorEq, Int.reduceEq, Int.reduceGT, Int.reduceGE, Int.reduceNeg]
          refine kLoop_mk (t + 1, wrD d j (o.s.extract 0 (min o.s.size 64)), ts.set j true) ⟨by simp only; omega, hK.wr hj z1 (by omega)⟩ (by simp only; omega) ?_
          unfold devL devB secB
          refine sub_mk [(5, 12)] rfl rfl rfl ?_
          simp only [tmSub, hpSub, objSub, eqTm, eqHp, rn, lk, SV.ren, SV.renC, SV.renB, SV.renA, ren_ints, ren_strs, ren_pl, ren_svs, SV.v.injEq, Value.int.injEq, Body.ints.injEq, SV.ptr.injEq, SV.sl.injEq, Value.string.injEq, Value.bool.injEq, List.map_cons, List.map_nil, forall_const, Nat.reduceLT, Nat.lt_add_one, imp_self, true_and, and_true, and_self, ob_some, get_mk, lk_cons, ↓reduceIte, Nat.reduceEqDiff, ne_eq, not_true_eq_false, not_false_eq_true, Nat.one_ne_zero, Nat.zero_ne_one, Nat.succ_ne_self, Nat.reduceAdd, Bool.false_eq_true, false_implies, implies_true, reduceCtorEq]
          rw [wrap_i64 (by omega) (by omega)]
          exact (Int.natCast_add t 1).symm ▸ rfl
        · have c1 : t = M2 := by simp only [decide_eq_false_iff_not] at e1; omega
          have hr : rowAt ⟨(1, some ⟨true, .sv [.sl 1011 0 m3 1]⟩) :: (10, some ⟨true, .pl (ts.map Value.bool)⟩) :: devL d 2 3 4 5 (devL d2 6 7 8 9 []), x⟩ 1011 (.ints .i64 []) = some (.ints .i64 row) := by
            simp [rowAt, Hp.get, lk, devL, hx3]
          simp -implicitDefEqProofs only [go_sem, ↓reduceIte, Nat.reduceEqDiff, Nat.reduceAdd, Nat.reduceMul, Nat.reduceLT, Nat.reduceLeDiff, Nat.reduceSub, Int.reduceToNat, Int.reduceLE, Int.reduceLT, reduceCtorEq, Int.reduceEq, Int.reduceGT, Int.reduceGE, Int.reduceNeg]
          refine at_call t15 (crG (r := 1011) (o := 0) (q := m3) (i := 2) (a := 3) (b := 4) (c := 5) ⟨rfl, rfl, rfl, rfl, by decide⟩ hK.g (by decide) (by omega) hr (by decide) (by decide) rfl) ?_
          have g3 := hK.g.cr (ks := (row.drop 0).take m3)
          have tl := hK.len
          have k3 : ∀ j, ts.getD j false = false → (crD d ((row.drop 0).take m3)).seen.getD j [] = d2.seen.getD j [] := fun j hj => hK.same s2 hj
          have p3 : (crD d ((row.drop 0).take m3)).pend.length = 0 := rfl
          generalize crD d ((row.drop 0).take m3) = d3 at g3 k3 p3 ⊢
          have p4 := g3.off
          simp -implicitDefEqProofs only [go_sem, ↓reduceIte, Nat.reduceEqDiff, Nat.reduceAdd, Nat.reduceMul, Nat.reduceLT, Nat.reduceLeDiff, Nat.reduceSub, Int.reduceToNat, Int.reduceLE, Int.reduceLT, reduceCtorEq, Int.reduceEq, Int.reduceGT, Int.reduceGE, Int.reduceNeg]
          refine loop_fam (fun t => t ≤ 20) (krI d3 d2 ts x) (fun p => 20 - p) 0 (by decide) ?_ ?_
          · unfold krI devL devB secB
            refine sub_mk [(3, 11), (5, 12)] rfl rfl rfl ?_
            simp only [tmSub, hpSub, objSub, eqTm, eqHp, rn, lk, SV.ren, SV.renC, SV.renB, SV.renA, ren_ints, ren_strs, ren_pl, ren_svs, SV.v.injEq, Value.int.injEq, Body.ints.injEq, SV.ptr.injEq, SV.sl.injEq, Value.string.injEq, Value.bool.injEq, List.map_cons, List.map_nil, forall_const, Nat.reduceLT, Nat.lt_add_one, imp_self, true_and, and_true, and_self, ob_some, get_mk, lk_cons, ↓reduceIte, Nat.reduceEqDiff, ne_eq, not_true_eq_false, not_false_eq_true, Nat.one_ne_zero, Nat.zero_ne_one, Nat.succ_ne_self, Nat.reduceAdd, Bool.false_eq_true, false_implies, implies_true, reduceCtorEq]
            rfl
          · intro q hq
            unfold krI
            simp -implicitDefEqProofs only [go_sem, ↓reduceIte, Nat.reduceEqDiff, Nat.reduceAdd, Nat.reduceMul, Nat.reduceLT, Nat.reduceLeDiff, Nat.reduceSub, Int.reduceToNat, Int.reduceLE, Int.reduceLT, reduceCtorEq, Int.reduceEq, Int.reduceGT, Int.reduceGE, Int.reduceNeg, devL_eq]
            refine condK_bb (fun e2 => ?_) (fun e2 => ?_)
            · have c2 : q < 20 := by simp only [decide_eq_true_eq] at e2; omega
              simp -implicitDefEqProofs only [go_sem, ↓reduceIte, Nat.reduceEqDiff, Nat.reduceAdd, Nat.reduceMul, Nat.reduceLT, Nat.reduceLeDiff, Nat.reduceSub, Int.reduceToNat, Int.reduceLE, Int.reduceLT, reduceCtorEq, Int.reduceEq, Int.reduceGT, Int.reduceGE, Int.reduceNeg]
              refine at_call t14 (rdIn (j := q) (i := 2) (a := 3) (b := 4) (c := 5) ⟨rfl, rfl, rfl, rfl, by decide⟩ g3 c2) ?_
              simp -implicitDefEqProofs only [go_sem, ↓reduceIte, Nat.reduceEqDiff, Nat.reduceAdd, Nat.reduceMul, Nat.reduceLT, Nat.reduceLeDiff, Nat.reduceSub, Int.reduceToNat, Int.reduceLE, Int.reduceLT, reduceCtorEq, Int.reduceEq, Int.reduceGT, Int.reduceGE, Int.reduceNeg]
              refine at_call t14 (rdIn (j := q) (i := 6) (a := 7) (b := 8) (c := 9) ⟨rfl, rfl, rfl, rfl, by decide⟩ g2 c2) ?_
              have hq2 : (ts.map Value.bool)[q]? = some (Value.bool (ts.getD q false)) := by rw [List.getElem?_map, List.getD_eq_getElem?_getD, List.getElem?_eq_getElem (by omega)]; rfl
              have hii : (0 ≤ (q : Int) ∧ (q : Int) < ((20 : Nat) : Int)) := ⟨by omega, by omega⟩
              have hqw : IntKind.i64.wrap ((q : Int) + 1) = ((q + 1 : Nat) : Int) := by rw [wrap_i64 (by omega) (by omega)]; omega
              cases eT : ts.getD q false with
              | true =>
                simp -implicitDefEqProofs only [go_sem, ↓reduceIte, Nat.reduceEqDiff, Nat.reduceAdd, Nat.reduceMul, Nat.reduceLT, Nat.reduceLeDiff, Nat.reduceSub, Int.reduceToNat, Int.reduceLE, Int.reduceLT, reduceCtorEq, Int.reduceEq, Int.reduceGT, Int.reduceGE, Int.reduceNeg, hq2, eT, hqw]
                refine ⟨hii, ?_⟩
                refine kLoop_mk (q + 1) (by omega) (by omega) ?_
                unfold devL devB secB
                refine sub_mk [] rfl rfl rfl ?_
                simp only [tmSub, hpSub, objSub, eqTm, eqHp, rn, lk, SV.ren, SV.renC, SV.renB, SV.renA, ren_ints, ren_strs, ren_pl, ren_svs, SV.v.injEq, Value.int.injEq, Body.ints.injEq, SV.ptr.injEq, SV.sl.injEq, Value.string.injEq, Value.bool.injEq, List.map_cons, List.map_nil, forall_const, Nat.reduceLT, Nat.lt_add_one, imp_self, true_and, and_true, and_self, ob_some, get_mk, lk_cons, ↓reduceIte, Nat.reduceEqDiff, ne_eq, not_true_eq_false, not_false_eq_true, Nat.one_ne_zero, Nat.zero_ne_one, Nat.succ_ne_self, Nat.reduceAdd, Bool.false_eq_true, false_implies, implies_true, reduceCtorEq]
              | false =>
                rw [k3 q eT]
                simp -implicitDefEqProofs only [go_sem, ↓reduceIte, Nat.reduceEqDiff, Nat.reduceAdd, Nat.reduceMul, Nat.reduceLT, Nat.reduceLeDiff, Nat.reduceSub, Int.reduceToNat, Int.reduceLE, Int.reduceLT, reduceCtorEq, Int.reduceEq, Int.reduceGT, Int.reduceGE, Int.reduceNeg, hq2, eT, hqw, seq_self3]
                refine ⟨hii, ?_⟩
                refine kLoop_mk (q + 1) (by omega) (by omega) ?_
                unfold devL devB secB
                refine sub_mk [] rfl rfl rfl ?_
                simp only [tmSub, hpSub, objSub, eqTm, eqHp, rn, lk, SV.ren, SV.renC, SV.renB, SV.renA, ren_ints, ren_strs, ren_pl, ren_svs, SV.v.injEq, Value.int.injEq, Body.ints.injEq, SV.ptr.injEq, SV.sl.injEq, Value.string.injEq, Value.bool.injEq, List.map_cons, List.map_nil, forall_const, Nat.reduceLT, Nat.lt_add_one, imp_self, true_and, and_true, and_self, ob_some, get_mk, lk_cons, ↓reduceIte, Nat.reduceEqDiff, ne_eq, not_true_eq_false, not_false_eq_true, Nat.one_ne_zero, Nat.zero_ne_one, Nat.succ_ne_self, Nat.reduceAdd, Bool.false_eq_true, false_implies, implies_true, reduceCtorEq]
            · simp -implicitDefEqProofs only [go_sem, ↓reduceIte, Nat.reduceEqDiff, Nat.reduceAdd, Nat.reduceMul, Nat.reduceLT, Nat.reduceLeDiff, Nat.reduceSub, Int.reduceToNat, Int.reduceLE, Int.reduceLT, reduceCtorEq, Int.reduceEq, Int.reduceGT, Int.reduceGE, Int.reduceNeg]
              refine at_call t19 (peS rfl) ?_
              simp -implicitDefEqProofs only [go_sem, ↓reduceIte, Nat.reduceEqDiff, Nat.reduceAdd, Nat.reduceMul, Nat.reduceLT, Nat.reduceLeDiff, Nat.reduceSub, Int.reduceToNat, Int.reduceLE, Int.reduceLT, reduceCtorEq, Int.reduceEq, Int.reduceGT, Int.reduceGE, Int.reduceNeg, p3, Int.cast_ofNat_Int]
              refine at_call t17 (offS rfl) ?_
              simp -implicitDefEqProofs only [go_sem, ↓reduceIte, Nat.reduceEqDiff, Nat.reduceAdd, Nat.reduceMul, Nat.reduceLT, Nat.reduceLeDiff, Nat.reduceSub, Int.reduceToNat, Int.reduceLE, Int.reduceLT, reduceCtorEq, Int.reduceEq, Int.reduceGT, Int.reduceGE, Int.reduceNeg, p4]
              exact sub_val rfl (by decide) (by decide) rfl
theorem s5 {ops1 ops2 : List OpV} {row : List Int} {m1 m2 m3 : Nat} (h1 : m1 ≤ ops1.length) (h2 : m2 ≤ ops2.length) (h3 : m3 ≤ row.length)
    (hx1 : x 1003 = some ⟨false, .sv (orow 0 0 ops1)⟩) (hx2 : x 1007 = some ⟨false, .sv (orow 1 0 ops2)⟩) (hx3 : x 1011 = some ⟨false, .ints .i64 row⟩) :
    SpecAt Try.prog 5 [.sl 1003 0 m1 4, .sl 1007 0 m2 4, .agg [.sl 1011 0 m3 1]] ⟨[], x⟩ 1 (.v (.bool true)) ⟨[], x⟩ 1 := ok3.spec t5 (w5 h1 h2 h3 hx1 hx2 hx3)
theorem rel_argrow {lfA : Nat → Nat → Loc} {lr : Nat → Loc} {o m z : Nat} {v : Value} (j : Nat) (h : slrel (lr j) o m z v) : slrel (argR lfA lr (1003 + 4 * j)) o m z v := by rw [argR_row]; exact h
open Go.ChangeShapes Go.WideShapes Go.ChangeAt Go.RowKit in
theorem fate_cells {H : Type} {enc : TypeId × Value → H} {W : World} {fuel : Nat} {cs : List Value} {x : DataW H × List MemPlace} (h : DataW.trod enc Try.prog W 0 (fun _ => true) true fuel 35 cs = some x) :
    ∃ (kv : Value) (n : Nat) (y : DataW H × List MemPlace), cs = [kv] ∧ DataW.trod enc Try.prog W 0 (fun _ => true) true n 33 [kv] = some y := by
  obtain ⟨xs', n', rfl, rfl, hl', hxl', hf'⟩ := DataW.trod_struct Try.underlying35 h
  have h4 := hf' 0 { name := "Keep", type := 33, offset := 0, embedded := false, tag := "", pkgPath := "", byteOffset := 0 } rfl
  have c33 : Try.prog.cellsOf 33 = 1 := by kernel_rfl
  have c35 : Try.prog.cellsOf 35 = 1 := by kernel_rfl
  rw [c35] at hl'
  match cs, hl' with
  | [a], _ =>
    simp only [c33, List.drop_zero, List.take_succ_cons, List.take_zero] at h4
    obtain ⟨y4, g4⟩ : ∃ y, xs'[0]? = some y := ⟨_, List.getElem?_eq_getElem (by rw [hxl']; decide)⟩
    rw [g4] at h4
    exact ⟨a, _, _, rfl, h4⟩
end Go.Sx

/- Layer 3: the reference's device. -/
set_option linter.unusedVariables false
set_option linter.unusedSimpArgs false
set_option maxRecDepth 100000
namespace Go.Sx
attribute [local go_sem ↓] bind_mk intsB_mk strsB_mk svB_mk fnVC ob_some vc_skip vc_exit vc_ret vc_seq vc_block kSeq_normal kSeq_exit kSeq_ret kBlock_normal kBlock_exit kBlock_ret vc_reg vc_regD vc_cond condK_true condK_false vc_loop kLoop_exit kLoop_ret kRoll_normal kRoll_exit kRoll_ret vcOps_nil vcOps_cons gd_bool gd_undef put_some put_none vcT_fin vcT_pure vcT_act vcT_acts vcT_stop stab_none stab_some stabM_nil stabM_cons stabO_ld stabO_ldn stabO_slP stabO_b2s fldOf_ai fldOf_agg fldOf_ait fldOf_aggt intsOf_nil intsOf_cons strsOf_nil strsOf_cons c_omap ob_if lk_nil lk_cons ev_t ev_k z_mov z_pick z_bin z_binB z_binP z_un z_conv z_s2b z_b2s z_alloc z_bld z_bldI z_rowI z_rowS z_ld z_ldn z_st z_stn asN_ptr asN_fn z_nilck z_fld z_fadr z_idxA z_idxP z_idxS z_idxV z_slS z_slL z_slP z_mk z_lenS z_lenL z_app z_appS z_appZ z_cpyS z_mkfn reps_int reps_str z_rowV z_slnil nilK_zero z_cpy z_call asT_tup z_extT z_box boxOf_ai boxOf_agg boxOf_int boxOf_str boxOf_bool boxOf_ptr boxOf_sl sbin_int sbin_str sbinB_mk sbinP_nn sbinP_pn sbinP_np i_add i_sub i_mul i_quo i_rem i_and i_or i_xor i_andNot i_shl i_shr i_eql i_neq i_lss i_leq i_gtr i_geq st_add st_eql st_neq st_lss st_leq st_gtr st_geq bo_eql bo_neq pt_eql pt_neq un_neg un_xor un_not asI_mk asB_mk asS_mk asP_mk asSl_mk asBy_mk bnd_none bnd_some get_mk hput_mk hdel_mk kill_eq wrOf_eq rowOf_eq rsvs_0 rsvs_1 rsvs_2 rsvs_3 rsv_t rsv_c1 rsv_cn nt_v nt_ptr nt_sl nt_agg nt_ai get_ints get_strs get_pl get_sv getN_ints getN_sv set_ints set_strs set_sv setN_ints setN_sv part_ints part_strs part_sv cat_ints cat_strs cat_sv over_ints ones_ints ones_strs evs_nil evs_cons condK_eqt condK_eqf det_callP V_ns V_nn V_gs V_gn obC_mk fresh_ev setN_plagg setN_intsv setN_svai setN_svagg over_intsv set_pl setN_pl setN_plai getN_pl getN_strs part_pl cat_pl over_pl over_plints z_mm
attribute [local go_sem] initTm ne_eq not_true_eq_false not_false_eq_true true_and and_true List.length_cons List.length_nil Int.toNat_natCast Nat.add_zero Nat.zero_add Nat.mul_one List.getElem?_cons_zero List.drop_zero List.take_length List.take_succ_cons List.take_zero List.take_nil List.drop_succ_cons Option.map_some Nat.le_refl implies_true List.getElem?_cons_succ decide_true decide_false Bool.not_true Bool.not_false beq_self_eq_true Nat.succ_ne_self Nat.one_ne_zero Nat.zero_ne_one vk_mk hk_mk nk_mk tok_eq plsOf_map intsOf_map bodyOf_pl bodyOf_ints bodyOf_strs bodyOf_sv part_aggv part_agg part_ai part_int part_str part_bool part_sl part_ptr part_nil numsOf_map u_int u_str u_bool u_pnil u_sl u_ptr u_oci u_ocs evq_nil evq_cons fillS_nil fillS_cons u_ocb ones_pl cells_sv cells_ints cells_strs cells_pl smms_nil smms_cons smm_min smm_max plsOf_nil List.nil_append List.all_cons List.all_nil Bool.and_self Bool.true_and Bool.and_true zws_len zw_len zi_len List.set_cons_zero List.set_cons_succ List.flatMap_cons List.flatMap_nil List.append_nil
open Go.Proofs
variable {H : Hp} {n : Nat} {x : Nat → Option SO} {d d' : Fd} {i a b c : Nat}

def qcell (w : Nat × List Int) : List Value := [.int .i64 w.1, .string (tx w.2)]
def qrow (ws : List (Nat × List Int)) : List Value := (ws.map qcell).flatten
def refB (d : Fd) (a b : Nat) : Body := .sv [.sl a 0 d.seen.length 1, .sl b 0 d.pend.length 2, .v (.int .i64 d.st), .v (.int .i64 d.fa), .v (.bool d.off)]
def strB (l : List (List Int)) : Body := .strs (l.map tx)
theorem qcell_len {w : Nat × List Int} : (qcell w).length = 2 := rfl
theorem qrow_all {ws : List (Nat × List Int)} : ∀ s ∈ ws.map qcell, s.length = 2 := fun s hs => by
  rw [List.mem_map] at hs; obtain ⟨w, _, rfl⟩ := hs; rfl
theorem qrow_len {ws : List (Nat × List Int)} : (qrow ws).length = ws.length * 2 := by
  unfold qrow; rw [flat_len qrow_all, List.length_map]
theorem qrow_at {ws : List (Nat × List Int)} {j : Nat} (hj : j < ws.length) : ((qrow ws).drop (j * 2)).take 2 = qcell (ws.getD j (0, [])) := by
  unfold qrow
  rw [flat_take qrow_all (by simpa using hj), List.getD_eq_getElem?_getD, List.getElem?_map, List.getD_eq_getElem?_getD, List.getElem?_eq_getElem hj]; rfl
theorem qrow_app (l m : List (Nat × List Int)) : qrow (l ++ m) = qrow l ++ qrow m := by simp [qrow]
theorem strB_get {l : List (List Int)} {j : Nat} (hj : j < l.length) : (l.map tx).getD j .empty = tx (l.getD j []) := by
  rw [List.getD_eq_getElem?_getD, List.getElem?_map, List.getD_eq_getElem?_getD, List.getElem?_eq_getElem hj]; rfl
/-! ### The sectors behind the pending writes -/
def seI (d : Fd) (o m : Nat) (row ks : List Int) (x : Nat → Option SO) (t : Nat) : St :=
  ⟨[(0, .ptr 1 0), (1, .sl 4 o m 1), (5, .sl 5 0 d.seen.length 1), (6, .v (.int .i64 t))],
    ⟨[(1, some ⟨false, refB d 2 3⟩), (2, some ⟨false, strB d.safe⟩), (3, some ⟨false, .pl (qrow d.pend)⟩), (4, some ⟨false, .ints .i64 row⟩), (5, some ⟨true, strB (crl d.safe d.pend (keepN ks) t)⟩)], x⟩, 6⟩
theorem w39 {d : Fd} {row : List Int} {o m : Nat} (hd : d.ok) (hom : o + m ≤ row.length) :
    fnVC C3 m39 [.ptr 1 0, .sl 4 o m 1] ⟨[(1, some ⟨false, refB d 2 3⟩), (2, some ⟨false, strB d.safe⟩), (3, some ⟨false, .pl (qrow d.pend)⟩), (4, some ⟨false, .ints .i64 row⟩)], x⟩ 5
      fun v H' n' => Sub 5 ⟨[(0, .sl 5 0 d.seen.length 1)], ⟨[(1, some ⟨false, refB d 2 3⟩), (2, some ⟨false, strB d.safe⟩), (3, some ⟨false, .pl (qrow d.pend)⟩), (4, some ⟨false, .ints .i64 row⟩),
        (5, some ⟨true, strB (crl d.safe d.pend (keepN ((row.drop o).take m)) d.pend.length)⟩)], x⟩, 6⟩ ⟨[(0, v)], H', n'⟩ := by
  obtain ⟨h1, h2, h3, h4, h5, h6, h7, h8, h9, h10⟩ := hd
  have hrow := fun t (h : t < d.pend.length) => qrow_at (ws := d.pend) (j := t) h
  have hplen := qrow_len (ws := d.pend)
  obtain ⟨ks, hks⟩ : ∃ ks, ks = (row.drop o).take m := ⟨_, rfl⟩
  have hkl : ks.length = m := by rw [hks]; simp; omega
  have hkg : ∀ j, j < m → row.getD (o + j) 0 = ks.getD j 0 := fun j hj => by
    rw [hks, List.getD_eq_getElem?_getD, List.getD_eq_getElem?_getD, List.getElem?_take, if_pos hj, List.getElem?_drop]
  rw [← hks]
  have hall := crl_all (kf := keepN ks) h2 (fun w hw => ⟨by rw [h3]; exact (h5 w hw).1, (h5 w hw).2⟩)
  have r1 : (d.safe.map tx).take d.seen.length = d.safe.map tx := List.take_of_length_le (by simp; omega)
  unfold refB strB m39
  simp -implicitDefEqProofs only [↓fnVC, initTm]
  simp -implicitDefEqProofs only [go_sem, ↓reduceIte, Nat.reduceEqDiff, Nat.reduceAdd, Nat.reduceMul, Nat.reduceLT, Nat.reduceLeDiff, Nat.reduceSub, Int.reduceToNat, Int.reduceLE, Int.reduceLT, reduceCtorEq, Int.reduceEq, Int.reduceGT, Int.reduceGE, Int.reduceNeg, r1]
  refine ⟨by omega, by omega, by simp; omega, ?_⟩
  refine loop_fam (fun t : Nat => t ≤ d.pend.length) (seI d o m row ks x) (fun t => d.pend.length - t) 0 (by omega) ?_ ?_
  · unfold seI refB strB
    refine sub_mk [(5, 6)] rfl rfl rfl ?_
    simp only [tmSub, hpSub, objSub, eqTm, eqHp, rn, lk, SV.ren, SV.renC, SV.renB, SV.renA, ren_ints, ren_strs, ren_pl, ren_svs, SV.v.injEq, Value.int.injEq, Body.ints.injEq, SV.ptr.injEq, SV.sl.injEq, Value.string.injEq, Value.bool.injEq, List.map_cons, List.map_nil, forall_const, Nat.reduceLT, Nat.lt_add_one, imp_self, true_and, and_true, and_self, ob_some, get_mk, lk_cons, ↓reduceIte, Nat.reduceEqDiff, ne_eq, not_true_eq_false, not_false_eq_true, Nat.one_ne_zero, Nat.zero_ne_one, Nat.succ_ne_self, Nat.reduceAdd, Bool.false_eq_true, false_implies, implies_true, reduceCtorEq, crl]
    rfl
  · intro t ht
    unfold seI refB strB
    simp -implicitDefEqProofs only [go_sem, ↓reduceIte, Nat.reduceEqDiff, Nat.reduceAdd, Nat.reduceMul, Nat.reduceLT, Nat.reduceLeDiff, Nat.reduceSub, Int.reduceToNat, Int.reduceLE, Int.reduceLT, reduceCtorEq, Int.reduceEq, Int.reduceGT, Int.reduceGE, Int.reduceNeg]
    refine condK_bb (fun e6 => ?_) (fun e6 => ?_)
    · have c6 : t < d.pend.length := by simp only [decide_eq_true_eq] at e6; omega
      have hw := h5 (d.pend.getD t (0, [])) (by rw [List.getD_eq_getElem?_getD, List.getElem?_eq_getElem c6]; exact List.getElem_mem c6)
      have p1 := hrow t c6
      have p4 : crl d.safe d.pend (keepN ks) (t + 1) = (crl d.safe d.pend (keepN ks) t).set (d.pend.getD t (0, [])).1 ((d.pend.getD t (0, [])).2.take (keepN ks t) ++ ((crl d.safe d.pend (keepN ks) t).getD (d.pend.getD t (0, [])).1 []).drop (keepN ks t)) := rfl
      generalize d.pend.getD t (0, []) = w at hw p1 p4
      have p6 := hall t ht
      have p7 : (crl d.safe d.pend (keepN ks) t).length = d.seen.length := by rw [crl_len, h3]
      have p8 := strB_get (l := crl d.safe d.pend (keepN ks) t) (j := w.1) (by rw [p7]; exact hw.1)
      have p9 := getD_len p6 (j := w.1) (by rw [p7]; exact hw.1)
      have kl := keepN_le ks t
      have s1 : (tx w.2).size = 64 := by rw [tx_size', hw.2]
      have s2 : (tx ((crl d.safe d.pend (keepN ks) t).getD w.1 [])).size = 64 := by rw [tx_size', p9]
      have r7 : (tx w.2).extract 0 (keepN ks t) ++ (tx ((crl d.safe d.pend (keepN ks) t).getD w.1 [])).extract (keepN ks t) 64 = tx (w.2.take (keepN ks t) ++ ((crl d.safe d.pend (keepN ks) t).getD w.1 []).drop (keepN ks t)) := by
        rw [tx_ext, tx_ext, tx_app, List.take_of_length_le (l := (crl d.safe d.pend (keepN ks) t).getD w.1 []) (by omega)]; rfl
      have r8 : ((crl d.safe d.pend (keepN ks) t).map tx).set w.1 (tx (w.2.take (keepN ks t) ++ ((crl d.safe d.pend (keepN ks) t).getD w.1 []).drop (keepN ks t))) = (crl d.safe d.pend (keepN ks) (t + 1)).map tx := by
        rw [p4, List.map_set]
      by_cases hm0 : m = 0
      · have e7 : decide ((m : Int) > 0) = false := decide_eq_false (by omega)
        have k0 : keepN ks t = 0 := by unfold keepN; rw [if_pos (by omega)]
        rw [k0] at r7 r8
        simp only [List.take_zero, List.nil_append, List.drop_zero] at r7 r8
        simp -implicitDefEqProofs only [go_sem, ↓reduceIte, Nat.reduceEqDiff, Nat.reduceAdd, Nat.reduceMul, Nat.reduceLT, Nat.reduceLeDiff, Nat.reduceSub, Int.reduceToNat, Int.reduceLE, Int.reduceLT, reduceCtorEq, Int.reduceEq, Int.reduceGT, Int.reduceGE, Int.reduceNeg, p1, e7, qcell, p8, splice_zero, List.map_cons, List.map_nil, List.length_cons, List.length_nil, List.drop_succ_cons, List.drop_zero, List.cons_append, List.nil_append, s1, s2, r7, r8]
        refine ⟨by omega, by omega, by omega, by omega, by rw [List.length_map]; omega, by omega, by rw [ByteArray.size_extract, ByteArray.size_extract]; omega, by omega, by rw [List.length_map]; omega, kLoop_mk (t + 1) (by omega) (by omega) ?_⟩
        refine sub_mk [] rfl rfl rfl ?_
        simp only [tmSub, hpSub, objSub, eqTm, eqHp, rn, lk, SV.ren, SV.renC, SV.renB, SV.renA, ren_ints, ren_strs, ren_pl, ren_svs, SV.v.injEq, Value.int.injEq, Body.ints.injEq, SV.ptr.injEq, SV.sl.injEq, Value.string.injEq, Value.bool.injEq, List.map_cons, List.map_nil, forall_const, Nat.reduceLT, Nat.lt_add_one, imp_self, true_and, and_true, and_self, ob_some, get_mk, lk_cons, ↓reduceIte, Nat.reduceEqDiff, ne_eq, not_true_eq_false, not_false_eq_true, Nat.one_ne_zero, Nat.zero_ne_one, Nat.succ_ne_self, Nat.reduceAdd, Bool.false_eq_true, false_implies, implies_true, reduceCtorEq]
        rw [wrap_i64 (by omega) (by omega)]
        exact Int.natCast_add t 1
      · have e7 : decide ((m : Int) > 0) = true := decide_eq_true (by omega)
        have hmod : (t : Int).tmod (m : Int) = ((t % m : Nat) : Int) := by rw [Int.tmod_eq_emod_of_nonneg (by omega)]; exact (Int.natCast_emod t m).symm
        have hlt : t % m < m := Nat.mod_lt _ (by omega)
        have hg := hkg (t % m) hlt
        have hcl : min (max (ks.getD (t % m) 0) 0) 64 = ((keepN ks t : Nat) : Int) := by
          unfold keepN clampN; rw [if_neg (by omega), hkl]; omega
        simp -implicitDefEqProofs only [go_sem, ↓reduceIte, Nat.reduceEqDiff, Nat.reduceAdd, Nat.reduceMul, Nat.reduceLT, Nat.reduceLeDiff, Nat.reduceSub, Int.reduceToNat, Int.reduceLE, Int.reduceLT, reduceCtorEq, Int.reduceEq, Int.reduceGT, Int.reduceGE, Int.reduceNeg, p1, e7, hmod, hg, hcl, qcell, p8, splice_zero, List.map_cons, List.map_nil, List.length_cons, List.length_nil, List.drop_succ_cons, List.drop_zero, List.cons_append, List.nil_append, s1, s2, r7, r8]
        refine ⟨by omega, by omega, by omega, by omega, by omega, by omega, by omega, by rw [List.length_map]; omega, by omega, by rw [ByteArray.size_extract, ByteArray.size_extract]; omega, by omega, by rw [List.length_map]; omega, kLoop_mk (t + 1) (by omega) (by omega) ?_⟩
        refine sub_mk [] rfl rfl rfl ?_
        simp only [tmSub, hpSub, objSub, eqTm, eqHp, rn, lk, SV.ren, SV.renC, SV.renB, SV.renA, ren_ints, ren_strs, ren_pl, ren_svs, SV.v.injEq, Value.int.injEq, Body.ints.injEq, SV.ptr.injEq, SV.sl.injEq, Value.string.injEq, Value.bool.injEq, List.map_cons, List.map_nil, forall_const, Nat.reduceLT, Nat.lt_add_one, imp_self, true_and, and_true, and_self, ob_some, get_mk, lk_cons, ↓reduceIte, Nat.reduceEqDiff, ne_eq, not_true_eq_false, not_false_eq_true, Nat.one_ne_zero, Nat.zero_ne_one, Nat.succ_ne_self, Nat.reduceAdd, Bool.false_eq_true, false_implies, implies_true, reduceCtorEq]
        rw [wrap_i64 (by omega) (by omega)]
        exact Int.natCast_add t 1
    · have c6 : t = d.pend.length := by simp only [decide_eq_false_iff_not] at e6; omega
      subst c6
      simp -implicitDefEqProofs only [go_sem, ↓reduceIte, Nat.reduceEqDiff, Nat.reduceAdd, Nat.reduceMul, Nat.reduceLT, Nat.reduceLeDiff, Nat.reduceSub, Int.reduceToNat, Int.reduceLE, Int.reduceLT, reduceCtorEq, Int.reduceEq, Int.reduceGT, Int.reduceGE, Int.reduceNeg]
      refine sub_mk [] rfl rfl rfl ?_
      simp only [tmSub, hpSub, objSub, eqTm, eqHp, rn, lk, SV.ren, SV.renC, SV.renB, SV.renA, ren_ints, ren_strs, ren_pl, ren_svs, SV.v.injEq, Value.int.injEq, Body.ints.injEq, SV.ptr.injEq, SV.sl.injEq, Value.string.injEq, Value.bool.injEq, List.map_cons, List.map_nil, forall_const, Nat.reduceLT, Nat.lt_add_one, imp_self, true_and, and_true, and_self, ob_some, get_mk, lk_cons, ↓reduceIte, Nat.reduceEqDiff, ne_eq, not_true_eq_false, not_false_eq_true, Nat.one_ne_zero, Nat.zero_ne_one, Nat.succ_ne_self, Nat.reduceAdd, Bool.false_eq_true, false_implies, implies_true, reduceCtorEq]
end Go.Sx

/- Layer 3: the reference's device: its functions. -/
set_option linter.unusedVariables false
set_option linter.unusedSimpArgs false
set_option maxRecDepth 100000
namespace Go.Sx
attribute [local go_sem ↓] bind_mk intsB_mk strsB_mk svB_mk fnVC ob_some vc_skip vc_exit vc_ret vc_seq vc_block kSeq_normal kSeq_exit kSeq_ret kBlock_normal kBlock_exit kBlock_ret vc_reg vc_regD vc_cond condK_true condK_false vc_loop kLoop_exit kLoop_ret kRoll_normal kRoll_exit kRoll_ret vcOps_nil vcOps_cons gd_bool gd_undef put_some put_none vcT_fin vcT_pure vcT_act vcT_acts vcT_stop stab_none stab_some stabM_nil stabM_cons stabO_ld stabO_ldn stabO_slP stabO_b2s fldOf_ai fldOf_agg fldOf_ait fldOf_aggt intsOf_nil intsOf_cons strsOf_nil strsOf_cons c_omap ob_if lk_nil lk_cons ev_t ev_k z_mov z_pick z_bin z_binB z_binP z_un z_conv z_s2b z_b2s z_alloc z_bld z_bldI z_rowI z_rowS z_ld z_ldn z_st z_stn asN_ptr asN_fn z_nilck z_fld z_fadr z_idxA z_idxP z_idxS z_idxV z_slS z_slL z_slP z_mk z_lenS z_lenL z_app z_appS z_appZ z_cpyS z_mkfn reps_int reps_str z_rowV z_slnil nilK_zero z_cpy z_call asT_tup z_extT z_box boxOf_ai boxOf_agg boxOf_int boxOf_str boxOf_bool boxOf_ptr boxOf_sl sbin_int sbin_str sbinB_mk sbinP_nn sbinP_pn sbinP_np i_add i_sub i_mul i_quo i_rem i_and i_or i_xor i_andNot i_shl i_shr i_eql i_neq i_lss i_leq i_gtr i_geq st_add st_eql st_neq st_lss st_leq st_gtr st_geq bo_eql bo_neq pt_eql pt_neq un_neg un_xor un_not asI_mk asB_mk asS_mk asP_mk asSl_mk asBy_mk bnd_none bnd_some get_mk hput_mk hdel_mk kill_eq wrOf_eq rowOf_eq rsvs_0 rsvs_1 rsvs_2 rsvs_3 rsv_t rsv_c1 rsv_cn nt_v nt_ptr nt_sl nt_agg nt_ai get_ints get_strs get_pl get_sv getN_ints getN_sv set_ints set_strs set_sv setN_ints setN_sv part_ints part_strs part_sv cat_ints cat_strs cat_sv over_ints ones_ints ones_strs evs_nil evs_cons condK_eqt condK_eqf det_callP V_ns V_nn V_gs V_gn obC_mk fresh_ev setN_plagg setN_intsv setN_svai setN_svagg over_intsv set_pl setN_pl setN_plai getN_pl getN_strs part_pl cat_pl over_pl over_plints z_mm
attribute [local go_sem] initTm ne_eq not_true_eq_false not_false_eq_true true_and and_true List.length_cons List.length_nil Int.toNat_natCast Nat.add_zero Nat.zero_add Nat.mul_one List.getElem?_cons_zero List.drop_zero List.take_length List.take_succ_cons List.take_zero List.take_nil List.drop_succ_cons Option.map_some Nat.le_refl implies_true List.getElem?_cons_succ decide_true decide_false Bool.not_true Bool.not_false beq_self_eq_true Nat.succ_ne_self Nat.one_ne_zero Nat.zero_ne_one vk_mk hk_mk nk_mk tok_eq plsOf_map intsOf_map bodyOf_pl bodyOf_ints bodyOf_strs bodyOf_sv part_aggv part_agg part_ai part_int part_str part_bool part_sl part_ptr part_nil numsOf_map u_int u_str u_bool u_pnil u_sl u_ptr u_oci u_ocs evq_nil evq_cons fillS_nil fillS_cons u_ocb ones_pl cells_sv cells_ints cells_strs cells_pl smms_nil smms_cons smm_min smm_max plsOf_nil List.nil_append List.all_cons List.all_nil Bool.and_self Bool.true_and Bool.and_true zws_len zw_len zi_len List.set_cons_zero List.set_cons_succ List.flatMap_cons List.flatMap_nil List.append_nil
open Go.Proofs
variable {H : Hp} {n : Nat} {x : Nat → Option SO} {d d' : Fd} {i a b c : Nat} {u1 u2 u3 : Bool}

/-- The reference's device: its rows at a (what is safe) and b (the writes). -/
structure RefAt (H : Hp) (d : Fd) (i a b : Nat) (u1 u2 u3 : Bool) : Prop where
  gi : H.get i = some ⟨u1, refB d a b⟩
  ga : H.get a = some ⟨u2, strB d.safe⟩
  gb : H.get b = some ⟨u3, .pl (qrow d.pend)⟩
  ne : (0 < i ∧ 0 < a ∧ 0 < b) ∧ (i < 1000 ∧ a < 1000 ∧ b < 1000) ∧ i ≠ a ∧ i ≠ b ∧ a ≠ b
def rp3 (d : Fd) (x : Nat → Option SO) : Hp := ⟨[(1, some ⟨true, refB d 2 3⟩), (2, some ⟨false, strB d.safe⟩), (3, some ⟨false, .pl (qrow d.pend)⟩)], x⟩
theorem seS9 {r o m : Nat} {row ks : List Int} (h : RefAt H d i a b u1 u2 u3) (hd : d.ok) (hom : o + m ≤ row.length) (hr : rowAt H r (.ints .i64 []) = some (.ints .i64 row)) (hne : i ≠ r ∧ a ≠ r ∧ b ≠ r) (hn : n < 1000) (hk : (row.drop o).take m = ks) :
    SpecAt Try.prog 39 [.ptr i 0, .sl r o m 1] H n (.sl n 0 d.seen.length 1) ⟨(n, some ⟨true, strB (crl d.safe d.pend (keepN ks) d.pend.length)⟩) :: H.l, H.x⟩ (n + 1) := by
  subst hk
  obtain ⟨hi, ha, hb, ⟨p1, p2, p3⟩, ⟨q1, q2, q3⟩, n1, n2, n3⟩ := h
  have := lift (n := n) (ok3.spec t39 (w39 (x := H.x) hd hom)) [(1, i), (2, a), (3, b), (4, r)] rfl rfl rfl (by omega) rfl rfl
    ⟨sub_ro rfl p1 hi rfl, sub_ro rfl p2 ha rfl, sub_ro rfl p3 hb rfl, rowAt_sub hr rfl ⟨rfl, fun _ h => (by cases h)⟩ rfl, trivial⟩
    (by simp [apartB, apart1, rn, lk, n1, n2, n3, hne.1, hne.2.1, hne.2.2, Ne.symm n1, Ne.symm n2, Ne.symm n3]) (by simp [wrNZ, rn, lk]; try omega) (by omega)
  exact this
theorem qrow_get {ws : List (Nat × List Int)} {j r : Nat} (hj : j < ws.length) (hr : r < 2) : (qrow ws)[j * 2 + r]? = (qcell (ws.getD j (0, [])))[r]? := by
  rw [← qrow_at hj, List.getElem?_take, if_pos hr, List.getElem?_drop]
theorem qrow_get0 {ws : List (Nat × List Int)} {j : Nat} (hj : j < ws.length) : (qrow ws)[j * 2]? = some (.int .i64 (ws.getD j (0, [])).1) := qrow_get (r := 0) hj (by decide)
theorem qrow_get1 {ws : List (Nat × List Int)} {j : Nat} (hj : j < ws.length) : (qrow ws)[j * 2 + 1]? = some (.string (tx (ws.getD j (0, [])).2)) := qrow_get (r := 1) hj (by decide)
/-- All of it. -/
theorem crl_setl {S : List (List Int)} {ws : List (Nat × List Int)} (hS : ∀ s ∈ S, s.length = 64) (hw : ∀ w ∈ ws, w.1 < S.length ∧ w.2.length = 64) : ∀ t, t ≤ ws.length → crl S ws (keepN [64]) t = setl S (ws.take t)
  | 0, _ => rfl
  | t + 1, ht => by
    have c6 : t < ws.length := by omega
    have ih := crl_setl hS hw t (by omega)
    have hall := crl_all (kf := keepN [64]) hS hw t (by omega)
    have hk : keepN [64] t = 64 := by unfold keepN; rw [if_neg (by simp)]; simp only [List.length_cons, List.length_nil, Nat.zero_add, Nat.mod_one]; rfl
    have hw' := hw (ws.getD t (0, [])) (by rw [List.getD_eq_getElem?_getD, List.getElem?_eq_getElem c6]; exact List.getElem_mem c6)
    have hg := getD_len hall (j := (ws.getD t (0, [])).1) (by rw [crl_len]; exact hw'.1)
    simp only [crl]
    rw [setl_succ c6, ← ih, hk, List.take_of_length_le (by omega), List.drop_of_length_le (by omega), List.append_nil]
theorem crl_all64 (hd : d.ok) : crl d.safe d.pend (keepN [64]) d.pend.length = setl d.safe d.pend := by
  obtain ⟨h1, h2, h3, h4, h5, h6, h7, h8, h9, h10⟩ := hd
  rw [crl_setl h2 (fun w hw => ⟨by rw [h3]; exact (h5 w hw).1, (h5 w hw).2⟩) _ (Nat.le_refl _), List.take_length]
/-! ### A step -/
theorem w38 (hd : d.ok) : fnVC C3 m38 [.ptr 1 0] (rp3 d x) 4 fun v H' n' => Sub 4 ⟨[(0, .v (.int .i64 (stepE d)))], rp3 (stepD d) x, 4⟩ ⟨[(0, v)], H', n'⟩ := by
  obtain ⟨h1, h2, h3, h4, h5, h6, h7, h8, h9, h10⟩ := hd
  unfold rp3 refB m38
  simp -implicitDefEqProofs only [↓fnVC, initTm]
  simp -implicitDefEqProofs only [go_sem, ↓reduceIte, Nat.reduceEqDiff, Nat.reduceAdd, Nat.reduceMul, Nat.reduceLT, Nat.reduceLeDiff, Nat.reduceSub, Int.reduceToNat, Int.reduceLE, Int.reduceLT, reduceCtorEq, Int.reduceEq, Int.reduceGT, Int.reduceGE, Int.reduceNeg]
  refine condK_bb (fun e4 => ?_) (fun e4 => ?_)
  · simp only [decide_eq_true_eq] at e4
    by_cases c4 : d.fa = 1
    · have e5 : decide (IntKind.i64.wrap (d.fa - 1) = 0) = true := by rw [c4]; rfl
      have q0 : stepE d = 7 := by unfold stepE; rw [if_pos c4]
      have q1 : stepD d = { d with fa := 0, off := true } := by unfold stepD; rw [if_pos c4]
      have q2 : IntKind.i64.wrap (d.fa - 1) = 0 := by rw [c4]; rfl
      simp -implicitDefEqProofs only [go_sem, ↓reduceIte, Nat.reduceEqDiff, Nat.reduceAdd, Nat.reduceMul, Nat.reduceLT, Nat.reduceLeDiff, Nat.reduceSub, Int.reduceToNat, Int.reduceLE, Int.reduceLT, reduceCtorEq, Int.reduceEq, Int.reduceGT, Int.reduceGE, Int.reduceNeg, e5, q0, q1, q2]
      refine sub_mk [] rfl rfl rfl ?_
      simp only [tmSub, hpSub, objSub, eqTm, eqHp, rn, lk, SV.ren, SV.renC, SV.renB, SV.renA, ren_ints, ren_strs, ren_pl, ren_svs, SV.v.injEq, Value.int.injEq, Body.ints.injEq, SV.ptr.injEq, SV.sl.injEq, Value.string.injEq, Value.bool.injEq, List.map_cons, List.map_nil, forall_const, Nat.reduceLT, Nat.lt_add_one, imp_self, true_and, and_true, and_self, ob_some, get_mk, lk_cons, ↓reduceIte, Nat.reduceEqDiff, ne_eq, not_true_eq_false, not_false_eq_true, Nat.one_ne_zero, Nat.zero_ne_one, Nat.succ_ne_self, Nat.reduceAdd, Bool.false_eq_true, false_implies, implies_true, reduceCtorEq]
      rfl
    · have e5 : decide (IntKind.i64.wrap (d.fa - 1) = 0) = false := decide_eq_false (by rw [wrap_i64 (by omega) (by omega)]; omega)
      have q0 : stepE d = 0 := by unfold stepE; rw [if_neg c4]
      have q1 : stepD d = { d with fa := d.fa - 1, st := d.st + 1 } := by rw [stepD_no c4, if_pos (by omega)]
      simp -implicitDefEqProofs only [go_sem, ↓reduceIte, Nat.reduceEqDiff, Nat.reduceAdd, Nat.reduceMul, Nat.reduceLT, Nat.reduceLeDiff, Nat.reduceSub, Int.reduceToNat, Int.reduceLE, Int.reduceLT, reduceCtorEq, Int.reduceEq, Int.reduceGT, Int.reduceGE, Int.reduceNeg, e5, q0, q1]
      rw [wrap_i64 (n := d.fa - 1) (by omega) (by omega), wrap_i64 (n := d.st + 1) (by omega) (by omega)]
      refine sub_mk [] rfl rfl rfl ?_
      simp only [tmSub, hpSub, objSub, eqTm, eqHp, rn, lk, SV.ren, SV.renC, SV.renB, SV.renA, ren_ints, ren_strs, ren_pl, ren_svs, SV.v.injEq, Value.int.injEq, Body.ints.injEq, SV.ptr.injEq, SV.sl.injEq, Value.string.injEq, Value.bool.injEq, List.map_cons, List.map_nil, forall_const, Nat.reduceLT, Nat.lt_add_one, imp_self, true_and, and_true, and_self, ob_some, get_mk, lk_cons, ↓reduceIte, Nat.reduceEqDiff, ne_eq, not_true_eq_false, not_false_eq_true, Nat.one_ne_zero, Nat.zero_ne_one, Nat.succ_ne_self, Nat.reduceAdd, Bool.false_eq_true, false_implies, implies_true, reduceCtorEq]
      rfl
  · simp only [decide_eq_false_iff_not] at e4
    have q0 : stepE d = 0 := by unfold stepE; rw [if_neg (by omega)]
    have q1 : stepD d = { d with fa := d.fa, st := d.st + 1 } := by rw [stepD_no (by omega), if_neg (by omega)]
    simp -implicitDefEqProofs only [go_sem, ↓reduceIte, Nat.reduceEqDiff, Nat.reduceAdd, Nat.reduceMul, Nat.reduceLT, Nat.reduceLeDiff, Nat.reduceSub, Int.reduceToNat, Int.reduceLE, Int.reduceLT, reduceCtorEq, Int.reduceEq, Int.reduceGT, Int.reduceGE, Int.reduceNeg, q0, q1]
    rw [wrap_i64 (n := d.st + 1) (by omega) (by omega)]
    refine sub_mk [] rfl rfl rfl ?_
    simp only [tmSub, hpSub, objSub, eqTm, eqHp, rn, lk, SV.ren, SV.renC, SV.renB, SV.renA, ren_ints, ren_strs, ren_pl, ren_svs, SV.v.injEq, Value.int.injEq, Body.ints.injEq, SV.ptr.injEq, SV.sl.injEq, Value.string.injEq, Value.bool.injEq, List.map_cons, List.map_nil, forall_const, Nat.reduceLT, Nat.lt_add_one, imp_self, true_and, and_true, and_self, ob_some, get_mk, lk_cons, ↓reduceIte, Nat.reduceEqDiff, ne_eq, not_true_eq_false, not_false_eq_true, Nat.one_ne_zero, Nat.zero_ne_one, Nat.succ_ne_self, Nat.reduceAdd, Bool.false_eq_true, false_implies, implies_true, reduceCtorEq]
    rfl
theorem stS38 (h : RefAt H d i a b true u2 u3) (hd : d.ok) :
    SpecAt Try.prog 38 [.ptr i 0] H n (.v (.int .i64 (stepE d))) ⟨(i, some ⟨true, refB (stepD d) a b⟩) :: H.l, H.x⟩ n := by
  obtain ⟨hi, ha, hb, ⟨p1, p2, p3⟩, ⟨q1, q2, q3⟩, n1, n2, n3⟩ := h
  have := lift (n := n) (ok3.spec t38 (w38 (x := H.x) hd)) [(1, i), (2, a), (3, b)] rfl rfl rfl (by omega) rfl rfl
    ⟨sub_wr rfl p1 q1 hi rfl, sub_ro rfl p2 ha rfl, sub_ro rfl p3 hb rfl, trivial⟩
    (by simp [apartB, apart1, rn, lk, n1, n2, n3, Ne.symm n1, Ne.symm n2, Ne.symm n3]) (by simp [wrNZ, rn, lk]; try omega) (by omega)
  exact this
/-! ### Barrier, Crash, Fall -/
theorem stepD_safe : (stepD d).safe = d.safe ∧ (stepD d).pend = d.pend ∧ (stepD d).seen = d.seen := by unfold stepD; split <;> exact ⟨rfl, rfl, rfl⟩
theorem stepD_ok (hd : d.ok) (hst : d.st < 1000000000000) : (stepD d).ok := by
  obtain ⟨h1, h2, h3, h4, h5, h6, h7, h8, h9, h10⟩ := hd
  unfold stepD
  split
  · exact ⟨h1, h2, h3, h4, h5, h6, h7, h8, Int.le_refl _, by simp only; omega⟩
  · exact ⟨h1, h2, h3, h4, h5, h6, by simp only; omega, by simp only; omega, by simp only; split <;> omega, by simp only; split <;> omega⟩
theorem w32 (hd : d.ok) (hst : d.st < 1000000000000) (hoff : d.off = false) (hfa : d.fa ≠ 1) :
    fnVC C3 m32 [.ptr 1 0] (rp3 d x) 4 fun v H' n' => Sub 4 ⟨[(0, .v (.int .i64 0))], ⟨[(1, some ⟨true, refB (baD d) 4 5⟩), (2, some ⟨false, strB d.safe⟩), (3, some ⟨false, .pl (qrow d.pend)⟩), (4, some ⟨true, strB (baD d).safe⟩), (5, some ⟨true, .pl (qrow (baD d).pend)⟩)], x⟩, 6⟩ ⟨[(0, v)], H', n'⟩ := by
  have q0 : stepE d = 0 := by unfold stepE; rw [if_neg hfa]
  have hd' := stepD_ok hd hst
  have hs := stepD_safe (d := d)
  have q1 := crl_all64 hd
  have q2 : (baD d).st = (stepD d).st ∧ (baD d).fa = (stepD d).fa ∧ (baD d).off = (stepD d).off ∧ (baD d).seen = d.seen ∧ (baD d).safe = setl d.safe d.pend ∧ (baD d).pend = [] := ⟨rfl, rfl, rfl, baD_seen, rfl, rfl⟩
  unfold rp3 m32
  simp -implicitDefEqProofs only [↓fnVC, initTm]
  simp -implicitDefEqProofs only [go_sem, ↓reduceIte, Nat.reduceEqDiff, Nat.reduceAdd, Nat.reduceMul, Nat.reduceLT, Nat.reduceLeDiff, Nat.reduceSub, Int.reduceToNat, Int.reduceLE, Int.reduceLT, reduceCtorEq, Int.reduceEq, Int.reduceGT, Int.reduceGE, Int.reduceNeg, refB, hoff]
  refine at_call t38 (stS38 (i := 1) (a := 2) (b := 3) (d := d) ⟨by unfold refB; rw [hoff]; rfl, rfl, rfl, by decide⟩ hd) ?_
  simp -implicitDefEqProofs only [go_sem, ↓reduceIte, Nat.reduceEqDiff, Nat.reduceAdd, Nat.reduceMul, Nat.reduceLT, Nat.reduceLeDiff, Nat.reduceSub, Int.reduceToNat, Int.reduceLE, Int.reduceLT, reduceCtorEq, Int.reduceEq, Int.reduceGT, Int.reduceGE, Int.reduceNeg, q0]
  refine at_call t39 (seS9 (i := 1) (a := 2) (b := 3) (d := stepD d) (r := 4) (o := 0) (m := 1) (row := [64]) (ks := [64]) ⟨rfl, by rw [hs.1]; rfl, by rw [hs.2.1]; rfl, by decide⟩ hd' (Nat.le_refl _) rfl (by decide) (by decide) rfl) ?_
  rw [hs.1, hs.2.1, hs.2.2, q1]
  simp -implicitDefEqProofs only [go_sem, ↓reduceIte, Nat.reduceEqDiff, Nat.reduceAdd, Nat.reduceMul, Nat.reduceLT, Nat.reduceLeDiff, Nat.reduceSub, Int.reduceToNat, Int.reduceLE, Int.reduceLT, reduceCtorEq, Int.reduceEq, Int.reduceGT, Int.reduceGE, Int.reduceNeg, refB, hs.2.1, hs.2.2]
  rw [q2.1, q2.2.1, q2.2.2.1, q2.2.2.2.1, q2.2.2.2.2.1, q2.2.2.2.2.2]
  refine sub_mk [(4, 5), (5, 0)] rfl rfl rfl ?_
  simp only [tmSub, hpSub, objSub, eqTm, eqHp, rn, lk, SV.ren, SV.renC, SV.renB, SV.renA, ren_ints, ren_strs, ren_pl, ren_svs, SV.v.injEq, Value.int.injEq, Body.ints.injEq, SV.ptr.injEq, SV.sl.injEq, Value.string.injEq, Value.bool.injEq, List.map_cons, List.map_nil, forall_const, Nat.reduceLT, Nat.lt_add_one, imp_self, true_and, and_true, and_self, ob_some, get_mk, lk_cons, ↓reduceIte, Nat.reduceEqDiff, ne_eq, not_true_eq_false, not_false_eq_true, Nat.one_ne_zero, Nat.zero_ne_one, Nat.succ_ne_self, Nat.reduceAdd, Bool.false_eq_true, false_implies, implies_true, reduceCtorEq]
  exact ⟨rfl, rfl, rfl, rfl⟩
theorem w32n {e : Int} (hd : d.ok) (hn : (if d.off then some ((7 : Int), d) else if d.fa = 1 then some (7, stepD d) else none) = some (e, d')) :
    fnVC C3 m32 [.ptr 1 0] (rp3 d x) 4 fun v H' n' => Sub 4 ⟨[(0, .v (.int .i64 e))], rp3 d' x, 4⟩ ⟨[(0, v)], H', n'⟩ := by
  have hs := stepD_safe (d := d)
  unfold rp3 m32
  simp -implicitDefEqProofs only [↓fnVC, initTm]
  cases hoff : d.off with
  | true =>
    rw [hoff, if_pos rfl] at hn
    cases hn
    simp -implicitDefEqProofs only [go_sem, ↓reduceIte, Nat.reduceEqDiff, Nat.reduceAdd, Nat.reduceMul, Nat.reduceLT, Nat.reduceLeDiff, Nat.reduceSub, Int.reduceToNat, Int.reduceLE, Int.reduceLT, reduceCtorEq, Int.reduceEq, Int.reduceGT, Int.reduceGE, Int.reduceNeg, refB, hoff]
    refine sub_mk [] rfl rfl rfl ?_
    simp only [tmSub, hpSub, objSub, eqTm, eqHp, rn, lk, SV.ren, SV.renC, SV.renB, SV.renA, ren_ints, ren_strs, ren_pl, ren_svs, SV.v.injEq, Value.int.injEq, Body.ints.injEq, SV.ptr.injEq, SV.sl.injEq, Value.string.injEq, Value.bool.injEq, List.map_cons, List.map_nil, forall_const, Nat.reduceLT, Nat.lt_add_one, imp_self, true_and, and_true, and_self, ob_some, get_mk, lk_cons, ↓reduceIte, Nat.reduceEqDiff, ne_eq, not_true_eq_false, not_false_eq_true, Nat.one_ne_zero, Nat.zero_ne_one, Nat.succ_ne_self, Nat.reduceAdd, Bool.false_eq_true, false_implies, implies_true, reduceCtorEq, hoff]
    rfl
  | false =>
    rw [hoff, if_neg (by simp)] at hn
    split at hn
    · rename_i c4
      cases hn
      have q0 : stepE d = 7 := by unfold stepE; rw [if_pos c4]
      simp -implicitDefEqProofs only [go_sem, ↓reduceIte, Nat.reduceEqDiff, Nat.reduceAdd, Nat.reduceMul, Nat.reduceLT, Nat.reduceLeDiff, Nat.reduceSub, Int.reduceToNat, Int.reduceLE, Int.reduceLT, reduceCtorEq, Int.reduceEq, Int.reduceGT, Int.reduceGE, Int.reduceNeg, refB, hoff]
      refine at_call t38 (stS38 (i := 1) (a := 2) (b := 3) (d := d) ⟨by unfold refB; rw [hoff]; rfl, rfl, rfl, by decide⟩ hd) ?_
      simp -implicitDefEqProofs only [go_sem, ↓reduceIte, Nat.reduceEqDiff, Nat.reduceAdd, Nat.reduceMul, Nat.reduceLT, Nat.reduceLeDiff, Nat.reduceSub, Int.reduceToNat, Int.reduceLE, Int.reduceLT, reduceCtorEq, Int.reduceEq, Int.reduceGT, Int.reduceGE, Int.reduceNeg, q0]
      rw [hs.1, hs.2.1]
      refine sub_mk [] rfl rfl rfl ?_
      simp only [tmSub, hpSub, objSub, eqTm, eqHp, rn, lk, SV.ren, SV.renC, SV.renB, SV.renA, ren_ints, ren_strs, ren_pl, ren_svs, SV.v.injEq, Value.int.injEq, Body.ints.injEq, SV.ptr.injEq, SV.sl.injEq, Value.string.injEq, Value.bool.injEq, List.map_cons, List.map_nil, forall_const, Nat.reduceLT, Nat.lt_add_one, imp_self, true_and, and_true, and_self, ob_some, get_mk, lk_cons, ↓reduceIte, Nat.reduceEqDiff, ne_eq, not_true_eq_false, not_false_eq_true, Nat.one_ne_zero, Nat.zero_ne_one, Nat.succ_ne_self, Nat.reduceAdd, Bool.false_eq_true, false_implies, implies_true, reduceCtorEq]
      exact ⟨rfl, rfl⟩
    · cases hn
/-- Crash: the row of numbers at 4. -/
theorem w35 {row : List Int} {o m : Nat} (hd : d.ok) (hom : o + m ≤ row.length) :
    fnVC C3 m35 [.ptr 1 0, .agg [.sl 4 o m 1]] ⟨[(1, some ⟨true, refB d 2 3⟩), (2, some ⟨false, strB d.safe⟩), (3, some ⟨false, .pl (qrow d.pend)⟩), (4, some ⟨false, .ints .i64 row⟩)], x⟩ 5
      fun v H' n' => Sub 5 ⟨[(0, .tup [])], ⟨[(1, some ⟨true, refB (crD d ((row.drop o).take m)) 5 6⟩), (2, some ⟨false, strB d.safe⟩), (3, some ⟨false, .pl (qrow d.pend)⟩), (4, some ⟨false, .ints .i64 row⟩),
        (5, some ⟨true, strB (crD d ((row.drop o).take m)).safe⟩), (6, some ⟨true, .pl (qrow (crD d ((row.drop o).take m)).pend)⟩)], x⟩, 7⟩ ⟨[(0, v)], H', n'⟩ := by
  have q2 : (crD d ((row.drop o).take m)).seen.length = d.seen.length := by
    show (crl _ _ _ _).length = _
    rw [crl_len, hd.len]
  unfold m35
  simp -implicitDefEqProofs only [↓fnVC, initTm]
  simp -implicitDefEqProofs only [go_sem, ↓reduceIte, Nat.reduceEqDiff, Nat.reduceAdd, Nat.reduceMul, Nat.reduceLT, Nat.reduceLeDiff, Nat.reduceSub, Int.reduceToNat, Int.reduceLE, Int.reduceLT, reduceCtorEq, Int.reduceEq, Int.reduceGT, Int.reduceGE, Int.reduceNeg, refB, splice_zero]
  refine at_call t39 (seS9 (i := 1) (a := 2) (b := 3) (d := d) (r := 4) (o := o) (m := m) (row := row) (ks := (row.drop o).take m) ⟨rfl, rfl, rfl, by decide⟩ hd hom rfl (by decide) (by decide) rfl) ?_
  simp -implicitDefEqProofs only [go_sem, ↓reduceIte, Nat.reduceEqDiff, Nat.reduceAdd, Nat.reduceMul, Nat.reduceLT, Nat.reduceLeDiff, Nat.reduceSub, Int.reduceToNat, Int.reduceLE, Int.reduceLT, reduceCtorEq, Int.reduceEq, Int.reduceGT, Int.reduceGE, Int.reduceNeg, refB]
  rw [q2]
  refine sub_mk [(5, 6), (6, 0)] rfl rfl rfl ?_
  simp only [tmSub, hpSub, objSub, eqTm, eqHp, rn, lk, SV.ren, SV.renC, SV.renB, SV.renA, ren_ints, ren_strs, ren_pl, ren_svs, SV.v.injEq, Value.int.injEq, Body.ints.injEq, SV.ptr.injEq, SV.sl.injEq, Value.string.injEq, Value.bool.injEq, List.map_cons, List.map_nil, forall_const, Nat.reduceLT, Nat.lt_add_one, imp_self, true_and, and_true, and_self, ob_some, get_mk, lk_cons, ↓reduceIte, Nat.reduceEqDiff, ne_eq, not_true_eq_false, not_false_eq_true, Nat.one_ne_zero, Nat.zero_ne_one, Nat.succ_ne_self, Nat.reduceAdd, Bool.false_eq_true, false_implies, implies_true, reduceCtorEq]
  exact ⟨rfl, rfl, rfl, rfl⟩
theorem w34 {k : Int} : fnVC C3 m34 [.ptr 1 0, .v (.int .i64 k)] (rp3 d x) 4 fun v H' n' => Sub 4 ⟨[(0, .tup [])], rp3 { d with fa := max k 0 } x, 4⟩ ⟨[(0, v)], H', n'⟩ := by
  unfold rp3 m34
  simp -implicitDefEqProofs only [↓fnVC, initTm]
  simp -implicitDefEqProofs only [go_sem, ↓reduceIte, Nat.reduceEqDiff, Nat.reduceAdd, Nat.reduceMul, Nat.reduceLT, Nat.reduceLeDiff, Nat.reduceSub, Int.reduceToNat, Int.reduceLE, Int.reduceLT, reduceCtorEq, Int.reduceEq, Int.reduceGT, Int.reduceGE, Int.reduceNeg, refB]
  refine sub_mk [] rfl rfl rfl ?_
  simp only [tmSub, hpSub, objSub, eqTm, eqHp, rn, lk, SV.ren, SV.renC, SV.renB, SV.renA, ren_ints, ren_strs, ren_pl, ren_svs, SV.v.injEq, Value.int.injEq, Body.ints.injEq, SV.ptr.injEq, SV.sl.injEq, Value.string.injEq, Value.bool.injEq, List.map_cons, List.map_nil, forall_const, Nat.reduceLT, Nat.lt_add_one, imp_self, true_and, and_true, and_self, ob_some, get_mk, lk_cons, ↓reduceIte, Nat.reduceEqDiff, ne_eq, not_true_eq_false, not_false_eq_true, Nat.one_ne_zero, Nat.zero_ne_one, Nat.succ_ne_self, Nat.reduceAdd, Bool.false_eq_true, false_implies, implies_true, reduceCtorEq]
  rfl
/-! ### Write -/
/-- Only looked at. -/
def rp3s (d : Fd) (x : Nat → Option SO) : Hp := ⟨[(1, some ⟨false, refB d 2 3⟩), (2, some ⟨false, strB d.safe⟩), (3, some ⟨false, .pl (qrow d.pend)⟩)], x⟩
def inE (d : Fd) (k : Int) : Int := if d.off then 7 else if k < 0 ∨ (d.seen.length : Int) ≤ k then 1 else 0
theorem w40 {k : Int} : fnVC C3 m40 [.ptr 1 0, .v (.int .i64 k)] (rp3s d x) 4 fun v H' n' => v = .v (.int .i64 (inE d k)) ∧ H' = rp3s d x ∧ n' = 4 := by
  unfold rp3s refB m40
  simp -implicitDefEqProofs only [↓fnVC, initTm]
  cases hoff : d.off with
  | true =>
    have q : inE d k = 7 := by unfold inE; rw [if_pos hoff]
    simp -implicitDefEqProofs only [go_sem, ↓reduceIte, Nat.reduceEqDiff, Nat.reduceAdd, Nat.reduceMul, Nat.reduceLT, Nat.reduceLeDiff, Nat.reduceSub, Int.reduceToNat, Int.reduceLE, Int.reduceLT, reduceCtorEq, Int.reduceEq, Int.reduceGT, Int.reduceGE, Int.reduceNeg, hoff, q]
  | false =>
    have hof : ¬ (d.off = true) := by rw [hoff]; simp
    by_cases c1 : k < 0
    · have q : inE d k = 1 := by unfold inE; rw [if_neg hof, if_pos (.inl c1)]
      have e1 : decide (k < 0) = true := decide_eq_true c1
      simp -implicitDefEqProofs only [go_sem, ↓reduceIte, Nat.reduceEqDiff, Nat.reduceAdd, Nat.reduceMul, Nat.reduceLT, Nat.reduceLeDiff, Nat.reduceSub, Int.reduceToNat, Int.reduceLE, Int.reduceLT, reduceCtorEq, Int.reduceEq, Int.reduceGT, Int.reduceGE, Int.reduceNeg, hoff, q, e1]
    by_cases c2 : (d.seen.length : Int) ≤ k
    · have q : inE d k = 1 := by unfold inE; rw [if_neg hof, if_pos (.inr c2)]
      have e1 : decide (k < 0) = false := decide_eq_false c1
      have e2 : decide (k ≥ (d.seen.length : Int)) = true := decide_eq_true c2
      simp -implicitDefEqProofs only [go_sem, ↓reduceIte, Nat.reduceEqDiff, Nat.reduceAdd, Nat.reduceMul, Nat.reduceLT, Nat.reduceLeDiff, Nat.reduceSub, Int.reduceToNat, Int.reduceLE, Int.reduceLT, reduceCtorEq, Int.reduceEq, Int.reduceGT, Int.reduceGE, Int.reduceNeg, hoff, q, e1, e2]
    · have q : inE d k = 0 := by unfold inE; rw [if_neg hof, if_neg (fun h => h.elim c1 c2)]
      have e1 : decide (k < 0) = false := decide_eq_false c1
      have e2 : decide (k ≥ (d.seen.length : Int)) = false := decide_eq_false c2
      simp -implicitDefEqProofs only [go_sem, ↓reduceIte, Nat.reduceEqDiff, Nat.reduceAdd, Nat.reduceMul, Nat.reduceLT, Nat.reduceLeDiff, Nat.reduceSub, Int.reduceToNat, Int.reduceLE, Int.reduceLT, reduceCtorEq, Int.reduceEq, Int.reduceGT, Int.reduceGE, Int.reduceNeg, hoff, q, e1, e2]
theorem inS {k : Int} (h : RefAt H d i a b u1 u2 u3) : SpecAt Try.prog 40 [.ptr i 0, .v (.int .i64 k)] H n (.v (.int .i64 (inE d k))) H n := by
  obtain ⟨hi, ha, hb, ⟨p1, p2, p3⟩, ⟨q1, q2, q3⟩, n1, n2, n3⟩ := h
  have := lift (n := n) (ok3.pure t40 (w40 (x := H.x) (k := k) (d := d))) [(1, i), (2, a), (3, b)] rfl rfl rfl (by omega) rfl rfl
    ⟨sub_ro rfl p1 hi rfl, sub_ro rfl p2 ha rfl, sub_ro rfl p3 hb rfl, trivial⟩ (by simp [apartB, apart1, rn, lk]) (by simp [wrNZ, rn, lk]; try omega) (by omega)
  exact this
theorem pls2 {a b : Value} : plsOf [.v a, .v b] = some [a, b] := rfl
theorem pls1a {xs : List SV} : plsOf xs = plsOf xs := rfl
theorem tx_zeros {s : ByteArray} (h : s.size ≤ 64) : s ++ tx (List.replicate (64 - s.size) 0) = tx (pad64 (bts s)) := by
  rw [pad64, tx_app, tx_bts', bts_length]
theorem w36 {k : Nat} {s : ByteArray} (hd : d.ok) (hk : k < d.seen.length) (hs : s.size ≤ 64) (hoff : d.off = false) (hfa : d.fa ≠ 1) (hst : d.st < 1000000000000) (hfew : d.pend.length < 1000000000) :
    fnVC C3 m36 [.ptr 1 0, .v (.int .i64 k), .v (.string s)] ⟨[(1, some ⟨true, refB d 2 3⟩), (2, some ⟨false, strB d.safe⟩), (3, some ⟨true, .pl (qrow d.pend)⟩)], x⟩ 4
      fun v H' n' => Sub 4 ⟨[(0, .v (.int .i64 0))], ⟨[(1, some ⟨true, refB (wrD d k s) 2 4⟩), (2, some ⟨false, strB d.safe⟩), (3, none), (4, some ⟨true, .pl (qrow (wrD d k s).pend)⟩)], x⟩, 5⟩ ⟨[(0, v)], H', n'⟩ := by
  have q0 : stepE d = 0 := by unfold stepE; rw [if_neg hfa]
  have q1 : inE d k = 0 := by unfold inE; rw [if_neg (by rw [hoff]; simp), if_neg (by omega)]
  have e1 : decide ((s.size : Int) > 64) = false := decide_eq_false (by omega)
  have hz := stepD_safe (d := d)
  have hl := qrow_len (ws := d.pend)
  have r1 : (qrow d.pend).take (d.pend.length * 2) = qrow d.pend := List.take_of_length_le (by omega)
  have q2 : (wrD d k s).st = (stepD d).st ∧ (wrD d k s).fa = (stepD d).fa ∧ (wrD d k s).off = (stepD d).off ∧ (wrD d k s).seen.length = d.seen.length ∧ (wrD d k s).pend = d.pend ++ [(k, pad64 (bts s))] := ⟨rfl, rfl, rfl, wrD_len, rfl⟩
  unfold m36
  simp -implicitDefEqProofs only [↓fnVC, initTm]
  simp -implicitDefEqProofs only [go_sem, ↓reduceIte, Nat.reduceEqDiff, Nat.reduceAdd, Nat.reduceMul, Nat.reduceLT, Nat.reduceLeDiff, Nat.reduceSub, Int.reduceToNat, Int.reduceLE, Int.reduceLT, reduceCtorEq, Int.reduceEq, Int.reduceGT, Int.reduceGE, Int.reduceNeg]
  refine at_call t40 (inS (i := 1) (a := 2) (b := 3) (d := d) ⟨rfl, rfl, rfl, by decide⟩) ?_
  simp -implicitDefEqProofs only [go_sem, ↓reduceIte, Nat.reduceEqDiff, Nat.reduceAdd, Nat.reduceMul, Nat.reduceLT, Nat.reduceLeDiff, Nat.reduceSub, Int.reduceToNat, Int.reduceLE, Int.reduceLT, reduceCtorEq, Int.reduceEq, Int.reduceGT, Int.reduceGE, Int.reduceNeg, q1, e1]
  refine at_call t38 (stS38 (i := 1) (a := 2) (b := 3) (d := d) ⟨rfl, rfl, rfl, by decide⟩ hd) ?_
  have hw : IntKind.i64.wrap (64 - (s.size : Int)) = ((64 - s.size : Nat) : Int) := by rw [wrap_i64 (by omega) (by omega)]; omega
  have r2 := tx_zeros hs
  have h128 : qcell (k, pad64 (bts s)) = [.int .i64 k, .string (tx (pad64 (bts s)))] := rfl
  have r3 : (List.replicate (64 - s.size) (0 : Int)).take (64 - s.size) = List.replicate (64 - s.size) 0 := List.take_of_length_le (by simp)
  simp -implicitDefEqProofs only [go_sem, ↓reduceIte, Nat.reduceEqDiff, Nat.reduceAdd, Nat.reduceMul, Nat.reduceLT, Nat.reduceLeDiff, Nat.reduceSub, Int.reduceToNat, Int.reduceLE, Int.reduceLT, reduceCtorEq, Int.reduceEq, Int.reduceGT, Int.reduceGE, Int.reduceNeg, q0, refB, hz.2.1, hz.2.2, hw, r2, r3, splice_zero, splice_succ, List.cons_append, pls2, List.length_replicate, r1, tx_size', h128]
  refine ⟨by omega, by omega, by omega, by omega, by omega, ?_⟩
  rw [q2.1, q2.2.1, q2.2.2.1, q2.2.2.2.1, q2.2.2.2.2]
  refine sub_mk [(4, 6)] rfl rfl rfl ?_
  simp only [tmSub, hpSub, objSub, eqTm, eqHp, rn, lk, SV.ren, SV.renC, SV.renB, SV.renA, ren_ints, ren_strs, ren_pl, ren_svs, SV.v.injEq, Value.int.injEq, Body.ints.injEq, SV.ptr.injEq, SV.sl.injEq, Value.string.injEq, Value.bool.injEq, List.map_cons, List.map_nil, forall_const, Nat.reduceLT, Nat.lt_add_one, imp_self, true_and, and_true, and_self, ob_some, get_mk, lk_cons, ↓reduceIte, Nat.reduceEqDiff, ne_eq, not_true_eq_false, not_false_eq_true, Nat.one_ne_zero, Nat.zero_ne_one, Nat.succ_ne_self, Nat.reduceAdd, Bool.false_eq_true, false_implies, implies_true, reduceCtorEq, qrow_app, List.length_append, List.length_cons, List.length_nil]
  repeat' (first | rfl | apply And.intro)
theorem w36n {k e : Int} {s : ByteArray} (hd : d.ok) (hn : wrNo d k s = some (e, d')) :
    fnVC C3 m36 [.ptr 1 0, .v (.int .i64 k), .v (.string s)] (rp3 d x) 4 fun v H' n' => Sub 4 ⟨[(0, .v (.int .i64 e))], rp3 d' x, 4⟩ ⟨[(0, v)], H', n'⟩ := by
  have hs := stepD_safe (d := d)
  unfold wrNo at hn
  unfold rp3 m36
  simp -implicitDefEqProofs only [↓fnVC, initTm]
  simp -implicitDefEqProofs only [go_sem, ↓reduceIte, Nat.reduceEqDiff, Nat.reduceAdd, Nat.reduceMul, Nat.reduceLT, Nat.reduceLeDiff, Nat.reduceSub, Int.reduceToNat, Int.reduceLE, Int.reduceLT, reduceCtorEq, Int.reduceEq, Int.reduceGT, Int.reduceGE, Int.reduceNeg]
  refine at_call t40 (inS (i := 1) (a := 2) (b := 3) (d := d) ⟨rfl, rfl, rfl, by decide⟩) ?_
  by_cases hoff : d.off = true
  · rw [if_pos hoff] at hn
    cases hn
    have q1 : inE d k = 7 := by unfold inE; rw [if_pos hoff]
    simp -implicitDefEqProofs only [go_sem, ↓reduceIte, Nat.reduceEqDiff, Nat.reduceAdd, Nat.reduceMul, Nat.reduceLT, Nat.reduceLeDiff, Nat.reduceSub, Int.reduceToNat, Int.reduceLE, Int.reduceLT, reduceCtorEq, Int.reduceEq, Int.reduceGT, Int.reduceGE, Int.reduceNeg, q1]
    refine sub_mk [] rfl rfl rfl ?_
    simp only [tmSub, hpSub, objSub, eqTm, eqHp, rn, lk, SV.ren, SV.renC, SV.renB, SV.renA, ren_ints, ren_strs, ren_pl, ren_svs, SV.v.injEq, Value.int.injEq, Body.ints.injEq, SV.ptr.injEq, SV.sl.injEq, Value.string.injEq, Value.bool.injEq, List.map_cons, List.map_nil, forall_const, Nat.reduceLT, Nat.lt_add_one, imp_self, true_and, and_true, and_self, ob_some, get_mk, lk_cons, ↓reduceIte, Nat.reduceEqDiff, ne_eq, not_true_eq_false, not_false_eq_true, Nat.one_ne_zero, Nat.zero_ne_one, Nat.succ_ne_self, Nat.reduceAdd, Bool.false_eq_true, false_implies, implies_true, reduceCtorEq]
    repeat' (first | rfl | apply And.intro)
  rw [if_neg hoff] at hn
  by_cases c1 : k < 0 ∨ (d.seen.length : Int) ≤ k
  · rw [if_pos c1] at hn
    cases hn
    have q1 : inE d k = 1 := by unfold inE; rw [if_neg hoff, if_pos c1]
    simp -implicitDefEqProofs only [go_sem, ↓reduceIte, Nat.reduceEqDiff, Nat.reduceAdd, Nat.reduceMul, Nat.reduceLT, Nat.reduceLeDiff, Nat.reduceSub, Int.reduceToNat, Int.reduceLE, Int.reduceLT, reduceCtorEq, Int.reduceEq, Int.reduceGT, Int.reduceGE, Int.reduceNeg, q1]
    refine sub_mk [] rfl rfl rfl ?_
    simp only [tmSub, hpSub, objSub, eqTm, eqHp, rn, lk, SV.ren, SV.renC, SV.renB, SV.renA, ren_ints, ren_strs, ren_pl, ren_svs, SV.v.injEq, Value.int.injEq, Body.ints.injEq, SV.ptr.injEq, SV.sl.injEq, Value.string.injEq, Value.bool.injEq, List.map_cons, List.map_nil, forall_const, Nat.reduceLT, Nat.lt_add_one, imp_self, true_and, and_true, and_self, ob_some, get_mk, lk_cons, ↓reduceIte, Nat.reduceEqDiff, ne_eq, not_true_eq_false, not_false_eq_true, Nat.one_ne_zero, Nat.zero_ne_one, Nat.succ_ne_self, Nat.reduceAdd, Bool.false_eq_true, false_implies, implies_true, reduceCtorEq]
    repeat' (first | rfl | apply And.intro)
  rw [if_neg c1] at hn
  have q1 : inE d k = 0 := by unfold inE; rw [if_neg hoff, if_neg c1]
  by_cases c3 : 64 < s.size
  · rw [if_pos c3] at hn
    cases hn
    have e1 : decide ((s.size : Int) > 64) = true := decide_eq_true (by omega)
    simp -implicitDefEqProofs only [go_sem, ↓reduceIte, Nat.reduceEqDiff, Nat.reduceAdd, Nat.reduceMul, Nat.reduceLT, Nat.reduceLeDiff, Nat.reduceSub, Int.reduceToNat, Int.reduceLE, Int.reduceLT, reduceCtorEq, Int.reduceEq, Int.reduceGT, Int.reduceGE, Int.reduceNeg, q1, e1]
    refine sub_mk [] rfl rfl rfl ?_
    simp only [tmSub, hpSub, objSub, eqTm, eqHp, rn, lk, SV.ren, SV.renC, SV.renB, SV.renA, ren_ints, ren_strs, ren_pl, ren_svs, SV.v.injEq, Value.int.injEq, Body.ints.injEq, SV.ptr.injEq, SV.sl.injEq, Value.string.injEq, Value.bool.injEq, List.map_cons, List.map_nil, forall_const, Nat.reduceLT, Nat.lt_add_one, imp_self, true_and, and_true, and_self, ob_some, get_mk, lk_cons, ↓reduceIte, Nat.reduceEqDiff, ne_eq, not_true_eq_false, not_false_eq_true, Nat.one_ne_zero, Nat.zero_ne_one, Nat.succ_ne_self, Nat.reduceAdd, Bool.false_eq_true, false_implies, implies_true, reduceCtorEq]
    repeat' (first | rfl | apply And.intro)
  rw [if_neg c3] at hn
  have e1 : decide ((s.size : Int) > 64) = false := decide_eq_false (by omega)
  split at hn
  · rename_i c4
    cases hn
    have q0 : stepE d = 7 := by unfold stepE; rw [if_pos c4]
    simp -implicitDefEqProofs only [go_sem, ↓reduceIte, Nat.reduceEqDiff, Nat.reduceAdd, Nat.reduceMul, Nat.reduceLT, Nat.reduceLeDiff, Nat.reduceSub, Int.reduceToNat, Int.reduceLE, Int.reduceLT, reduceCtorEq, Int.reduceEq, Int.reduceGT, Int.reduceGE, Int.reduceNeg, q1, e1]
    refine at_call t38 (stS38 (i := 1) (a := 2) (b := 3) (d := d) ⟨rfl, rfl, rfl, by decide⟩ hd) ?_
    simp -implicitDefEqProofs only [go_sem, ↓reduceIte, Nat.reduceEqDiff, Nat.reduceAdd, Nat.reduceMul, Nat.reduceLT, Nat.reduceLeDiff, Nat.reduceSub, Int.reduceToNat, Int.reduceLE, Int.reduceLT, reduceCtorEq, Int.reduceEq, Int.reduceGT, Int.reduceGE, Int.reduceNeg, q0]
    rw [hs.1, hs.2.1]
    refine sub_mk [] rfl rfl rfl ?_
    simp only [tmSub, hpSub, objSub, eqTm, eqHp, rn, lk, SV.ren, SV.renC, SV.renB, SV.renA, ren_ints, ren_strs, ren_pl, ren_svs, SV.v.injEq, Value.int.injEq, Body.ints.injEq, SV.ptr.injEq, SV.sl.injEq, Value.string.injEq, Value.bool.injEq, List.map_cons, List.map_nil, forall_const, Nat.reduceLT, Nat.lt_add_one, imp_self, true_and, and_true, and_self, ob_some, get_mk, lk_cons, ↓reduceIte, Nat.reduceEqDiff, ne_eq, not_true_eq_false, not_false_eq_true, Nat.one_ne_zero, Nat.zero_ne_one, Nat.succ_ne_self, Nat.reduceAdd, Bool.false_eq_true, false_implies, implies_true, reduceCtorEq]
    repeat' (first | rfl | apply And.intro)
  · cases hn
/-! ### Read, All -/
/-- The last write of a sector counts. -/
theorem setl_none {S : List (List Int)} {j : Nat} : ∀ {ws : List (Nat × List Int)}, (∀ w ∈ ws, w.1 ≠ j) → (setl S ws).getD j [] = S.getD j []
  | ws, h => by
    induction ws generalizing S with
    | nil => rfl
    | cons w ws ih =>
      show (setl (S.set w.1 w.2) ws).getD j [] = _
      rw [ih (fun w' hw' => h w' (List.mem_cons_of_mem _ hw')), List.getD_eq_getElem?_getD, List.getElem?_set_ne (h w (List.mem_cons_self ..)), List.getD_eq_getElem?_getD]
theorem setl_split {S : List (List Int)} {ws vs : List (Nat × List Int)} : setl S (ws ++ vs) = setl (setl S ws) vs := by simp [setl, List.foldl_append]
theorem setl_hit {S : List (List Int)} {j t : Nat} {ws : List (Nat × List Int)} (ht : t < ws.length) (hj : j < S.length) (h1 : (ws.getD t (0, [])).1 = j) (h : ∀ w ∈ ws.drop (t + 1), w.1 ≠ j) : (setl S ws).getD j [] = (ws.getD t (0, [])).2 := by
  have e : ws = ws.take (t + 1) ++ ws.drop (t + 1) := (List.take_append_drop _ _).symm
  rw [e, setl_split, setl_none h, setl_succ ht, h1, List.getD_eq_getElem?_getD, List.getElem?_set_self (by rw [setl_len]; exact hj)]
  rw [← e]; rfl
def rdI (d : Fd) (k : Nat) (x : Nat → Option SO) (t : Nat) : St := ⟨[(0, .ptr 1 0), (1, .v (.int .i64 k)), (7, .v (.int .i64 ((t : Int) - 1)))], rp3s d x, 4⟩
theorem w33 {k : Int} (hd : d.ok) (hsn : Sn d) : fnVC C3 m33 [.ptr 1 0, .v (.int .i64 k)] (rp3s d x) 4 fun v H' n' => Sub 4 ⟨[(0, rdV d k)], rp3s d x, 4⟩ ⟨[(0, v)], H', n'⟩ := by
  obtain ⟨h1, h2, h3, h4, h5, h6, h7, h8, h9, h10⟩ := hd
  unfold m33
  simp -implicitDefEqProofs only [↓fnVC, initTm]
  unfold rp3s
  simp -implicitDefEqProofs only [go_sem, ↓reduceIte, Nat.reduceEqDiff, Nat.reduceAdd, Nat.reduceMul, Nat.reduceLT, Nat.reduceLeDiff, Nat.reduceSub, Int.reduceToNat, Int.reduceLE, Int.reduceLT, reduceCtorEq, Int.reduceEq, Int.reduceGT, Int.reduceGE, Int.reduceNeg]
  refine at_call t40 (inS (i := 1) (a := 2) (b := 3) (d := d) ⟨rfl, rfl, rfl, by decide⟩) ?_
  by_cases hoff : d.off = true
  · have q1 : inE d k = 7 := by unfold inE; rw [if_pos hoff]
    have hv : rdV d k = .tup [.v (.string ⟨#[]⟩), .v (.int .i64 7)] := by unfold rdV; rw [if_pos hoff]
    simp -implicitDefEqProofs only [go_sem, ↓reduceIte, Nat.reduceEqDiff, Nat.reduceAdd, Nat.reduceMul, Nat.reduceLT, Nat.reduceLeDiff, Nat.reduceSub, Int.reduceToNat, Int.reduceLE, Int.reduceLT, reduceCtorEq, Int.reduceEq, Int.reduceGT, Int.reduceGE, Int.reduceNeg, q1, hv]
    refine sub_mk [] rfl rfl rfl ?_
    simp only [tmSub, hpSub, objSub, eqTm, eqHp, rn, lk, SV.ren, SV.renC, SV.renB, SV.renA, ren_ints, ren_strs, ren_pl, ren_svs, SV.v.injEq, Value.int.injEq, Body.ints.injEq, SV.ptr.injEq, SV.sl.injEq, Value.string.injEq, Value.bool.injEq, List.map_cons, List.map_nil, forall_const, Nat.reduceLT, Nat.lt_add_one, imp_self, true_and, and_true, and_self, ob_some, get_mk, lk_cons, ↓reduceIte, Nat.reduceEqDiff, ne_eq, not_true_eq_false, not_false_eq_true, Nat.one_ne_zero, Nat.zero_ne_one, Nat.succ_ne_self, Nat.reduceAdd, Bool.false_eq_true, false_implies, implies_true, reduceCtorEq]
    repeat' (first | rfl | apply And.intro)
  by_cases c1 : k < 0 ∨ (d.seen.length : Int) ≤ k
  · have q1 : inE d k = 1 := by unfold inE; rw [if_neg hoff, if_pos c1]
    have hv : rdV d k = .tup [.v (.string ⟨#[]⟩), .v (.int .i64 1)] := by unfold rdV; rw [if_neg hoff, if_pos c1]
    simp -implicitDefEqProofs only [go_sem, ↓reduceIte, Nat.reduceEqDiff, Nat.reduceAdd, Nat.reduceMul, Nat.reduceLT, Nat.reduceLeDiff, Nat.reduceSub, Int.reduceToNat, Int.reduceLE, Int.reduceLT, reduceCtorEq, Int.reduceEq, Int.reduceGT, Int.reduceGE, Int.reduceNeg, q1, hv]
    refine sub_mk [] rfl rfl rfl ?_
    simp only [tmSub, hpSub, objSub, eqTm, eqHp, rn, lk, SV.ren, SV.renC, SV.renB, SV.renA, ren_ints, ren_strs, ren_pl, ren_svs, SV.v.injEq, Value.int.injEq, Body.ints.injEq, SV.ptr.injEq, SV.sl.injEq, Value.string.injEq, Value.bool.injEq, List.map_cons, List.map_nil, forall_const, Nat.reduceLT, Nat.lt_add_one, imp_self, true_and, and_true, and_self, ob_some, get_mk, lk_cons, ↓reduceIte, Nat.reduceEqDiff, ne_eq, not_true_eq_false, not_false_eq_true, Nat.one_ne_zero, Nat.zero_ne_one, Nat.succ_ne_self, Nat.reduceAdd, Bool.false_eq_true, false_implies, implies_true, reduceCtorEq]
    repeat' (first | rfl | apply And.intro)
  have q1 : inE d k = 0 := by unfold inE; rw [if_neg hoff, if_neg c1]
  have hv : rdV d k = .tup [.v (.string (tx (d.seen.getD k.toNat []))), .v (.int .i64 0)] := by unfold rdV; rw [if_neg hoff, if_neg c1]
  obtain ⟨j, rfl⟩ : ∃ j : Nat, k = (j : Int) := ⟨k.toNat, by omega⟩
  have hj : j < d.seen.length := by omega
  rw [Int.toNat_natCast] at hv
  simp -implicitDefEqProofs only [go_sem, ↓reduceIte, Nat.reduceEqDiff, Nat.reduceAdd, Nat.reduceMul, Nat.reduceLT, Nat.reduceLeDiff, Nat.reduceSub, Int.reduceToNat, Int.reduceLE, Int.reduceLT, reduceCtorEq, Int.reduceEq, Int.reduceGT, Int.reduceGE, Int.reduceNeg, q1, refB]
  rw [wrap_i64 (n := (d.pend.length : Int) - 1) (by omega) (by omega)]
  refine loop_fam (fun t : Nat => t ≤ d.pend.length ∧ ∀ w ∈ d.pend.drop t, w.1 ≠ j) (rdI d j x) (fun t => t) d.pend.length ⟨Nat.le_refl _, by simp⟩ ?_ ?_
  · unfold rdI rp3s refB
    refine sub_mk [] rfl rfl rfl ?_
    simp only [tmSub, hpSub, objSub, eqTm, eqHp, rn, lk, SV.ren, SV.renC, SV.renB, SV.renA, ren_ints, ren_strs, ren_pl, ren_svs, SV.v.injEq, Value.int.injEq, Body.ints.injEq, SV.ptr.injEq, SV.sl.injEq, Value.string.injEq, Value.bool.injEq, List.map_cons, List.map_nil, forall_const, Nat.reduceLT, Nat.lt_add_one, imp_self, true_and, and_true, and_self, ob_some, get_mk, lk_cons, ↓reduceIte, Nat.reduceEqDiff, ne_eq, not_true_eq_false, not_false_eq_true, Nat.one_ne_zero, Nat.zero_ne_one, Nat.succ_ne_self, Nat.reduceAdd, Bool.false_eq_true, false_implies, implies_true, reduceCtorEq]
    repeat' (first | rfl | apply And.intro)
  · rintro t ⟨ht, hn⟩
    unfold rdI rp3s
    simp -implicitDefEqProofs only [go_sem, ↓reduceIte, Nat.reduceEqDiff, Nat.reduceAdd, Nat.reduceMul, Nat.reduceLT, Nat.reduceLeDiff, Nat.reduceSub, Int.reduceToNat, Int.reduceLE, Int.reduceLT, reduceCtorEq, Int.reduceEq, Int.reduceGT, Int.reduceGE, Int.reduceNeg, refB]
    refine condK_bb (fun e1 => ?_) (fun e1 => ?_)
    · have c1 : 0 < t := by simp only [decide_eq_true_eq] at e1; omega
      obtain ⟨t, rfl⟩ : ∃ u, t = u + 1 := ⟨t - 1, by omega⟩
      have hrow := qrow_at (ws := d.pend) (j := t) (by omega)
      have e2 : ((t + 1 : Nat) : Int) - 1 = (t : Int) := by omega
      have g0 := qrow_get0 (ws := d.pend) (j := t) (by omega)
      have g1 := qrow_get1 (ws := d.pend) (j := t) (by omega)
      have hh := setl_hit (S := d.safe) (j := j) (t := t) (ws := d.pend) (by omega) (by omega)
      rw [e2] at e1 ⊢
      by_cases c2 : (d.pend.getD t (0, [])).1 = j
      · have e3 : decide (((d.pend.getD t (0, [])).1 : Int) = (j : Int)) = true := decide_eq_true (by omega)
        have hs : d.seen.getD j [] = (d.pend.getD t (0, [])).2 := by rw [hsn]; exact hh c2 hn
        rw [hs] at hv
        simp -implicitDefEqProofs only [go_sem, ↓reduceIte, Nat.reduceEqDiff, Nat.reduceAdd, Nat.reduceMul, Nat.reduceLT, Nat.reduceLeDiff, Nat.reduceSub, Int.reduceToNat, Int.reduceLE, Int.reduceLT, reduceCtorEq, Int.reduceEq, Int.reduceGT, Int.reduceGE, Int.reduceNeg, g0, g1, e1, e3, hv]
        refine ⟨by omega, by omega, sub_mk [] rfl rfl rfl ?_⟩
        simp only [tmSub, hpSub, objSub, eqTm, eqHp, rn, lk, SV.ren, SV.renC, SV.renB, SV.renA, ren_ints, ren_strs, ren_pl, ren_svs, SV.v.injEq, Value.int.injEq, Body.ints.injEq, SV.ptr.injEq, SV.sl.injEq, Value.string.injEq, Value.bool.injEq, List.map_cons, List.map_nil, forall_const, Nat.reduceLT, Nat.lt_add_one, imp_self, true_and, and_true, and_self, ob_some, get_mk, lk_cons, ↓reduceIte, Nat.reduceEqDiff, ne_eq, not_true_eq_false, not_false_eq_true, Nat.one_ne_zero, Nat.zero_ne_one, Nat.succ_ne_self, Nat.reduceAdd, Bool.false_eq_true, false_implies, implies_true, reduceCtorEq]
        repeat' (first | rfl | apply And.intro)
      · have e3 : decide (((d.pend.getD t (0, [])).1 : Int) = (j : Int)) = false := decide_eq_false (by omega)
        simp -implicitDefEqProofs only [go_sem, ↓reduceIte, Nat.reduceEqDiff, Nat.reduceAdd, Nat.reduceMul, Nat.reduceLT, Nat.reduceLeDiff, Nat.reduceSub, Int.reduceToNat, Int.reduceLE, Int.reduceLT, reduceCtorEq, Int.reduceEq, Int.reduceGT, Int.reduceGE, Int.reduceNeg, g0, e1, e3]
        refine ⟨by omega, ?_⟩
        rw [wrap_i64 (n := (t : Int) - 1) (by omega) (by omega)]
        refine kLoop_mk t ⟨by omega, fun w hw => ?_⟩ (by omega) ?_
        · rw [List.drop_eq_getElem_cons (by omega)] at hw
          rcases List.mem_cons.1 hw with rfl | hw
          · rw [List.getD_eq_getElem?_getD, List.getElem?_eq_getElem (by omega)] at c2; exact c2
          · exact hn w hw
        · unfold refB
          refine sub_mk [] rfl rfl rfl ?_
          simp only [tmSub, hpSub, objSub, eqTm, eqHp, rn, lk, SV.ren, SV.renC, SV.renB, SV.renA, ren_ints, ren_strs, ren_pl, ren_svs, SV.v.injEq, Value.int.injEq, Body.ints.injEq, SV.ptr.injEq, SV.sl.injEq, Value.string.injEq, Value.bool.injEq, List.map_cons, List.map_nil, forall_const, Nat.reduceLT, Nat.lt_add_one, imp_self, true_and, and_true, and_self, ob_some, get_mk, lk_cons, ↓reduceIte, Nat.reduceEqDiff, ne_eq, not_true_eq_false, not_false_eq_true, Nat.one_ne_zero, Nat.zero_ne_one, Nat.succ_ne_self, Nat.reduceAdd, Bool.false_eq_true, false_implies, implies_true, reduceCtorEq]
          repeat' (first | rfl | apply And.intro)
    · have c1 : t = 0 := by simp only [decide_eq_false_iff_not] at e1; omega
      subst c1
      have hs : d.seen.getD j [] = d.safe.getD j [] := by rw [hsn]; exact setl_none (by simpa using hn)
      have p8 := strB_get (l := d.safe) (j := j) (by omega)
      rw [hs] at hv
      simp -implicitDefEqProofs only [go_sem, ↓reduceIte, Nat.reduceEqDiff, Nat.reduceAdd, Nat.reduceMul, Nat.reduceLT, Nat.reduceLeDiff, Nat.reduceSub, Int.reduceToNat, Int.reduceLE, Int.reduceLT, reduceCtorEq, Int.reduceEq, Int.reduceGT, Int.reduceGE, Int.reduceNeg, strB, p8, hv]
      refine ⟨by omega, by rw [List.length_map]; omega, sub_mk [] rfl rfl rfl ?_⟩
      simp only [tmSub, hpSub, objSub, eqTm, eqHp, rn, lk, SV.ren, SV.renC, SV.renB, SV.renA, ren_ints, ren_strs, ren_pl, ren_svs, SV.v.injEq, Value.int.injEq, Body.ints.injEq, SV.ptr.injEq, SV.sl.injEq, Value.string.injEq, Value.bool.injEq, List.map_cons, List.map_nil, forall_const, Nat.reduceLT, Nat.lt_add_one, imp_self, true_and, and_true, and_self, ob_some, get_mk, lk_cons, ↓reduceIte, Nat.reduceEqDiff, ne_eq, not_true_eq_false, not_false_eq_true, Nat.one_ne_zero, Nat.zero_ne_one, Nat.succ_ne_self, Nat.reduceAdd, Bool.false_eq_true, false_implies, implies_true, reduceCtorEq]
      repeat' (first | rfl | apply And.intro)
theorem w37 (hd : d.ok) (hsn : Sn d) : fnVC C3 m37 [.ptr 1 0] (rp3s d x) 4 fun v H' n' => Sub 4 ⟨[(0, .sl 4 0 d.seen.length 1)], ⟨[(1, some ⟨false, refB d 2 3⟩), (2, some ⟨false, strB d.safe⟩), (3, some ⟨false, .pl (qrow d.pend)⟩), (4, some ⟨true, strB d.seen⟩)], x⟩, 5⟩ ⟨[(0, v)], H', n'⟩ := by
  have q1 := crl_all64 hd
  unfold rp3s m37
  simp -implicitDefEqProofs only [↓fnVC, initTm]
  simp -implicitDefEqProofs only [go_sem, ↓reduceIte, Nat.reduceEqDiff, Nat.reduceAdd, Nat.reduceMul, Nat.reduceLT, Nat.reduceLeDiff, Nat.reduceSub, Int.reduceToNat, Int.reduceLE, Int.reduceLT, reduceCtorEq, Int.reduceEq, Int.reduceGT, Int.reduceGE, Int.reduceNeg]
  refine at_call t39 (seS9 (i := 1) (a := 2) (b := 3) (d := d) (r := 4) (o := 0) (m := 1) (row := [64]) (ks := [64]) ⟨rfl, rfl, rfl, by decide⟩ hd (Nat.le_refl _) rfl (by decide) (by decide) rfl) ?_
  rw [q1, ← hsn]
  simp -implicitDefEqProofs only [go_sem, ↓reduceIte, Nat.reduceEqDiff, Nat.reduceAdd, Nat.reduceMul, Nat.reduceLT, Nat.reduceLeDiff, Nat.reduceSub, Int.reduceToNat, Int.reduceLE, Int.reduceLT, reduceCtorEq, Int.reduceEq, Int.reduceGT, Int.reduceGE, Int.reduceNeg]
  refine sub_mk [(4, 5)] rfl rfl rfl ?_
  simp only [tmSub, hpSub, objSub, eqTm, eqHp, rn, lk, SV.ren, SV.renC, SV.renB, SV.renA, ren_ints, ren_strs, ren_pl, ren_svs, SV.v.injEq, Value.int.injEq, Body.ints.injEq, SV.ptr.injEq, SV.sl.injEq, Value.string.injEq, Value.bool.injEq, List.map_cons, List.map_nil, forall_const, Nat.reduceLT, Nat.lt_add_one, imp_self, true_and, and_true, and_self, ob_some, get_mk, lk_cons, ↓reduceIte, Nat.reduceEqDiff, ne_eq, not_true_eq_false, not_false_eq_true, Nat.one_ne_zero, Nat.zero_ne_one, Nat.succ_ne_self, Nat.reduceAdd, Bool.false_eq_true, false_implies, implies_true, reduceCtorEq]
  repeat' (first | rfl | apply And.intro)
/-! ### A new one -/
def nwI (k : Nat) (x : Nat → Option SO) (t : Nat) : St := ⟨[(0, .v (.int .i64 k)), (4, .ptr 1 0), (5, .v (.int .i64 t))],
  ⟨[(1, some ⟨true, .sv [.sl 2 0 k 1, .sl 0 0 0 2, .v (.int .i64 0), .v (.int .i64 0), .v (.bool false)]⟩), (2, some ⟨true, .strs (List.replicate t (tx (zi 64)) ++ List.replicate (k - t) ⟨#[]⟩)⟩)], x⟩, 3⟩
theorem w31 {k : Nat} (h0 : 1 ≤ k) (hk : k ≤ 4096) :
    fnVC C3 m31 [.v (.int .i64 k)] ⟨[], x⟩ 1 fun v H' n' => Sub 1 ⟨[(0, .tup [.ptr 1 0, .v (.int .i64 0)])], ⟨[(1, some ⟨true, refB (newD k) 2 3⟩), (2, some ⟨true, strB (newD k).safe⟩), (3, some ⟨true, .pl (qrow (newD k).pend)⟩)], x⟩, 4⟩ ⟨[(0, v)], H', n'⟩ := by
  have e1 : decide ((k : Int) < 1) = false := decide_eq_false (by omega)
  have e2 : decide ((k : Int) > 4096) = false := decide_eq_false (by omega)
  unfold m31
  simp -implicitDefEqProofs only [↓fnVC, initTm]
  simp -implicitDefEqProofs only [go_sem, ↓reduceIte, Nat.reduceEqDiff, Nat.reduceAdd, Nat.reduceMul, Nat.reduceLT, Nat.reduceLeDiff, Nat.reduceSub, Int.reduceToNat, Int.reduceLE, Int.reduceLT, reduceCtorEq, Int.reduceEq, Int.reduceGT, Int.reduceGE, Int.reduceNeg, e1, e2]
  refine ⟨⟨by omega, by omega, by omega, by omega⟩, ?_⟩
  refine loop_fam (fun t : Nat => t ≤ k) (nwI k x) (fun t => k - t) 0 (by omega) ?_ ?_
  · unfold nwI
    refine sub_mk [(1, 2), (2, 1)] rfl rfl rfl ?_
    simp only [tmSub, hpSub, objSub, eqTm, eqHp, rn, lk, SV.ren, SV.renC, SV.renB, SV.renA, ren_ints, ren_strs, ren_pl, ren_svs, SV.v.injEq, Value.int.injEq, Body.ints.injEq, SV.ptr.injEq, SV.sl.injEq, Value.string.injEq, Value.bool.injEq, List.map_cons, List.map_nil, forall_const, Nat.reduceLT, Nat.lt_add_one, imp_self, true_and, and_true, and_self, ob_some, get_mk, lk_cons, ↓reduceIte, Nat.reduceEqDiff, ne_eq, not_true_eq_false, not_false_eq_true, Nat.one_ne_zero, Nat.zero_ne_one, Nat.succ_ne_self, Nat.reduceAdd, Bool.false_eq_true, false_implies, implies_true, reduceCtorEq, splice_zero, List.drop_succ_cons, List.drop_zero, List.cons_append, List.nil_append, List.length_cons, List.length_nil, List.replicate_zero, Nat.sub_zero]
    rfl
  · intro t ht
    unfold nwI
    simp -implicitDefEqProofs only [go_sem, ↓reduceIte, Nat.reduceEqDiff, Nat.reduceAdd, Nat.reduceMul, Nat.reduceLT, Nat.reduceLeDiff, Nat.reduceSub, Int.reduceToNat, Int.reduceLE, Int.reduceLT, reduceCtorEq, Int.reduceEq, Int.reduceGT, Int.reduceGE, Int.reduceNeg]
    refine condK_bb (fun e1 => ?_) (fun e1 => ?_)
    · have c1 : t < k := by simp only [decide_eq_true_eq] at e1; omega
      have r1 : List.take 64 (List.replicate 64 (0 : Int)) = zi 64 := rfl
      have r2 : (List.replicate t (tx (zi 64)) ++ List.replicate (k - t) (ByteArray.mk #[])).set t (tx (zi 64)) = List.replicate (t + 1) (tx (zi 64)) ++ List.replicate (k - (t + 1)) (ByteArray.mk #[]) := by
        rw [List.set_append_right _ _ (by simp), List.length_replicate, Nat.sub_self, show k - t = (k - (t + 1)) + 1 by omega, List.replicate_succ, List.set_cons_zero, List.replicate_succ', List.append_assoc]; rfl
      simp -implicitDefEqProofs only [go_sem, ↓reduceIte, Nat.reduceEqDiff, Nat.reduceAdd, Nat.reduceMul, Nat.reduceLT, Nat.reduceLeDiff, Nat.reduceSub, Int.reduceToNat, Int.reduceLE, Int.reduceLT, reduceCtorEq, Int.reduceEq, Int.reduceGT, Int.reduceGE, Int.reduceNeg, r1, r2]
      simp only [List.length_append, List.length_replicate]
      refine ⟨by omega, by omega, by omega, by omega, kLoop_mk (t + 1) (by omega) (by omega) ?_⟩
      rw [wrap_i64 (n := (t : Int) + 1) (by omega) (by omega)]
      refine sub_mk [] rfl rfl rfl ?_
      simp only [tmSub, hpSub, objSub, eqTm, eqHp, rn, lk, SV.ren, SV.renC, SV.renB, SV.renA, ren_ints, ren_strs, ren_pl, ren_svs, SV.v.injEq, Value.int.injEq, Body.ints.injEq, SV.ptr.injEq, SV.sl.injEq, Value.string.injEq, Value.bool.injEq, List.map_cons, List.map_nil, forall_const, Nat.reduceLT, Nat.lt_add_one, imp_self, true_and, and_true, and_self, ob_some, get_mk, lk_cons, ↓reduceIte, Nat.reduceEqDiff, ne_eq, not_true_eq_false, not_false_eq_true, Nat.one_ne_zero, Nat.zero_ne_one, Nat.succ_ne_self, Nat.reduceAdd, Bool.false_eq_true, false_implies, implies_true, reduceCtorEq]
      exact (Int.natCast_add t 1).symm
    · have c1 : t = k := by simp only [decide_eq_false_iff_not] at e1; omega
      subst c1
      simp -implicitDefEqProofs only [go_sem, ↓reduceIte, Nat.reduceEqDiff, Nat.reduceAdd, Nat.reduceMul, Nat.reduceLT, Nat.reduceLeDiff, Nat.reduceSub, Int.reduceToNat, Int.reduceLE, Int.reduceLT, reduceCtorEq, Int.reduceEq, Int.reduceGT, Int.reduceGE, Int.reduceNeg]
      refine sub_mk [(3, 0)] rfl rfl rfl ?_
      simp only [tmSub, hpSub, objSub, eqTm, eqHp, rn, lk, SV.ren, SV.renC, SV.renB, SV.renA, ren_ints, ren_strs, ren_pl, ren_svs, SV.v.injEq, Value.int.injEq, Body.ints.injEq, SV.ptr.injEq, SV.sl.injEq, Value.string.injEq, Value.bool.injEq, List.map_cons, List.map_nil, forall_const, Nat.reduceLT, Nat.lt_add_one, imp_self, true_and, and_true, and_self, ob_some, get_mk, lk_cons, ↓reduceIte, Nat.reduceEqDiff, ne_eq, not_true_eq_false, not_false_eq_true, Nat.one_ne_zero, Nat.zero_ne_one, Nat.succ_ne_self, Nat.reduceAdd, Bool.false_eq_true, false_implies, implies_true, reduceCtorEq]
      have r1 : strB (newD t).safe = .strs (List.replicate t (tx (zi 64)) ++ List.replicate (t - t) (ByteArray.mk #[])) := by
        simp [strB, newD]
      rw [r1]
      refine ⟨?_, rfl, rfl⟩
      have r3 : (newD t).seen.length = t := by simp [newD]
      unfold refB
      rw [r3]; rfl
end Go.Sx
