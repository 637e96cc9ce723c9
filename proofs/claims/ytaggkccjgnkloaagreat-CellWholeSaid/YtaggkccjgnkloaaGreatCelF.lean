/- Cells: the document's Commit. -/
import Derived.Test.YtaggkccjgnkloaaGreatCelE

set_option linter.unusedVariables false
set_option linter.unusedSimpArgs false
set_option maxRecDepth 100000
namespace Go.Sx
attribute [local go_sem ↓] bind_mk intsB_mk strsB_mk svB_mk fnVC ob_some vc_skip vc_exit vc_ret vc_seq vc_block kSeq_normal kSeq_exit kSeq_ret kBlock_normal kBlock_exit kBlock_ret vc_reg vc_regD vc_cond condK_true condK_false vc_loop kLoop_exit kLoop_ret kRoll_normal kRoll_exit kRoll_ret vcOps_nil vcOps_cons gd_bool gd_undef put_some put_none vcT_fin vcT_pure vcT_act vcT_acts vcT_stop stab_none stab_some stabM_nil stabM_cons stabO_ld stabO_ldn stabO_slP stabO_b2s fldOf_ai fldOf_agg fldOf_ait fldOf_aggt intsOf_nil intsOf_cons strsOf_nil strsOf_cons c_omap ob_if lk_nil lk_cons ev_t ev_k z_mov z_pick z_bin z_binB z_binP z_un z_r2s z_conv z_s2b z_b2s z_mkM z_luM z_upM z_lenM lenMk_mp lenMk_nil plsOf_v z_delM asM_so plV_v plV_agg mpOf_mp mpOf_nil mpUp_mp asM_mp luV_ok luV_v z_allocT aggOf_mk z_boxT z_alloc z_bld z_bldI z_rowI z_rowS z_ld z_ldn z_st z_stn asN_ptr asN_fn z_nilck z_fld z_fadr z_idxA z_idxP z_idxS z_idxV z_slS z_slL z_slP z_mk z_lenS z_lenL z_app appC_ints appC_pl appC_sv appC_strs isS_strs loose_ints loose_pl loose_sv z_slM z_callv callvK_fn callvK_f callvK_yl vc_rangeF rfEnd_eq rfGo_none rfGo_ret rfGo_exit yGo_mk yEnd_n yEnd_r yEnd_e yRdy_mk yMid_n putPs_nil putPs_cons leaf_v leaf_ptr leaf_sl leaf_yl leaf_mp z_appS z_appST z_appZ z_cpyS z_mkfn reps_int reps_str z_rowV z_slnil nilK_zero z_cpy z_call asT_tup z_extT z_box boxOf_ai boxOf_agg boxOf_int boxOf_str boxOf_bool boxOf_ptr boxOf_sl sbin_int sbin_str sbinB_mk sbinP_nn sbinP_pn sbinP_np i_add i_sub i_mul i_quo i_rem i_and i_or i_xor i_andNot i_shl i_shr i_eql i_neq i_lss i_leq i_gtr i_geq st_add st_eql st_neq st_lss st_leq st_gtr st_geq bo_eql bo_neq pt_eql pt_neq un_neg un_xor un_not asI_mk asB_mk asS_mk asP_mk asSl_mk asBy_mk bnd_none bnd_some get_mk hput_mk hdel_mk kill_eq wrOf_eq rowOf_eq rsvs_0 rsvs_1 rsvs_2 rsvs_3 rsv_t rsv_c1 rsv_cn nt_v nt_ptr nt_sl nt_agg nt_ai get_ints get_strs get_pl get_sv getN_ints getN_sv set_ints set_strs set_sv setN_ints setN_sv part_ints part_strs part_sv cat_ints cat_strs cat_sv over_ints over_strs over_sv ones_ints ones_strs evs_nil evs_cons condK_eqt condK_eqf det_callP V_ns V_nn V_gs V_gn obC_mk fresh_ev freshT_ev freshR_ev setN_plagg setN_intsv setN_svai setN_svagg over_intsv set_pl setN_pl setN_plai getN_pl getN_strs part_pl cat_pl over_pl over_plints z_mm
attribute [local go_sem] initTm ne_eq not_true_eq_false not_false_eq_true true_and and_true List.length_cons List.length_nil Int.toNat_natCast Nat.add_zero Nat.zero_add Nat.mul_one List.getElem?_cons_zero List.drop_zero List.take_length List.take_succ_cons List.take_zero List.take_nil List.drop_succ_cons Option.map_some Nat.le_refl implies_true List.getElem?_cons_succ decide_true decide_false Bool.not_true Bool.not_false beq_self_eq_true Nat.succ_ne_self Nat.one_ne_zero Nat.zero_ne_one vk_mk hk_mk nk_mk tok_eq plsOf_map intsOf_map bodyOf_pl bodyOf_ints bodyOf_strs bodyOf_sv part_aggv part_agg part_ai part_int part_str part_bool part_sl part_ptr part_nil numsOf_map u_int u_str u_bool u_pnil u_sl u_ptr u_oci u_ocs evq_nil evq_cons fillS_nil fillS_cons u_ocb ones_pl cells_sv cells_ints cells_strs cells_pl smms_nil smms_cons smm_min smm_max plsOf_nil List.nil_append List.all_cons List.all_nil Bool.and_self Bool.true_and Bool.and_true zws_len zw_len zi_len List.set_cons_zero List.set_cons_succ List.flatMap_cons List.flatMap_nil List.append_nil
attribute [local go_sem_proc] Nat.reduceEqDiff Nat.reduceAdd Nat.reduceMul Nat.reduceLT Nat.reduceLeDiff Nat.reduceSub Int.reduceToNat Int.reduceLE Int.reduceLT reduceCtorEq Int.reduceEq Int.reduceGT Int.reduceGE Int.reduceNeg
attribute [local go_sem_proc ↓] reduceIte
section
open Go.Proofs
variable {H : Hp} {n : Nat} {x : Nat → Option SO} {i D M W a b c : Nat} {d d' : Fd} {C C' : Ce}
def wrB (d : Fd) (k : Int) (s : ByteArray) (b : Bool) : Int × Fd := if b then thn (wrT d k s) baT else wrT d k s
def rwH (C : Ce) (m w : Nat) (d : Fd) (x : Nat → Option SO) : Hp := ⟨[(1, some ⟨true, rcL C m w 2 5 6⟩), (2, some ⟨true, refB d 3 4⟩), (3, some ⟨true, strB d.safe⟩), (4, some ⟨true, .pl (qrow d.pend)⟩)], x⟩
theorem rcwriteW {w0 m0 : Nat} {k : Int} {s : ByteArray} {bb : Bool} {m t : Nat} (hP : Pl d m t) (ht : t + 1 < 1000000) :
    fnVC CT mrcwrite [.ptr 1 0, .v (.int .i64 k), .v (.string s), .v (.bool bb)] (rwH C m0 w0 d x) 7 fun v H' n' => Sub 7 ⟨[(0, .v (.int .i64 (wrB d k s bb).1))], ⟨[(1, some ⟨true, rcL C m0 w0 2 5 6⟩), (2, some ⟨true, refB (wrB d k s bb).2 7 8⟩), (3, none), (4, none), (7, some ⟨true, strB (wrB d k s bb).2.safe⟩), (8, some ⟨true, .pl (qrow (wrB d k s bb).2.pend)⟩)], x⟩, 9⟩ ⟨[(0, v)], H', n'⟩ := by
  unfold mrcwrite rwH rcL
  simp -implicitDefEqProofs only [↓fnVC, initTm]
  simp -implicitDefEqProofs only [go_sem]
  obtain ⟨⟨e1, d1⟩, hq1⟩ : ∃ q, wrT d k s = q := ⟨_, rfl⟩
  have hP1 : Pl d1 m (t + 1) := by have := wrT_pl (k := k) (s := s) hP (by omega); rw [hq1] at this; exact this
  refine at_call trFWrite (rwrTS (i := 2) (a := 3) (b := 4) ⟨by rfl, by rfl, by rfl, by decide⟩ hP (by omega) (by decide) hq1) ?_
  by_cases x1 : e1 = 0
  · have b1 : decide (e1 = 0) = true := decide_eq_true x1
    cases bb with
    | true =>
      simp -implicitDefEqProofs only [go_sem, b1]
      obtain ⟨⟨e2, d2⟩, hq2⟩ : ∃ q, baT d1 = q := ⟨_, rfl⟩
      refine at_call trFBarrier (rbaTS (i := 2) (a := 7) (b := 8) ⟨by rfl, by rfl, by rfl, by decide⟩ hP1 (by omega) (by decide) hq2) ?_
      have e : wrB d k s true = (e2, d2) := by unfold wrB; rw [if_pos rfl, thn_ok (by rw [hq1]; exact x1), hq1]; exact hq2
      rw [e]
      simp -implicitDefEqProofs only [go_sem]
      refine sub_mk [(7, 9), (8, 10)] rfl rfl rfl ?_
      simp only [tmSub, hpSub, objSub, eqTm, eqHp, rn, lk, SV.ren, SV.renC, SV.renB, SV.renA, ren_ints, ren_strs, ren_pl, ren_svs, SV.v.injEq, Value.int.injEq, Body.ints.injEq, SV.ptr.injEq, SV.sl.injEq, Value.string.injEq, Value.bool.injEq, List.map_cons, List.map_nil, forall_const, Nat.reduceLT, Nat.lt_add_one, imp_self, true_and, and_true, and_self, ob_some, get_mk, lk_cons, ↓reduceIte, Nat.reduceEqDiff, ne_eq, not_true_eq_false, not_false_eq_true, Nat.one_ne_zero, Nat.zero_ne_one, Nat.succ_ne_self, Nat.reduceAdd, Bool.false_eq_true, false_implies, implies_true, reduceCtorEq, refB, strB]
      repeat' (first | rfl | apply And.intro)
    | false =>
      have e : wrB d k s false = (e1, d1) := by unfold wrB; rw [if_neg Bool.false_ne_true]; exact hq1
      rw [e]
      simp -implicitDefEqProofs only [go_sem, b1]
      refine sub_mk [] rfl rfl rfl ?_
      simp only [tmSub, hpSub, objSub, eqTm, eqHp, rn, lk, SV.ren, SV.renC, SV.renB, SV.renA, ren_ints, ren_strs, ren_pl, ren_svs, SV.v.injEq, Value.int.injEq, Body.ints.injEq, SV.ptr.injEq, SV.sl.injEq, Value.string.injEq, Value.bool.injEq, List.map_cons, List.map_nil, forall_const, Nat.reduceLT, Nat.lt_add_one, imp_self, true_and, and_true, and_self, ob_some, get_mk, lk_cons, ↓reduceIte, Nat.reduceEqDiff, ne_eq, not_true_eq_false, not_false_eq_true, Nat.one_ne_zero, Nat.zero_ne_one, Nat.succ_ne_self, Nat.reduceAdd, Bool.false_eq_true, false_implies, implies_true, reduceCtorEq, refB, strB]
      repeat' (first | rfl | apply And.intro)
  · have b1 : decide (e1 = 0) = false := decide_eq_false x1
    have e : wrB d k s bb = (e1, d1) := by
      unfold wrB
      split
      · rw [thn_no (by rw [hq1]; exact x1)]; exact hq1
      · exact hq1
    rw [e]
    simp -implicitDefEqProofs only [go_sem, b1]
    refine sub_mk [] rfl rfl rfl ?_
    simp only [tmSub, hpSub, objSub, eqTm, eqHp, rn, lk, SV.ren, SV.renC, SV.renB, SV.renA, ren_ints, ren_strs, ren_pl, ren_svs, SV.v.injEq, Value.int.injEq, Body.ints.injEq, SV.ptr.injEq, SV.sl.injEq, Value.string.injEq, Value.bool.injEq, List.map_cons, List.map_nil, forall_const, Nat.reduceLT, Nat.lt_add_one, imp_self, true_and, and_true, and_self, ob_some, get_mk, lk_cons, ↓reduceIte, Nat.reduceEqDiff, ne_eq, not_true_eq_false, not_false_eq_true, Nat.one_ne_zero, Nat.zero_ne_one, Nat.succ_ne_self, Nat.reduceAdd, Bool.false_eq_true, false_implies, implies_true, reduceCtorEq, refB, strB]
    repeat' (first | rfl | apply And.intro)
theorem ids6 {lc : List (Nat × Option SO)} {i D a b M W n : Nat} (hM : idOK n M = true) (hW : idOK n W = true) (h1 : (lk lc 1).isSome = true := by rfl) (h2 : (lk lc 2).isSome = true := by rfl) (h3 : (lk lc 3).isSome = true := by rfl) (h4 : (lk lc 4).isSome = true := by rfl) : ∀ k, 0 < k → k < 7 → (lk lc k).isSome = true ∨ idOK n (rn [(1, i), (2, D), (3, a), (4, b), (5, M), (6, W)] k) = true := by
  intro k h0 h5
  have hc : k = 1 ∨ k = 2 ∨ k = 3 ∨ k = 4 ∨ k = 5 ∨ k = 6 := by omega
  rcases hc with rfl | rfl | rfl | rfl | rfl | rfl
  · exact .inl h1
  · exact .inl h2
  · exact .inl h3
  · exact .inl h4
  · exact .inr hM
  · exact .inr hW
theorem rcwriteS {w0 m0 : Nat} {k : Int} {s : ByteArray} {bb : Bool} {m t : Nat} (hc : H.get i = some ⟨true, rcL C m0 w0 D M W⟩) (h : RefAt H d D a b true true true) (hi : (0 < i ∧ i < 1000) ∧ i ≠ D ∧ i ≠ a ∧ i ≠ b) (hid : idOK n M = true ∧ idOK n W = true) (hP : Pl d m t) (ht : t + 1 < 1000000) (hn : n + 2 ≤ 1000) {e : Int} (hq : wrB d k s bb = (e, d')) :
    SpecAt Tryz.prog nrcwrite [.ptr i 0, .v (.int .i64 k), .v (.string s), .v (.bool bb)] H n (.v (.int .i64 e)) ⟨(i, some ⟨true, rcL C m0 w0 D M W⟩) :: (D, some ⟨true, refB d' n (n + 1)⟩) :: (a, none) :: (b, none) :: (n, some ⟨true, strB d'.safe⟩) :: (n + 1, some ⟨true, .pl (qrow d'.pend)⟩) :: H.l, H.x⟩ (n + 2) := by
  obtain ⟨h1, h2, h3, ⟨p1, p2, p3⟩, ⟨q1, q2, q3⟩, n1, n2, n3⟩ := h
  obtain ⟨⟨i1, i2⟩, i3, i4, i5⟩ := hi
  have e1 : (wrB d k s bb).1 = e := by rw [hq]
  have e2 : (wrB d k s bb).2 = d' := by rw [hq]
  subst e1; subst e2
  have := liftD (n := n) (okT.spec trcwrite (rcwriteW (x := H.x) (C := C) (m0 := m0) (w0 := w0) (k := k) (s := s) (bb := bb) hP ht)) [(1, i), (2, D), (3, a), (4, b), (5, M), (6, W)] rfl (ids6 hid.1 hid.2) rfl (by omega) rfl rfl
    ⟨sub_wr rfl i1 i2 hc rfl, sub_wr rfl p1 q1 h1 rfl, sub_wr rfl p2 q2 h2 rfl, sub_wr rfl p3 q3 h3 rfl, trivial⟩
    (by simp [rwH, apartB, apart1, rn, lk, n1, n2, n3, i3, i4, i5, Ne.symm n1, Ne.symm n2, Ne.symm n3, Ne.symm i3, Ne.symm i4, Ne.symm i5]) (by simp [rwH, wrNZ, rn, lk]; omega) (by omega)
  exact this
theorem wrT_err {k : Int} {s : ByteArray} (h0 : 0 ≤ k) (h1 : k < d.seen.length) (hs : s.size ≤ 64) : (wrT d k s).1 = 0 ∨ (wrT d k s).1 = 7 := by
  unfold wrT wrNo
  split
  · rename_i p hp
    split at hp
    · cases hp; exact .inr rfl
    split at hp
    · rename_i c; omega
    split at hp
    · rename_i c; omega
    split at hp
    · cases hp; exact .inr rfl
    · cases hp
  · exact .inl rfl
theorem baT_err : (baT d).1 = 0 ∨ (baT d).1 = 7 := by
  unfold baT baNo
  split
  · rename_i p hp
    split at hp
    · cases hp; exact .inr rfl
    split at hp
    · cases hp; exact .inr rfl
    · cases hp
  · exact .inl rfl
theorem thn_err {p : Int × Fd} {f : Fd → Int × Fd} (hp : p.1 = 0 ∨ p.1 = 7) (hf : (f p.2).1 = 0 ∨ (f p.2).1 = 7) : (thn p f).1 = 0 ∨ (thn p f).1 = 7 := by
  unfold thn; split
  · exact hf
  · exact hp
end
section
/- Cells: the document's Commit, walked. -/
set_option linter.unusedVariables false
set_option linter.unusedSimpArgs false
set_option maxRecDepth 100000
open Go.Proofs
variable {H : Hp} {n : Nat} {x : Nat → Option SO} {i D M W a b c : Nat} {d d' : Fd} {C C' : Ce}
def lpC (at_ : Int) (I : ByteArray) (d : Fd) (j : Nat) : Int × Fd := if j < nCh I then pC at_ I d j else p2 at_ I d
theorem lpC_step {at_ : Int} {I : ByteArray} {j : Nat} (hj : j < nCh I) (h0 : (lpC at_ I d j).1 = 0) : wrB (lpC at_ I d j).2 (at_ + 1 + j) (chk I j) (decide (j + 1 = nCh I)) = lpC at_ I d (j + 1) := by
  have e : lpC at_ I d j = pC at_ I d j := if_pos hj
  rw [e] at h0 ⊢
  have e2 : pC at_ I d (j + 1) = wrT (pC at_ I d j).2 (at_ + 1 + j) (chk I j) := by
    show thn (pC at_ I d j) (fun d => wrT d (at_ + 1 + j) (chk I j)) = _
    exact thn_ok h0
  by_cases c : j + 1 = nCh I
  · have c2 : ¬ j + 1 < nCh I := by omega
    unfold wrB lpC
    rw [decide_eq_true c, if_pos rfl, if_neg c2]
    unfold p2
    rw [← c, e2]
  · have c2 : j + 1 < nCh I := by omega
    unfold wrB lpC
    rw [decide_eq_false c, if_neg Bool.false_ne_true, if_pos c2, e2]
theorem lpC_pl {at_ : Int} {I : ByteArray} {m t j : Nat} (hP : Pl d m t) (ht : t + 1000 < 1000000) (hI : I.size ≤ 8192) (hj : j ≤ nCh I) : Pl (lpC at_ I d j).2 m (t + 131) := by
  have := nCh_le hI
  unfold lpC
  split
  · exact (pC_pl hP ht (by omega)).mono (by omega)
  · exact p2_pl hP ht hI
theorem lpC_bad {at_ : Int} {I Q : ByteArray} {j : Nat} (hj : j ≤ nCh I) (h : (lpC at_ I d j).1 ≠ 0) : slW at_ Q I d = lpC at_ I d j := by
  unfold lpC at h ⊢
  split at h
  · rename_i c; rw [if_pos c]; exact slW_3 hj h
  · rename_i c; rw [if_neg c]; exact slW_4 h
theorem wrB_err {k : Int} {s : ByteArray} {b : Bool} (h0 : 0 ≤ k) (h1 : k < d.seen.length) (hs : s.size ≤ 64) : (wrB d k s b).1 = 0 ∨ (wrB d k s b).1 = 7 := by
  unfold wrB
  split
  · exact thn_err (wrT_err h0 h1 hs) baT_err
  · exact wrT_err h0 h1 hs
theorem lpC_err {a0 m t : Nat} {I : ByteArray} (hP : Pl d m t) (ht : t + 1000 < 1000000) (hI : I.size ≤ 8192) (hm : a0 + 1 + nCh I ≤ m) : ∀ {j}, j ≤ nCh I → (lpC a0 I d j).1 = 0 ∨ (lpC a0 I d j).1 = 7
  | 0, _ => by
    have h0 : (p1 a0 d).1 = 0 ∨ (p1 a0 d).1 = 7 := thn_err (wrT_err (by omega) (by rw [hP.len]; omega) (by decide)) baT_err
    unfold lpC
    split
    · exact h0
    · rename_i c
      have e : nCh I = 0 := by omega
      have e2 : pC a0 I d (nCh I) = p1 a0 d := by rw [e]; rfl
      unfold p2
      rw [e2]
      exact thn_err h0 baT_err
  | j + 1, hj => by
    have ih := lpC_err hP ht hI hm (j := j) (by omega)
    have hp := lpC_pl (at_ := a0) hP ht hI (j := j) (by omega)
    by_cases c : (lpC a0 I d j).1 = 0
    · rw [← lpC_step (by omega) c]
      exact wrB_err (by omega) (by rw [hp.len]; omega) chk_size
    · have hj' : j < nCh I := by omega
      have e : lpC a0 I d j = pC a0 I d j := if_pos hj'
      rw [e] at c ih
      have e2 : pC a0 I d (j + 1) = pC a0 I d j := by
        show thn (pC a0 I d j) (fun d => wrT d ((a0 : Int) + 1 + j) (chk I j)) = _
        exact thn_no c
      unfold lpC
      split
      · rw [e2]; exact ih
      · rename_i c2
        have e3 : nCh I = j + 1 := by omega
        unfold p2
        rw [e3, e2]
        exact thn_err ih baT_err
theorem slW_err {a0 m t : Nat} {I Q : ByteArray} (hP : Pl d m t) (ht : t + 1000 < 1000000) (hI : I.size ≤ 8192) (hm : a0 + 1 + nCh I ≤ m) (hQ : Q.size ≤ 64) : (slW a0 Q I d).1 = 0 ∨ (slW a0 Q I d).1 = 7 := by
  have h2 := lpC_err (I := I) hP ht hI hm (Nat.le_refl _)
  have e : lpC a0 I d (nCh I) = p2 a0 I d := if_neg (Nat.lt_irrefl _)
  rw [e] at h2
  have hp := p2_pl (at_ := a0) hP ht hI
  refine thn_err (thn_err h2 (wrT_err (by omega) (by rw [hp.len]; omega) hQ)) baT_err
def rkH (C : Ce) (d : Fd) (x : Nat → Option SO) : Hp := ⟨[(1, some ⟨true, rcellB C 2 5 6⟩), (2, some ⟨true, refB d 3 4⟩), (3, some ⟨true, strB d.safe⟩), (4, some ⟨true, .pl (qrow d.pend)⟩), (5, some ⟨false, rowP C.now⟩), (6, some ⟨false, rowP C.was⟩)], x⟩
set_option maxHeartbeats 4000000 in
theorem rCommitW {m t : Nat} {e : Int} {W' : Nat} (hC : C.ok) (hP : Pl d m t) (ht : t + 1000 < 1000000) (hlen : ceTo C + C.half ≤ m) (hq : coR C d = (e, C', d')) (hW : e = 0 ∧ W' = 5 ∨ e ≠ 0 ∧ W' = 6) :
    fnVC CT mrCCommit [.ptr 1 0] (rkH C d x) 7 fun v H' n' => Sub 7 ⟨[(0, .v (.int .i64 e))], ⟨[(1, some ⟨true, rcellB C' 2 5 W'⟩), (2, some ⟨true, refB d' 7 8⟩), (3, none), (4, none), (7, some ⟨true, strB d'.safe⟩), (8, some ⟨true, .pl (qrow d'.pend)⟩)], x⟩, 9⟩ ⟨[(0, v)], H', n'⟩ := by
  obtain ⟨hE, hWs, ⟨hh1, hh2⟩, hbs, hla, hnu⟩ := hC
  unfold mrCCommit rkH rcellB rcL
  simp -implicitDefEqProofs only [↓fnVC, initTm]
  by_cases c1 : C.dead = true
  · rw [c1]
    simp -implicitDefEqProofs only [go_sem]
    rw [show coR C d = (7, C, d) from if_pos c1] at hq
    cases hq
    obtain rfl : W' = 6 := by rcases hW with h | h; exact absurd h.1 (by decide); exact h.2
    refine sub_mk [(7, 3), (8, 4)] rfl rfl rfl ?_
    simp only [tmSub, hpSub, objSub, eqTm, eqHp, rn, lk, SV.ren, SV.renC, SV.renB, SV.renA, ren_ints, ren_strs, ren_pl, ren_svs, SV.v.injEq, Value.int.injEq, Body.ints.injEq, SV.ptr.injEq, SV.sl.injEq, Value.string.injEq, Value.bool.injEq, List.map_cons, List.map_nil, forall_const, Nat.reduceLT, Nat.lt_add_one, imp_self, true_and, and_true, and_self, ob_some, get_mk, lk_cons, ↓reduceIte, Nat.reduceEqDiff, ne_eq, not_true_eq_false, not_false_eq_true, Nat.one_ne_zero, Nat.zero_ne_one, Nat.succ_ne_self, Nat.reduceAdd, Bool.false_eq_true, false_implies, implies_true, reduceCtorEq, rcellB, rcL, refB, strB]
    rw [c1]
    repeat' (first | rfl | apply And.intro)
  have c1' : C.dead = false := by simpa using c1
  rw [c1']
  simp -implicitDefEqProofs only [go_sem]
  refine at_call trcBytes (rBytesS (i := 5) (es := C.now) (by rfl) (by decide) hE) ?_
  have w1 : IntKind.i64.wrap ((C.half : Int) - 1) = ((C.half - 1 : Nat) : Int) := by rw [wrap_i64 (by omega) (by omega)]; omega
  have w2 : IntKind.i64.wrap (64 * ((C.half - 1 : Nat) : Int)) = ((64 * (C.half - 1) : Nat) : Int) := by rw [wrap_i64 (by omega) (by omega)]; omega
  simp -implicitDefEqProofs only [go_sem, w1, w2]
  by_cases c2 : 64 * (C.half - 1) < (encB C.now).size
  · have b2 : decide (((encB C.now).size : Int) > ((64 * (C.half - 1) : Nat) : Int)) = true := decide_eq_true (by omega)
    simp -implicitDefEqProofs only [go_sem, b2]
    rw [show coR C d = (4, C, d) by unfold coR; rw [if_neg c1, if_pos c2]] at hq
    cases hq
    obtain rfl : W' = 6 := by rcases hW with h | h; exact absurd h.1 (by decide); exact h.2
    refine sub_mk [(7, 3), (8, 4)] rfl rfl rfl ?_
    simp only [tmSub, hpSub, objSub, eqTm, eqHp, rn, lk, SV.ren, SV.renC, SV.renB, SV.renA, ren_ints, ren_strs, ren_pl, ren_svs, SV.v.injEq, Value.int.injEq, Body.ints.injEq, SV.ptr.injEq, SV.sl.injEq, Value.string.injEq, Value.bool.injEq, List.map_cons, List.map_nil, forall_const, Nat.reduceLT, Nat.lt_add_one, imp_self, true_and, and_true, and_self, ob_some, get_mk, lk_cons, ↓reduceIte, Nat.reduceEqDiff, ne_eq, not_true_eq_false, not_false_eq_true, Nat.one_ne_zero, Nat.zero_ne_one, Nat.succ_ne_self, Nat.reduceAdd, Bool.false_eq_true, false_implies, implies_true, reduceCtorEq, rcellB, rcL, refB, strB]
    rw [c1']
    repeat' (first | rfl | apply And.intro)
  have b2 : decide (((encB C.now).size : Int) > ((64 * (C.half - 1) : Nat) : Int)) = false := decide_eq_false (by omega)
  have b3 : decide ((C.num : Int) ≥ 9223372036854775806) = false := decide_eq_false (by omega)
  have w3 : IntKind.i64.wrap (1 - (C.last : Int)) = ((1 - C.last : Nat) : Int) := by rw [wrap_i64 (by omega) (by omega)]; omega
  have w4 : IntKind.i64.wrap ((C.num : Int) + 1) = ((C.num + 1 : Nat) : Int) := by rw [wrap_i64 (by omega) (by omega)]; omega
  have hm : (1 - C.last) * C.half ≤ 129 := by
    have : 1 - C.last ≤ 1 := by omega
    calc (1 - C.last) * C.half ≤ 1 * C.half := Nat.mul_le_mul_right _ this
      _ ≤ 129 := by omega
  have w5 : IntKind.i64.wrap (((1 - C.last : Nat) : Int) * (C.half : Int)) = (((1 - C.last) * C.half : Nat) : Int) := by
    rw [← Int.natCast_mul]; exact wrap_i64 (by omega) (by omega)
  have w6 : IntKind.i64.wrap ((C.base : Int) + (((1 - C.last) * C.half : Nat) : Int)) = ((ceTo C : Nat) : Int) := by
    unfold ceTo; rw [wrap_i64 (by omega) (by omega)]; omega
  have hto : ceTo C ≤ 1000000 := by unfold ceTo; omega
  have hsz : (encB C.now).size ≤ 8192 := by omega
  have hpos := encB_pos (es := C.now)
  have hroom : nCh (encB C.now) ≤ C.half - 1 := by unfold nCh; omega
  have hse := slW_err (a0 := ceTo C) (Q := hdC (C.num + 1) (encB C.now).size) hP ht hsz (by omega) (by rw [hdC_size]; decide)
  have hcoq : coQ C d = slW (ceTo C) (hdC (C.num + 1) (encB C.now).size) (encB C.now) d := rfl
  have hcor : coR C d = if (coQ C d).1 ≠ 0 then ((coQ C d).1, { C with dead := true }, (coQ C d).2) else (0, { C with last := 1 - C.last, num := C.num + 1, was := C.now }, (coQ C d).2) := by unfold coR; rw [if_neg c1, if_neg c2]
  rw [hcoq] at hcor
  rw [hcor] at hq
  generalize hs : encB C.now = sB at *
  simp -implicitDefEqProofs only [go_sem, b2, b3, w3, w4, w5, w6]
  obtain ⟨⟨e1, d1⟩, hq1⟩ : ∃ q, p1 (ceTo C) d = q := ⟨_, rfl⟩
  refine at_call trcwrite (rcwriteS (i := 1) (D := 2) (a := 3) (b := 4) (M := 5) (W := 6) (C := { C with dead := false }) (m0 := C.now.length) (w0 := C.was.length) (by rfl) ⟨by rfl, by rfl, by rfl, by decide⟩ (by decide) (by decide) hP (by omega) (by decide) (show wrB d (ceTo C) ⟨#[]⟩ true = (e1, d1) from hq1)) ?_
  unfold rcL
  simp -implicitDefEqProofs only [go_sem]
  have hn0 : 0 < nCh sB := by unfold nCh; omega
  refine loop_fam (fun (j : Nat) => j ≤ nCh sB) (fun j => ⟨[(0, .ptr 1 0), (3, .v (.string sB)), (4, .v (.int .i64 (1 - C.last : Nat))), (5, .v (.int .i64 (ceTo C : Nat))), (6, .v (.int .i64 (lpC (ceTo C) sB d j).1)), (7, .v (.int .i64 ((64 * j : Nat) : Int)))],
    ⟨[(1, some ⟨true, rcL { C with dead := false } C.now.length C.was.length 2 5 6⟩), (2, some ⟨true, refB (lpC (ceTo C) sB d j).2 7 8⟩), (5, some ⟨false, rowP C.now⟩), (6, some ⟨false, rowP C.was⟩), (7, some ⟨true, strB (lpC (ceTo C) sB d j).2.safe⟩), (8, some ⟨true, .pl (qrow (lpC (ceTo C) sB d j).2.pend)⟩)], x⟩, 9⟩) (fun j => nCh sB - j) 0 (Nat.zero_le _) ?_ ?_
  · have e0 : lpC (ceTo C) sB d 0 = (e1, d1) := by unfold lpC; rw [if_pos hn0]; exact hq1
    rw [e0]
    refine sub_mk [] rfl rfl rfl ?_
    simp only [tmSub, hpSub, objSub, eqTm, eqHp, rn, lk, SV.ren, SV.renC, SV.renB, SV.renA, ren_ints, ren_strs, ren_pl, ren_svs, SV.v.injEq, Value.int.injEq, Body.ints.injEq, SV.ptr.injEq, SV.sl.injEq, Value.string.injEq, Value.bool.injEq, List.map_cons, List.map_nil, forall_const, Nat.reduceLT, Nat.lt_add_one, imp_self, true_and, and_true, and_self, ob_some, get_mk, lk_cons, ↓reduceIte, Nat.reduceEqDiff, ne_eq, not_true_eq_false, not_false_eq_true, Nat.one_ne_zero, Nat.zero_ne_one, Nat.succ_ne_self, Nat.reduceAdd, Bool.false_eq_true, false_implies, implies_true, reduceCtorEq, rcL, refB, strB, rowP]
    repeat' (first | rfl | apply And.intro)
  · intro j hj
    have hstep := fun h => lpC_step (at_ := ceTo C) (I := sB) (d := d) (j := j) h
    have hpl := lpC_pl (at_ := ceTo C) (j := j) hP ht hsz hj
    have hbad := lpC_bad (at_ := ceTo C) (I := sB) (Q := hdC (C.num + 1) sB.size) (d := d) hj
    have hend : ¬ j < nCh sB → lpC (ceTo C) sB d j = p2 (ceTo C) sB d := fun h => if_neg h
    have hlt := nCh_lt (I := sB) (j := j)
    generalize lpC (ceTo C) sB d j = q at hstep hpl hbad hend ⊢
    obtain ⟨e2, d2⟩ := q
    simp only at hstep hpl hbad
    unfold rcL refB strB
    simp -implicitDefEqProofs only [go_sem]
    by_cases hc : j < nCh sB ∧ e2 = 0
    · obtain ⟨hc1, hc2⟩ := hc
      subst hc2
      have hl := hlt.1 hc1
      have a1 : decide (((64 * j : Nat) : Int) < (sB.size : Int)) = true := decide_eq_true (by omega)
      have w7 : IntKind.i64.wrap (((64 * j : Nat) : Int) + 64) = ((64 * j + 64 : Nat) : Int) := by rw [wrap_i64 (by omega) (by omega)]; omega
      have w8 : min (((64 * j + 64 : Nat)) : Int) (sB.size : Int) = ((min (64 * j + 64) sB.size : Nat) : Int) := by omega
      have w9 : IntKind.i64.wrap ((ceTo C : Int) + 1) = (ceTo C : Int) + 1 := wrap_i64 (by omega) (by omega)
      have w10 : IntKind.i64.wrap (((64 * j : Nat) : Int).tdiv 64) = (j : Int) := by rw [Int.tdiv_eq_ediv_of_nonneg (by omega), wrap_i64 (by omega) (by omega)]; omega
      have w11 : IntKind.i64.wrap ((ceTo C : Int) + 1 + (j : Int)) = (ceTo C : Int) + 1 + (j : Int) := wrap_i64 (by omega) (by omega)
      have w12 : decide (((min (64 * j + 64) sB.size : Nat) : Int) = (sB.size : Int)) = decide (j + 1 = nCh sB) := by
        by_cases h : j + 1 = nCh sB
        · rw [decide_eq_true h]; exact decide_eq_true (by unfold nCh at h; omega)
        · rw [decide_eq_false h]; exact decide_eq_false (by unfold nCh at h hc1; omega)
      have hck : sB.extract (64 * j) (min (64 * j + 64) sB.size) = chk sB j := rfl
      have hst := hstep hc1 rfl
      have hnx := lpC_pl (at_ := ceTo C) (j := j + 1) hP ht hsz (by omega)
      obtain ⟨⟨e3, d3⟩, hq3⟩ : ∃ q, lpC (ceTo C) sB d (j + 1) = q := ⟨_, rfl⟩
      rw [hq3] at hst hnx
      simp -implicitDefEqProofs only [go_sem, a1, w7, w8, w9, w10, w11, w12]
      refine ⟨⟨by omega, by omega⟩, ?_⟩
      rw [hck]
      refine at_call trcwrite (rcwriteS (i := 1) (D := 2) (a := 7) (b := 8) (M := 5) (W := 6) (C := { C with dead := false }) (m0 := C.now.length) (w0 := C.was.length) (by rfl) ⟨by rfl, by rfl, by rfl, by decide⟩ (by decide) (by decide) hpl (by omega) (by decide) hst) ?_
      unfold rcL
      simp -implicitDefEqProofs only [go_sem, w7]
      refine kLoop_mk (j + 1) (by omega) (by omega) ?_
      rw [hq3]
      refine sub_mk [(7, 9), (8, 10)] rfl rfl rfl ?_
      simp only [tmSub, hpSub, objSub, eqTm, eqHp, rn, lk, SV.ren, SV.renC, SV.renB, SV.renA, ren_ints, ren_strs, ren_pl, ren_svs, SV.v.injEq, Value.int.injEq, Body.ints.injEq, SV.ptr.injEq, SV.sl.injEq, Value.string.injEq, Value.bool.injEq, List.map_cons, List.map_nil, forall_const, Nat.reduceLT, Nat.lt_add_one, imp_self, true_and, and_true, and_self, ob_some, get_mk, lk_cons, ↓reduceIte, Nat.reduceEqDiff, ne_eq, not_true_eq_false, not_false_eq_true, Nat.one_ne_zero, Nat.zero_ne_one, Nat.succ_ne_self, Nat.reduceAdd, Bool.false_eq_true, false_implies, implies_true, reduceCtorEq, rcL, refB, strB, rowP, w7]
      repeat' (first | rfl | apply And.intro)
    · by_cases hj2 : j < nCh sB
      · have x2 : e2 ≠ 0 := fun h => hc ⟨hj2, h⟩
        have hl := hlt.1 hj2
        have a1 : decide (((64 * j : Nat) : Int) < (sB.size : Int)) = true := decide_eq_true (by omega)
        have a2 : decide (e2 = 0) = false := decide_eq_false x2
        simp -implicitDefEqProofs only [go_sem, a1, a2, w4]
        refine at_call trWNumber (rwNum0S (i := 9) (k := 8) (y := C.num + 1) (bad := false) (by rfl) (by decide) (by decide) (by decide) (by decide) (by omega) (fun h => absurd h (by decide))) ?_
        simp -implicitDefEqProofs only [go_sem]
        refine at_call trWNumber (rwNumS (i := 9) (r := 10) (k := 4) (y := sB.size) (bs := be (C.num + 1) 8) (bad := false) (by rfl) (by rfl) (by decide) (by decide) (by decide) (by decide) (by decide) (by decide) (by omega) (fun _ => by omega) (by rw [be_len]; decide)) ?_
        simp -implicitDefEqProofs only [go_sem, w4]
        refine at_call trWNumber (rwNumS (i := 9) (r := 11) (k := 8) (y := C.num + 1) (bs := be (C.num + 1) 8 ++ be sB.size 4) (bad := false) (by rfl) (by rfl) (by decide) (by decide) (by decide) (by decide) (by decide) (by decide) (by omega) (fun h => absurd h (by decide)) (by rw [List.length_append, be_len, be_len]; decide)) ?_
        have hQT : tx (be (C.num + 1) 8 ++ be sB.size 4 ++ be (C.num + 1) 8) = hdC (C.num + 1) sB.size := rfl
        have hQL : List.take (be (C.num + 1) 8 ++ be sB.size 4 ++ be (C.num + 1) 8).length (be (C.num + 1) 8 ++ be sB.size 4 ++ be (C.num + 1) 8) = be (C.num + 1) 8 ++ be sB.size 4 ++ be (C.num + 1) 8 := List.take_length
        by_cases x2 : e2 = 0
        · have hj2 : j = nCh sB := by omega
          have hp2 : p2 (ceTo C) sB d = (e2, d2) := (hend (by omega)).symm
          have b4 : decide (e2 = 0) = true := decide_eq_true x2
          unfold wrO
          simp -implicitDefEqProofs only [go_sem, b4, hQL, hQT]
          have hpl2 := hpl
          obtain ⟨⟨e4, d4⟩, hq4⟩ : ∃ q, wrB d2 (ceTo C : Nat) (hdC (C.num + 1) sB.size) true = q := ⟨_, rfl⟩
          have hsl : slW (ceTo C) (hdC (C.num + 1) sB.size) sB d = (e4, d4) := by
            unfold slW p3
            rw [hp2, thn_ok (show (e2, d2).1 = 0 from x2)]
            exact hq4
          rw [hsl] at hq hse
          refine at_call trcwrite (rcwriteS (i := 1) (D := 2) (a := 7) (b := 8) (M := 5) (W := 6) (C := { C with dead := false }) (m0 := C.now.length) (w0 := C.was.length) (by rfl) ⟨by rfl, by rfl, by rfl, by decide⟩ (by decide) (by decide) hpl (by omega) (by decide) hq4) ?_
          unfold rcL
          by_cases x4 : e4 = 0
          · have b5 : decide (e4 = 0) = true := decide_eq_true x4
            rw [if_neg (fun h => h (show (e4, d4).1 = 0 from x4))] at hq
            cases hq
            obtain rfl : W' = 5 := by rcases hW with h | h; exact h.2; exact absurd rfl h.1
            simp -implicitDefEqProofs only [go_sem, b5, w4]
            refine sub_mk [(7, 13), (8, 14)] rfl rfl rfl ?_
            simp only [tmSub, hpSub, objSub, eqTm, eqHp, rn, lk, SV.ren, SV.renC, SV.renB, SV.renA, ren_ints, ren_strs, ren_pl, ren_svs, SV.v.injEq, Value.int.injEq, Body.ints.injEq, SV.ptr.injEq, SV.sl.injEq, Value.string.injEq, Value.bool.injEq, List.map_cons, List.map_nil, forall_const, Nat.reduceLT, Nat.lt_add_one, imp_self, true_and, and_true, and_self, ob_some, get_mk, lk_cons, ↓reduceIte, Nat.reduceEqDiff, ne_eq, not_true_eq_false, not_false_eq_true, Nat.one_ne_zero, Nat.zero_ne_one, Nat.succ_ne_self, Nat.reduceAdd, Bool.false_eq_true, false_implies, implies_true, reduceCtorEq, rcellB, rcL, refB, strB]
            rw [c1']
            repeat' (first | rfl | apply And.intro)
          · have b5 : decide (e4 = 0) = false := decide_eq_false x4
            rw [if_pos (show (e4, d4).1 ≠ 0 from x4)] at hq
            cases hq
            obtain rfl : W' = 6 := by rcases hW with h | h; exact absurd h.1 x4; exact h.2
            have e7 : e4 = 7 := by rcases hse with h | h; exact absurd h x4; exact h
            subst e7
            simp -implicitDefEqProofs only [go_sem]
            refine sub_mk [(7, 13), (8, 14)] rfl rfl rfl ?_
            simp only [tmSub, hpSub, objSub, eqTm, eqHp, rn, lk, SV.ren, SV.renC, SV.renB, SV.renA, ren_ints, ren_strs, ren_pl, ren_svs, SV.v.injEq, Value.int.injEq, Body.ints.injEq, SV.ptr.injEq, SV.sl.injEq, Value.string.injEq, Value.bool.injEq, List.map_cons, List.map_nil, forall_const, Nat.reduceLT, Nat.lt_add_one, imp_self, true_and, and_true, and_self, ob_some, get_mk, lk_cons, ↓reduceIte, Nat.reduceEqDiff, ne_eq, not_true_eq_false, not_false_eq_true, Nat.one_ne_zero, Nat.zero_ne_one, Nat.succ_ne_self, Nat.reduceAdd, Bool.false_eq_true, false_implies, implies_true, reduceCtorEq, rcellB, rcL, refB, strB]
        · have hsl := hbad x2
          rw [hsl] at hq hse
          have e7 : e2 = 7 := by rcases hse with h | h; exact absurd h x2; exact h
          rw [if_pos (show (e2, d2).1 ≠ 0 from x2)] at hq
          cases hq
          obtain rfl : W' = 6 := by rcases hW with h | h; exact absurd h.1 x2; exact h.2
          subst e7
          unfold wrO
          simp -implicitDefEqProofs only [go_sem]
          refine sub_mk [(7, 7), (8, 8)] rfl rfl rfl ?_
          simp only [tmSub, hpSub, objSub, eqTm, eqHp, rn, lk, SV.ren, SV.renC, SV.renB, SV.renA, ren_ints, ren_strs, ren_pl, ren_svs, SV.v.injEq, Value.int.injEq, Body.ints.injEq, SV.ptr.injEq, SV.sl.injEq, Value.string.injEq, Value.bool.injEq, List.map_cons, List.map_nil, forall_const, Nat.reduceLT, Nat.lt_add_one, imp_self, true_and, and_true, and_self, ob_some, get_mk, lk_cons, ↓reduceIte, Nat.reduceEqDiff, ne_eq, not_true_eq_false, not_false_eq_true, Nat.one_ne_zero, Nat.zero_ne_one, Nat.succ_ne_self, Nat.reduceAdd, Bool.false_eq_true, false_implies, implies_true, reduceCtorEq, rcellB, rcL, refB, strB]
      · have hl : ¬ 64 * j < sB.size := fun h => hj2 (hlt.2 h)
        have a1 : decide (((64 * j : Nat) : Int) < (sB.size : Int)) = false := decide_eq_false (by omega)
        simp -implicitDefEqProofs only [go_sem, a1, w4]
        refine at_call trWNumber (rwNum0S (i := 9) (k := 8) (y := C.num + 1) (bad := false) (by rfl) (by decide) (by decide) (by decide) (by decide) (by omega) (fun h => absurd h (by decide))) ?_
        simp -implicitDefEqProofs only [go_sem]
        refine at_call trWNumber (rwNumS (i := 9) (r := 10) (k := 4) (y := sB.size) (bs := be (C.num + 1) 8) (bad := false) (by rfl) (by rfl) (by decide) (by decide) (by decide) (by decide) (by decide) (by decide) (by omega) (fun _ => by omega) (by rw [be_len]; decide)) ?_
        simp -implicitDefEqProofs only [go_sem, w4]
        refine at_call trWNumber (rwNumS (i := 9) (r := 11) (k := 8) (y := C.num + 1) (bs := be (C.num + 1) 8 ++ be sB.size 4) (bad := false) (by rfl) (by rfl) (by decide) (by decide) (by decide) (by decide) (by decide) (by decide) (by omega) (fun h => absurd h (by decide)) (by rw [List.length_append, be_len, be_len]; decide)) ?_
        have hQT : tx (be (C.num + 1) 8 ++ be sB.size 4 ++ be (C.num + 1) 8) = hdC (C.num + 1) sB.size := rfl
        have hQL : List.take (be (C.num + 1) 8 ++ be sB.size 4 ++ be (C.num + 1) 8).length (be (C.num + 1) 8 ++ be sB.size 4 ++ be (C.num + 1) 8) = be (C.num + 1) 8 ++ be sB.size 4 ++ be (C.num + 1) 8 := List.take_length
        by_cases x2 : e2 = 0
        · have hj2 : j = nCh sB := by omega
          have hp2 : p2 (ceTo C) sB d = (e2, d2) := (hend (by omega)).symm
          have b4 : decide (e2 = 0) = true := decide_eq_true x2
          unfold wrO
          simp -implicitDefEqProofs only [go_sem, b4, hQL, hQT]
          have hpl2 := hpl
          obtain ⟨⟨e4, d4⟩, hq4⟩ : ∃ q, wrB d2 (ceTo C : Nat) (hdC (C.num + 1) sB.size) true = q := ⟨_, rfl⟩
          have hsl : slW (ceTo C) (hdC (C.num + 1) sB.size) sB d = (e4, d4) := by
            unfold slW p3
            rw [hp2, thn_ok (show (e2, d2).1 = 0 from x2)]
            exact hq4
          rw [hsl] at hq hse
          refine at_call trcwrite (rcwriteS (i := 1) (D := 2) (a := 7) (b := 8) (M := 5) (W := 6) (C := { C with dead := false }) (m0 := C.now.length) (w0 := C.was.length) (by rfl) ⟨by rfl, by rfl, by rfl, by decide⟩ (by decide) (by decide) hpl (by omega) (by decide) hq4) ?_
          unfold rcL
          by_cases x4 : e4 = 0
          · have b5 : decide (e4 = 0) = true := decide_eq_true x4
            rw [if_neg (fun h => h (show (e4, d4).1 = 0 from x4))] at hq
            cases hq
            obtain rfl : W' = 5 := by rcases hW with h | h; exact h.2; exact absurd rfl h.1
            simp -implicitDefEqProofs only [go_sem, b5, w4]
            refine sub_mk [(7, 13), (8, 14)] rfl rfl rfl ?_
            simp only [tmSub, hpSub, objSub, eqTm, eqHp, rn, lk, SV.ren, SV.renC, SV.renB, SV.renA, ren_ints, ren_strs, ren_pl, ren_svs, SV.v.injEq, Value.int.injEq, Body.ints.injEq, SV.ptr.injEq, SV.sl.injEq, Value.string.injEq, Value.bool.injEq, List.map_cons, List.map_nil, forall_const, Nat.reduceLT, Nat.lt_add_one, imp_self, true_and, and_true, and_self, ob_some, get_mk, lk_cons, ↓reduceIte, Nat.reduceEqDiff, ne_eq, not_true_eq_false, not_false_eq_true, Nat.one_ne_zero, Nat.zero_ne_one, Nat.succ_ne_self, Nat.reduceAdd, Bool.false_eq_true, false_implies, implies_true, reduceCtorEq, rcellB, rcL, refB, strB]
            rw [c1']
            repeat' (first | rfl | apply And.intro)
          · have b5 : decide (e4 = 0) = false := decide_eq_false x4
            rw [if_pos (show (e4, d4).1 ≠ 0 from x4)] at hq
            cases hq
            obtain rfl : W' = 6 := by rcases hW with h | h; exact absurd h.1 x4; exact h.2
            have e7 : e4 = 7 := by rcases hse with h | h; exact absurd h x4; exact h
            subst e7
            simp -implicitDefEqProofs only [go_sem]
            refine sub_mk [(7, 13), (8, 14)] rfl rfl rfl ?_
            simp only [tmSub, hpSub, objSub, eqTm, eqHp, rn, lk, SV.ren, SV.renC, SV.renB, SV.renA, ren_ints, ren_strs, ren_pl, ren_svs, SV.v.injEq, Value.int.injEq, Body.ints.injEq, SV.ptr.injEq, SV.sl.injEq, Value.string.injEq, Value.bool.injEq, List.map_cons, List.map_nil, forall_const, Nat.reduceLT, Nat.lt_add_one, imp_self, true_and, and_true, and_self, ob_some, get_mk, lk_cons, ↓reduceIte, Nat.reduceEqDiff, ne_eq, not_true_eq_false, not_false_eq_true, Nat.one_ne_zero, Nat.zero_ne_one, Nat.succ_ne_self, Nat.reduceAdd, Bool.false_eq_true, false_implies, implies_true, reduceCtorEq, rcellB, rcL, refB, strB]
        · have hsl := hbad x2
          rw [hsl] at hq hse
          have e7 : e2 = 7 := by rcases hse with h | h; exact absurd h x2; exact h
          rw [if_pos (show (e2, d2).1 ≠ 0 from x2)] at hq
          cases hq
          obtain rfl : W' = 6 := by rcases hW with h | h; exact absurd h.1 x2; exact h.2
          subst e7
          unfold wrO
          simp -implicitDefEqProofs only [go_sem]
          refine sub_mk [(7, 7), (8, 8)] rfl rfl rfl ?_
          simp only [tmSub, hpSub, objSub, eqTm, eqHp, rn, lk, SV.ren, SV.renC, SV.renB, SV.renA, ren_ints, ren_strs, ren_pl, ren_svs, SV.v.injEq, Value.int.injEq, Body.ints.injEq, SV.ptr.injEq, SV.sl.injEq, Value.string.injEq, Value.bool.injEq, List.map_cons, List.map_nil, forall_const, Nat.reduceLT, Nat.lt_add_one, imp_self, true_and, and_true, and_self, ob_some, get_mk, lk_cons, ↓reduceIte, Nat.reduceEqDiff, ne_eq, not_true_eq_false, not_false_eq_true, Nat.one_ne_zero, Nat.zero_ne_one, Nat.succ_ne_self, Nat.reduceAdd, Bool.false_eq_true, false_implies, implies_true, reduceCtorEq, rcellB, rcL, refB, strB]
end
section
/- Cells: the document's Commit at any heap; a cell and a list of names with texts. -/
set_option linter.unusedVariables false
set_option linter.unusedSimpArgs false
set_option maxRecDepth 100000
open Go.Proofs
variable {H : Hp} {n : Nat} {x : Nat → Option SO} {i D M W a b c : Nat} {d d' : Fd} {C C' : Ce}
structure RkAt (H : Hp) (C : Ce) (d : Fd) (i D a b M W : Nat) : Prop where
  cell : RcAt H C i D M W
  dev : RefAt H d D a b true true true
  ne : i ≠ D ∧ i ≠ a ∧ i ≠ b ∧ D ≠ M ∧ D ≠ W ∧ a ≠ M ∧ a ≠ W ∧ b ≠ M ∧ b ≠ W
def rkP (i D a b M W : Nat) : List (Nat × Nat) := [(1, i), (2, D), (3, a), (4, b), (5, M), (6, W)]
theorem RkAt.sub (h : RkAt H C d i D a b M W) : hpSub (rkP i D a b M W) H (rkH C d x).l := by
  obtain ⟨⟨h1, ⟨u2, h2⟩, ⟨u3, h3⟩, ⟨p1, p2, p3, p4⟩, p5, p6⟩, ⟨g1, g2, g3, ⟨r1, r2, r3⟩, ⟨q1, q2, q3⟩, n1, n2, n3⟩, _⟩ := h
  exact ⟨sub_wr rfl p1 p5 h1 rfl, sub_wr rfl r1 q1 g1 rfl, sub_wr rfl r2 q2 g2 rfl, sub_wr rfl r3 q3 g3 rfl, sub_ro rfl p3 h2 rfl, sub_ro rfl p4 h3 rfl, trivial⟩
theorem RkAt.ap (h : RkAt H C d i D a b M W) : apartB (rkP i D a b M W) (rkH C d x).l (rkH C d x).l = true := by
  obtain ⟨⟨h1, h2, h3, h4, p5, p6, p7⟩, ⟨g1, g2, g3, _, _, n1, n2, n3⟩, m1, m2, m3, m4, m5, m6, m7, m8, m9⟩ := h
  simp [rkH, rkP, apartB, apart1, rn, lk, p6, p7, Ne.symm p6, Ne.symm p7, n1, n2, n3, Ne.symm n1, Ne.symm n2, Ne.symm n3, m1, m2, m3, m4, m5, m6, m7, m8, m9, Ne.symm m1, Ne.symm m2, Ne.symm m3, Ne.symm m4, Ne.symm m5, Ne.symm m6, Ne.symm m7, Ne.symm m8, Ne.symm m9]
theorem RkAt.wn (h : RkAt H C d i D a b M W) : wrNZ (rkP i D a b M W) (rkH C d x).l = true := by
  obtain ⟨⟨h1, h2, h3, h4, p5, p6, p7⟩, ⟨g1, g2, g3, ⟨r1, r2, r3⟩, _, n1, n2, n3⟩, _⟩ := h
  have := h4.1
  simp [rkH, rkP, wrNZ, rn, lk]; omega
theorem rCommitS {m t : Nat} (h : RkAt H C d i D a b M W) (hC : C.ok) (hP : Pl d m t) (ht : t + 1000 < 1000000) (hlen : ceTo C + C.half ≤ m) (hn : n + 2 ≤ 1000) (hq : coR C d = (0, C', d')) :
    SpecAt Tryz.prog nrCCommit [.ptr i 0] H n (.v (.int .i64 0)) ⟨(i, some ⟨true, rcellB C' D M M⟩) :: (D, some ⟨true, refB d' n (n + 1)⟩) :: (a, none) :: (b, none) :: (n, some ⟨true, strB d'.safe⟩) :: (n + 1, some ⟨true, .pl (qrow d'.pend)⟩) :: H.l, H.x⟩ (n + 2) := by
  have := lift (n := n) (okT.spec trCCommit (rCommitW (x := H.x) (W' := 5) hC hP ht hlen hq (.inl ⟨rfl, rfl⟩))) (rkP i D a b M W) rfl rfl rfl (by omega) rfl rfl (h.sub (x := H.x)) (h.ap (x := H.x)) (h.wn (x := H.x)) (by omega)
  exact this
theorem rCommitE {m t : Nat} {e : Int} (h : RkAt H C d i D a b M W) (hC : C.ok) (hP : Pl d m t) (ht : t + 1000 < 1000000) (hlen : ceTo C + C.half ≤ m) (hn : n + 2 ≤ 1000) (hq : coR C d = (e, C', d')) (he : e ≠ 0) :
    SpecAt Tryz.prog nrCCommit [.ptr i 0] H n (.v (.int .i64 e)) ⟨(i, some ⟨true, rcellB C' D M W⟩) :: (D, some ⟨true, refB d' n (n + 1)⟩) :: (a, none) :: (b, none) :: (n, some ⟨true, strB d'.safe⟩) :: (n + 1, some ⟨true, .pl (qrow d'.pend)⟩) :: H.l, H.x⟩ (n + 2) := by
  have := lift (n := n) (okT.spec trCCommit (rCommitW (x := H.x) (W' := 6) hC hP ht hlen hq (.inr ⟨he, rfl⟩))) (rkP i D a b M W) rfl rfl rfl (by omega) rfl rfl (h.sub (x := H.x)) (h.ap (x := H.x)) (h.wn (x := H.x)) (by omega)
  exact this
def spoT : ByteArray := ⟨#[115, 112, 111, 105, 108, 116]⟩
def spoL (l : List ByteArray) (j : Nat) : List ByteArray := List.replicate j spoT ++ l.drop j
theorem spo_len {l : List ByteArray} {j : Nat} (h : j ≤ l.length) : (spoL l j).length = l.length := by
  unfold spoL; rw [List.length_append, List.length_replicate, List.length_drop]; omega
theorem spo_get {l : List ByteArray} {j : Nat} (h : j < l.length) : (spoL l j).getD j .empty = l.getD j .empty := by
  unfold spoL
  rw [List.getD_eq_getElem?_getD, List.getElem?_append_right (by rw [List.length_replicate]; exact Nat.le_refl _), List.length_replicate, Nat.sub_self, List.getElem?_drop, Nat.add_zero, ← List.getD_eq_getElem?_getD]
theorem spo_set {l : List ByteArray} {j : Nat} (h : j < l.length) : (spoL l j).set j spoT = spoL l (j + 1) := by
  unfold spoL
  rw [List.set_append_right _ _ (by rw [List.length_replicate]; exact Nat.le_refl _), List.length_replicate, Nat.sub_self, List.drop_eq_getElem_cons h, List.set_cons_zero, List.replicate_succ', List.append_assoc]
  rfl
set_option maxHeartbeats 1000000 in
theorem sameWW {P : PL} {r : Bool} (hE : Es C.now) (hP : P.length ≤ 64) (hr : r = true ↔ prs C.now = P) :
    fnVC CT mwsame [.ptr 1 0, .sl 8 0 P.length 2] ⟨[(1, some ⟨false, cellB C 2 6 7⟩), (2, some ⟨false, devB d 3 4 5⟩), (3, some ⟨false, secB d.seen⟩), (4, some ⟨false, secB d.safe⟩), (5, some ⟨false, .pl (prow d.pend)⟩), (6, some ⟨false, .mp (.map C.now)⟩), (7, some ⟨false, .mp (.map C.was)⟩), (8, some ⟨false, .pl (prw P)⟩)], x⟩ 9
      fun v H' n' => Sub 9 ⟨[(0, .v (.bool r))], ⟨[], x⟩, 9⟩ ⟨[(0, v)], H', n'⟩ := by
  have hlen := hE.len
  have hpl := prs_len (es := C.now)
  have hkl := srtK_len (es := C.now)
  unfold mwsame
  simp -implicitDefEqProofs only [↓fnVC, initTm]
  simp -implicitDefEqProofs only [go_sem]
  refine in_call mixT tCNames ?_
  unfold mCNames cellB
  simp -implicitDefEqProofs only [↓fnVC, initTm]
  simp -implicitDefEqProofs only [go_sem]
  refine at_call tcnames (namesS (i := 6) (by rfl) rfl (by decide) hE.keys (fun e he => Nat.le_trans (hE.kl e he) (by decide)) (by omega) (by decide)) ?_
  simp -implicitDefEqProofs only [go_sem]
  by_cases c0 : C.now.length = P.length
  · have a0 : decide ((C.now.length : Int) = (P.length : Int)) = true := decide_eq_true (by omega)
    simp -implicitDefEqProofs only [go_sem, a0]
    refine loop_fam (fun (j : Nat) => j ≤ P.length ∧ ∀ i, i < j → P.getD i pE = (prs C.now).getD i pE) (fun j => ⟨[(0, .ptr 1 0), (5, .sl 9 0 C.now.length 1), (17, .sl 8 0 P.length 2), (18, .v (.int .i64 P.length)), (19, .v (.int .i64 j))],
      ⟨[(1, some ⟨false, cellB C 2 6 7⟩), (6, some ⟨false, .mp (.map C.now)⟩), (8, some ⟨false, .pl (prw P)⟩), (9, some ⟨true, .strs (spoL (srtK C.now) j)⟩)], x⟩, 10⟩) (fun j => P.length - j) 0 ⟨Nat.zero_le _, fun i h => absurd h (Nat.not_lt_zero _)⟩ ?_ ?_
    · refine sub_mk [] rfl rfl rfl ?_
      simp only [tmSub, hpSub, objSub, eqTm, eqHp, rn, lk, SV.ren, SV.renC, SV.renB, SV.renA, ren_ints, ren_strs, ren_pl, ren_svs, SV.v.injEq, Value.int.injEq, Body.ints.injEq, SV.ptr.injEq, SV.sl.injEq, Value.string.injEq, Value.bool.injEq, List.map_cons, List.map_nil, forall_const, Nat.reduceLT, Nat.lt_add_one, imp_self, true_and, and_true, and_self, ob_some, get_mk, lk_cons, ↓reduceIte, Nat.reduceEqDiff, ne_eq, not_true_eq_false, not_false_eq_true, Nat.one_ne_zero, Nat.zero_ne_one, Nat.succ_ne_self, Nat.reduceAdd, Bool.false_eq_true, false_implies, implies_true, reduceCtorEq, cellB]
      repeat' (first | rfl | apply And.intro)
    · rintro j ⟨hj, hall⟩
      unfold cellB
      simp -implicitDefEqProofs only [go_sem]
      refine condK_bb (fun c => ?_) (fun c => ?_)
      · have c1 : j < P.length := by have := of_decide_eq_true c; omega
        have gr := prw_at (P := P) (j := j) (by omega)
        have w2 : IntKind.i64.wrap ((j : Int) + 1) = ((j + 1 : Nat) : Int) := by rw [wrap_i64 (by omega) (by omega)]; omega
        have hsl := spo_len (l := srtK C.now) (j := j) (by omega)
        have hsg := spo_get (l := srtK C.now) (j := j) (by omega)
        have hss := spo_set (l := srtK C.now) (j := j) (by omega)
        have hpg := prs_get (es := C.now) (j := j) (by omega)
        obtain ⟨h1, h2, h3⟩ := hE.at_ (nmAt_mem (es := C.now) (j := j) (by omega))
        have hnm : (srtK C.now).getD j .empty = nmAt C.now j := rfl
        rw [hnm] at hsg
        have hk := hE.keys
        have hno : P.getD j pE ≠ (prs C.now).getD j pE → r = false := fun h => by
          refine Bool.eq_false_iff.2 fun e => h ?_
          rw [hr.1 e]
        generalize hpe : P.getD j (.empty, .empty) = p at gr hno
        obtain ⟨s, u⟩ := p
        have hg := hE.el s
        unfold pcell at gr
        simp -implicitDefEqProofs only [go_sem, c, gr, spl2m]
        refine ⟨⟨by omega, by omega⟩, by rw [prw_len]; omega, ?_⟩
        refine in_call mixT tCGet ?_
        unfold mCGet
        simp -implicitDefEqProofs only [↓fnVC, initTm]
        simp -implicitDefEqProofs only [go_sem, asM_so, hk, hg, spl1]
        refine ⟨⟨by omega, by omega⟩, by rw [hsl, hkl]; omega, ?_⟩
        rw [hsg]
        by_cases e1 : nmAt C.now j = s
        · subst e1
          have b1 : seq (nmAt C.now j) (nmAt C.now j) = true := seq_self _
          have b2 : (luS C.now (nmAt C.now j)).isSome = true := by rw [h1]; rfl
          simp -implicitDefEqProofs only [go_sem, b1, b2, Bool.not_true]
          by_cases e2 : tOf C.now (nmAt C.now j) = u
          · subst e2
            have b3 : seq (tOf C.now (nmAt C.now j)) (tOf C.now (nmAt C.now j)) = true := seq_self _
            simp -implicitDefEqProofs only [go_sem, b3, Bool.not_true, w2]
            refine ⟨⟨by omega, by omega⟩, by rw [hsl, hkl]; omega, ?_⟩
            refine kLoop_mk (j + 1) ⟨by omega, fun i hi => ?_⟩ (by omega) ?_
            · by_cases h : i = j
              · subst h; rw [hpe, hpg]
              · exact hall i (by omega)
            · refine sub_mk [] rfl rfl rfl ?_
              simp only [tmSub, hpSub, objSub, eqTm, eqHp, rn, lk, SV.ren, SV.renC, SV.renB, SV.renA, ren_ints, ren_strs, ren_pl, ren_svs, SV.v.injEq, Value.int.injEq, Body.ints.injEq, SV.ptr.injEq, SV.sl.injEq, Value.string.injEq, Value.bool.injEq, List.map_cons, List.map_nil, forall_const, Nat.reduceLT, Nat.lt_add_one, imp_self, true_and, and_true, and_self, ob_some, get_mk, lk_cons, ↓reduceIte, Nat.reduceEqDiff, ne_eq, not_true_eq_false, not_false_eq_true, Nat.one_ne_zero, Nat.zero_ne_one, Nat.succ_ne_self, Nat.reduceAdd, Bool.false_eq_true, false_implies, implies_true, reduceCtorEq, w2]
              rw [← hss]
              repeat' (first | rfl | apply And.intro)
          · have b3 : seq (tOf C.now (nmAt C.now j)) u = false := seq_ne e2
            simp -implicitDefEqProofs only [go_sem, b3, Bool.not_false]
            obtain rfl : r = false := hno (by rw [hpg]; intro h; cases h; exact e2 rfl)
            refine sub_mk [] rfl rfl rfl ?_
            simp only [tmSub, hpSub, objSub, eqTm, eqHp, rn, lk, SV.ren, SV.renC, SV.renB, SV.renA, ren_ints, ren_strs, ren_pl, ren_svs, SV.v.injEq, Value.int.injEq, Body.ints.injEq, SV.ptr.injEq, SV.sl.injEq, Value.string.injEq, Value.bool.injEq, List.map_cons, List.map_nil, forall_const, Nat.reduceLT, Nat.lt_add_one, imp_self, true_and, and_true, and_self, ob_some, get_mk, lk_cons, ↓reduceIte, Nat.reduceEqDiff, ne_eq, not_true_eq_false, not_false_eq_true, Nat.one_ne_zero, Nat.zero_ne_one, Nat.succ_ne_self, Nat.reduceAdd, Bool.false_eq_true, false_implies, implies_true, reduceCtorEq]
        · have b1 : seq (nmAt C.now j) s = false := seq_ne e1
          simp -implicitDefEqProofs only [go_sem, b1, Bool.not_false]
          obtain rfl : r = false := hno (by rw [hpg]; intro h; cases h; exact e1 rfl)
          refine sub_mk [] rfl rfl rfl ?_
          simp only [tmSub, hpSub, objSub, eqTm, eqHp, rn, lk, SV.ren, SV.renC, SV.renB, SV.renA, ren_ints, ren_strs, ren_pl, ren_svs, SV.v.injEq, Value.int.injEq, Body.ints.injEq, SV.ptr.injEq, SV.sl.injEq, Value.string.injEq, Value.bool.injEq, List.map_cons, List.map_nil, forall_const, Nat.reduceLT, Nat.lt_add_one, imp_self, true_and, and_true, and_self, ob_some, get_mk, lk_cons, ↓reduceIte, Nat.reduceEqDiff, ne_eq, not_true_eq_false, not_false_eq_true, Nat.one_ne_zero, Nat.zero_ne_one, Nat.succ_ne_self, Nat.reduceAdd, Bool.false_eq_true, false_implies, implies_true, reduceCtorEq]
      · have c1 : j = P.length := by have := of_decide_eq_false c; omega
        subst c1
        simp -implicitDefEqProofs only [go_sem, c]
        obtain rfl : r = true := hr.2 (by
          apply List.ext_getElem?
          intro i
          by_cases hi : i < P.length
          · have := hall i hi
            rw [List.getD_eq_getElem?_getD, List.getD_eq_getElem?_getD, List.getElem?_eq_getElem hi, List.getElem?_eq_getElem (by omega)] at this
            rw [List.getElem?_eq_getElem hi, List.getElem?_eq_getElem (by omega)]
            exact congrArg some this.symm
          · rw [List.getElem?_eq_none (by omega), List.getElem?_eq_none (by omega)])
        refine sub_mk [] rfl rfl rfl ?_
        simp only [tmSub, hpSub, objSub, eqTm, eqHp, rn, lk, SV.ren, SV.renC, SV.renB, SV.renA, ren_ints, ren_strs, ren_pl, ren_svs, SV.v.injEq, Value.int.injEq, Body.ints.injEq, SV.ptr.injEq, SV.sl.injEq, Value.string.injEq, Value.bool.injEq, List.map_cons, List.map_nil, forall_const, Nat.reduceLT, Nat.lt_add_one, imp_self, true_and, and_true, and_self, ob_some, get_mk, lk_cons, ↓reduceIte, Nat.reduceEqDiff, ne_eq, not_true_eq_false, not_false_eq_true, Nat.one_ne_zero, Nat.zero_ne_one, Nat.succ_ne_self, Nat.reduceAdd, Bool.false_eq_true, false_implies, implies_true, reduceCtorEq]
  · have a0 : decide ((C.now.length : Int) = (P.length : Int)) = false := decide_eq_false (by omega)
    simp -implicitDefEqProofs only [go_sem, a0]
    obtain rfl : r = false := Bool.eq_false_iff.2 fun e => c0 (by rw [← hr.1 e, prs_len])
    refine sub_mk [] rfl rfl rfl ?_
    simp only [tmSub, hpSub, objSub, eqTm, eqHp, rn, lk, SV.ren, SV.renC, SV.renB, SV.renA, ren_ints, ren_strs, ren_pl, ren_svs, SV.v.injEq, Value.int.injEq, Body.ints.injEq, SV.ptr.injEq, SV.sl.injEq, Value.string.injEq, Value.bool.injEq, List.map_cons, List.map_nil, forall_const, Nat.reduceLT, Nat.lt_add_one, imp_self, true_and, and_true, and_self, ob_some, get_mk, lk_cons, ↓reduceIte, Nat.reduceEqDiff, ne_eq, not_true_eq_false, not_false_eq_true, Nat.one_ne_zero, Nat.zero_ne_one, Nat.succ_ne_self, Nat.reduceAdd, Bool.false_eq_true, false_implies, implies_true, reduceCtorEq]
theorem sameS {P : PL} {r : Bool} {i D a b c M W q : Nat} {u : Bool} (h : CellAt H C d i D a b c M W) (hq : H.get q = some ⟨u, .pl (prw P)⟩) (h0 : 0 < q) (hE : Es C.now) (hP : P.length ≤ 64) {m : Nat} (hm : m = P.length) (hr : r = true ↔ prs C.now = P) :
    SpecAt Tryz.prog nwsame [.ptr i 0, .sl q 0 m 2] H n (.v (.bool r)) H n := by
  subst hm
  obtain ⟨g1, g2, g3, g4, g5, g6, g7, hp, _, _⟩ := h
  simp at hp
  have := lift_ro (n := n) (okT.spec twsame (sameWW (x := H.x) (d := d) (C := C) hE hP hr)) [(1, i), (2, D), (3, a), (4, b), (5, c), (6, M), (7, W), (8, q)] rfl rfl rfl (by omega) rfl rfl
    ⟨sub_ro rfl hp.1.1 g1 rfl, sub_ro rfl hp.2.1.1 g2 rfl, sub_ro rfl hp.2.2.1.1 g3 rfl, sub_ro rfl hp.2.2.2.1.1 g4 rfl, sub_ro rfl hp.2.2.2.2.1.1 g5 rfl, sub_ro rfl hp.2.2.2.2.2.1.1 g6 rfl, sub_ro rfl hp.2.2.2.2.2.2.1 g7 rfl, sub_ro rfl h0 hq rfl, trivial⟩ (by simp [apartB, apart1, rn, lk]) (by simp [wrNZ, rn, lk]) rfl
  exact this
end
end Go.Sx