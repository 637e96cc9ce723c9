/- QuorumBytes, walked. -/
import Derived.Test.YtbdgjfcchmainaaGreatQbB
import Derived.Test.YtbdgjfcchmainaaGreatQuC
import Derived.Test.YtbdgjfcchmainaaGreatRows
import Derived.Test.YtbdgjfcchmainaaGreatSxC
import Derived.Deep.Slices

set_option linter.unusedVariables false
set_option linter.unusedSimpArgs false
set_option maxRecDepth 100000
namespace Go.Sx
attribute [local go_sem ↓] bind_mk intsB_mk strsB_mk svB_mk fnVC ob_some vc_skip vc_exit vc_ret vc_seq vc_block kSeq_normal kSeq_exit kSeq_ret kBlock_normal kBlock_exit kBlock_ret vc_reg vc_regD vc_cond condK_true condK_false vc_loop kLoop_exit kLoop_ret kRoll_normal kRoll_exit kRoll_ret vcOps_nil vcOps_cons gd_bool gd_undef put_some put_none vcT_fin vcT_pure vcT_act vcT_acts vcT_stop stab_none stab_some stabM_nil stabM_cons stabO_ld stabO_ldn stabO_slP stabO_b2s fldOf_ai fldOf_agg fldOf_ait fldOf_aggt intsOf_nil intsOf_cons strsOf_nil strsOf_cons c_omap ob_if lk_nil lk_cons ev_t ev_k z_mov z_pick z_bin z_binA z_binB z_binP z_un z_r2s z_conv z_s2b z_b2s z_mkM z_luM z_upM z_lenM lenMk_mp lenMk_nil plsOf_v z_delM asM_so plV_v plV_agg mpOf_mp mpOf_nil mpUp_mp asM_mp luV_ok luV_v z_allocT aggOf_mk z_boxT z_alloc z_bld z_bldI z_rowI z_rowS z_ld z_ldn z_st z_stn asN_ptr asN_fn z_nilck z_fld z_fadr z_idxA z_idxP z_idxS z_idxV z_slS z_slL z_slP z_mk z_lenS z_lenL z_app appC_ints appC_pl appC_sv appC_strs isS_strs loose_ints loose_pl loose_sv z_slM z_callv callvK_fn callvK_f callvK_yl vc_rangeF rfEnd_eq rfGo_none rfGo_ret rfGo_exit yGo_mk yEnd_n yEnd_r yEnd_e yRdy_mk yMid_n putPs_nil putPs_cons leaf_v leaf_ptr leaf_sl leaf_yl leaf_mp z_appS z_appST z_appZ z_cpyS z_mkfn reps_int reps_str z_rowV z_slnil nilK_zero z_cpy z_call asT_tup z_extT z_box boxOf_ai boxOf_agg boxOf_int boxOf_str boxOf_bool boxOf_ptr boxOf_sl sbin_int sbin_str sbinA_mk ae_nil ae_int ae_str sbinB_mk sbinP_nn sbinP_pn sbinP_np i_add i_sub i_mul i_quo i_rem i_and i_or i_xor i_andNot i_shl i_shr i_eql i_neq i_lss i_leq i_gtr i_geq st_add st_eql st_neq st_lss st_leq st_gtr st_geq bo_eql bo_neq pt_eql pt_neq un_neg un_xor un_not asI_mk asB_mk asS_mk asP_mk asSl_mk asBy_mk bnd_none bnd_some get_mk hput_mk hdel_mk kill_eq wrOf_eq rowOf_eq rsvs_0 rsvs_1 rsvs_2 rsvs_3 rsv_t rsv_c1 rsv_cn nt_v nt_ptr nt_sl nt_agg nt_ai get_ints get_strs get_pl get_sv getN_ints getN_sv set_ints set_strs set_sv setN_ints setN_sv part_ints part_strs part_sv cat_ints cat_strs cat_sv over_ints over_strs over_sv ones_ints ones_strs evs_nil evs_cons condK_eqt condK_eqf det_callP V_ns V_nn V_gs V_gn obC_mk fresh_ev freshT_ev freshR_ev setN_plagg setN_intsv setN_svai setN_svagg over_intsv set_pl setN_pl setN_plai getN_pl getN_strs part_pl cat_pl over_pl over_plints z_mm
attribute [local go_sem] initTm ne_eq not_true_eq_false not_false_eq_true true_and and_true List.length_cons List.length_nil Int.toNat_natCast Nat.add_zero Nat.zero_add Nat.mul_one List.getElem?_cons_zero List.drop_zero List.take_length List.take_succ_cons List.take_zero List.take_nil List.drop_succ_cons Option.map_some Nat.le_refl implies_true List.getElem?_cons_succ decide_true decide_false Bool.not_true Bool.not_false beq_self_eq_true Nat.succ_ne_self Nat.one_ne_zero Nat.zero_ne_one vk_mk hk_mk nk_mk tok_eq plsOf_map intsOf_map bodyOf_pl bodyOf_ints bodyOf_strs bodyOf_sv part_aggv part_agg part_ai part_int part_str part_bool part_sl part_ptr part_nil numsOf_map u_int u_str u_bool u_pnil u_sl u_ptr u_oci u_ocs evq_nil evq_cons fillS_nil fillS_cons u_ocb ones_pl cells_sv cells_ints cells_strs cells_pl smms_nil smms_cons smm_min smm_max plsOf_nil List.nil_append List.all_cons List.all_nil Bool.and_self Bool.true_and Bool.and_true zws_len zw_len zi_len List.set_cons_zero List.set_cons_succ List.flatMap_cons List.flatMap_nil List.append_nil
attribute [local go_sem_proc] Nat.reduceEqDiff Nat.reduceAdd Nat.reduceMul Nat.reduceLT Nat.reduceLeDiff Nat.reduceSub Int.reduceToNat Int.reduceLE Int.reduceLT reduceCtorEq Int.reduceEq Int.reduceGT Int.reduceGE Int.reduceNeg
attribute [local go_sem_proc ↓] reduceIte
section
open Go.Proofs
variable {H : Hp} {n : Nat} {x : Nat → Option SO}
theorem lyB_len {l : List ByteArray} {need : Int} : (lyB l need).length ≤ 1000000 := by
  unfold lyB
  by_cases h : okSet l need = true
  · obtain ⟨⟨h1, h2⟩, _, h5⟩ := okSet_in h
    have := catb_take h5 l.length (Nat.le_refl _)
    rw [List.take_length] at this
    rw [if_pos h, List.length_append, List.length_append, be_len, be_len, this]; omega
  · rw [if_neg h]; exact Nat.zero_le _
theorem wrV_is (bad : Bool) (bs : List Int) : ∃ B E, wrV bad bs = .tup [.v (.string B), .v (.int .i64 E)] ∧ B.size ≤ bs.length := by
  cases bad with
  | true => exact ⟨⟨#[]⟩, 1, rfl, Nat.zero_le _⟩
  | false => exact ⟨tx bs, 0, rfl, Nat.le_of_eq (tx_sz _)⟩
set_option maxHeartbeats 4000000 in
theorem bytesW {ss : List ByteArray} {gs : Sg} {m k : Nat} {need : Int} {text : ByteArray} (hm : m ≤ ss.length) (hk : k ≤ gs.length) (hz : sgOK gs) (ht : text.size ≤ 1048576) :
    fnVC CT mQBytes [.agg [.sl 1 0 m 1, .v (.int .i64 need)], .sl 2 0 k 2, .v (.string text)] ⟨[(2, some ⟨false, .pl (sgP gs)⟩), (1, some ⟨false, .strs ss⟩)], x⟩ 3 fun v H' n' => Sub 3 ⟨[(0, .v (.bool true))], ⟨[], x⟩, 3⟩ ⟨[(0, v)], H', n'⟩ := by
  unfold mQBytes
  simp -implicitDefEqProofs only [↓fnVC, initTm]
  simp -implicitDefEqProofs only [go_sem]
  refine at_call tcounts7 countsS ?_
  have e1 : min (k : Int) 300 = ((min k 300 : Nat) : Int) := by omega
  obtain ⟨p, hp⟩ : ∃ p, p = min k 300 := ⟨_, rfl⟩
  rw [← hp] at e1
  have hpk : p ≤ k := by omega
  have hp3 : p ≤ 300 := by omega
  simp -implicitDefEqProofs only [go_sem, e1, Nat.sub_zero, spA, spB, spC, tk2]
  refine ⟨by omega, ?_⟩
  have hly := lyB_len (l := ss.take m) (need := need)
  refine at_call tQLay (playS (i := 4) (a := 1) (l := ss.take m) (ss := ss) (m := m) (need := need) (by rfl) (by rfl) (by decide) (by decide) (by decide) (by decide) rfl hm) ?_
  simp -implicitDefEqProofs only [go_sem, spA, spB, spC, tk2]
  refine at_call trQLay (dlayS (i := 5) (a := 1) (l := ss.take m) (ss := ss) (m := m) (need := need) (by rfl) (by rfl) (by decide) (by decide) (by decide) (by decide) rfl hm) ?_
  generalize lyB (ss.take m) need = bs at hly ⊢
  generalize (!okSet (ss.take m) need) = bad
  simp -implicitDefEqProofs only [go_sem]
  refine at_call tQLaySigs (plsS (i := 4) (a := 2) (r := 6) (m := p) (gs := gs) (bs := bs) (bad := bad) (by rfl) (by rfl) (by rfl) (by decide) (by decide) (by decide) (by decide) (by decide) (by omega) hp3 hz hly) ?_
  simp -implicitDefEqProofs only [go_sem]
  refine at_call trQLaySigs (dlsS (i := 5) (a := 2) (r := 7) (m := p) (gs := gs) (bs := bs) (bad := bad) (by rfl) (by rfl) (by rfl) (by decide) (by decide) (by decide) (by decide) (by decide) (by omega) hp3 hz hly) ?_
  have hsm := pd_same (gs := gs) (bs := bs ++ nuB p 1) (bad := bad || nuX p 1) p
  have hdl := dgN_len (gs := gs) (bs := bs ++ nuB p 1) (bad := bad || nuX p 1) hz p
  have hn1 := nuB_len (y := p) (k := 1)
  rw [List.length_append] at hdl
  generalize pgN gs (bs ++ nuB p 1) (bad || nuX p 1) p = P at hsm ⊢
  generalize dgN gs (bs ++ nuB p 1) (bad || nuX p 1) p = D at hsm hdl ⊢
  obtain ⟨B, E, hBE, hBs⟩ := wrV_is D.2 D.1
  have hPE : wrV P.2 P.1 = .tup [.v (.string B), .v (.int .i64 E)] := by rw [hsm.1, wrV_bad hsm.2, hBE]
  simp -implicitDefEqProofs only [go_sem]
  refine at_call tWBytes (wBytesS (i := 4) (r := 8) (l := P.1.length) (bs := P.1) (bad := P.2) (by rfl) (by rfl) (by decide) rfl) ?_
  rw [show (if P.2 = true then SV.tup [.v (.string ⟨#[]⟩), .v (.int .i64 1)] else .tup [.v (.string (tx P.1)), .v (.int .i64 0)]) = _ from hPE]
  simp -implicitDefEqProofs only [go_sem]
  refine at_call trWBytes (rwBytesS (i := 5) (r := 9) (l := D.1.length) (bs := D.1) (bad := D.2) (by rfl) (by rfl) (by decide) rfl) ?_
  rw [show (if D.2 = true then SV.tup [.v (.string ⟨#[]⟩), .v (.int .i64 1)] else .tup [.v (.string (tx D.1)), .v (.int .i64 0)]) = _ from hBE]
  have q1 := seq_self B
  have q2 : decide (E = E) = true := decide_eq_true rfl
  simp -implicitDefEqProofs only [go_sem, q1, q2]
  refine ⟨by omega, ?_⟩
  obtain ⟨TT, hTT, hTl⟩ : ∃ TT : List ByteArray, TT = [B, text, B ++ text] ∧ TT.length = 3 := ⟨_, rfl, rfl⟩
  rw [← hTT]
  refine loop_fam (fun (j : Nat) => j ≤ 3) (fun j => ⟨[(55, .sl 3 0 3 1), (56, .v (.int .i64 (3 : Nat))), (57, .v (.int .i64 j))], ⟨[(3, some ⟨true, .strs TT⟩)], x⟩, 4⟩) (fun j => 3 - j) 0 (Nat.zero_le _) ?_ ?_
  · refine sub_mk [(3, 10)] rfl rfl rfl ?_
    simp only [tmSub, hpSub, objSub, eqTm, eqHp, rn, lk, SV.ren, SV.renC, SV.renB, SV.renA, ren_ints, ren_strs, ren_pl, ren_svs, SV.v.injEq, Value.int.injEq, Body.ints.injEq, SV.ptr.injEq, SV.sl.injEq, Value.string.injEq, Value.bool.injEq, List.map_cons, List.map_nil, forall_const, Nat.reduceLT, Nat.lt_add_one, imp_self, true_and, and_true, and_self, ob_some, get_mk, lk_cons, ↓reduceIte, Nat.reduceEqDiff, ne_eq, not_true_eq_false, not_false_eq_true, Nat.one_ne_zero, Nat.zero_ne_one, Nat.succ_ne_self, Nat.reduceAdd, Bool.false_eq_true, false_implies, implies_true, reduceCtorEq]
    rfl
  · intro j hj
    simp -implicitDefEqProofs only [go_sem]
    refine condK_bb (fun c => ?_) (fun c => ?_)
    · have c1 : j < 3 := by have := of_decide_eq_true c; omega
      have w4 : IntKind.i64.wrap ((j : Int) + 1) = ((j + 1 : Nat) : Int) := by rw [wrap_i64 (by omega) (by omega)]; omega
      obtain ⟨T, hT⟩ : ∃ T, T = TT.getD j .empty := ⟨_, rfl⟩
      simp -implicitDefEqProofs only [go_sem, c]
      rw [← hT]
      refine ⟨⟨by omega, by omega⟩, by omega, ?_⟩
      refine at_call tPRead (preadS (s := T) (by decide)) ?_
      simp -implicitDefEqProofs only [go_sem]
      refine at_call trRead (rreadS0 (s := T) (by decide)) ?_
      simp -implicitDefEqProofs only [go_sem]
      refine at_call tQTake (takeS (i := 4) (s := T) (e := 0) (by rfl) (by decide) (by decide)) ?_
      simp -implicitDefEqProofs only [go_sem]
      refine at_call trQTake (rtakeS (i := 5) (s := T) (e := 0) (by rfl) (by decide) (by decide)) ?_
      have ho : (tkO T 0).length ≤ 255 := by
        unfold tkO tkL
        have := num1_lt (s := T) (e := 0)
        by_cases hz : tkE T 0 = 0
        · rw [if_pos hz, tkIds_len]; omega
        · rw [if_neg hz]; exact Nat.zero_le _
      have ht0 : tkO T 0 = ((tkO T 0).drop 0).take (tkO T 0).length := by rw [List.drop_zero, List.take_length]
      generalize tkO T 0 = L at ho ht0 ⊢
      generalize tkM T 0 = nd
      generalize tkR T 0 = s1
      generalize tkE T 0 = e1
      have r1 : decide (e1 = e1) = true := decide_eq_true rfl
      simp -implicitDefEqProofs only [go_sem]
      refine at_call trQSame (rsameS (a := 6) (b := 7) (c := L.length) (l := L) (by rfl) (by rfl) (by decide) ht0 ht0 (by omega) (by omega) (by omega)) ?_
      simp -implicitDefEqProofs only [go_sem, rdO, r1]
      refine at_call tRErr (errS (i := 4) (s := s1) (e := e1) (by rfl)) ?_
      simp -implicitDefEqProofs only [go_sem, r1]
      refine at_call tQTakeSigs (tsigsS (i := 4) (s := s1) (e := e1) (by rfl) (by decide) (by decide)) ?_
      simp -implicitDefEqProofs only [go_sem]
      refine at_call trQTakeSigs (rtsigsS (i := 5) (s := s1) (e := e1) (by rfl) (by decide) (by decide)) ?_
      have ho2 : (tsO s1 e1).length ≤ 255 := by
        unfold tsO
        have := num1_lt (s := s1) (e := e1)
        by_cases hz : (tsS s1 e1).2 = 0
        · rw [if_pos hz, tgL_len]; omega
        · rw [if_neg hz]; exact Nat.zero_le _
      generalize tsO s1 e1 = L2 at ho2 ⊢
      generalize (tsS s1 e1).1 = s2
      generalize (tsS s1 e1).2 = e2
      have r2 : decide (e2 = e2) = true := decide_eq_true rfl
      simp -implicitDefEqProofs only [go_sem]
      refine at_call tSameSigs (ssigsS (l := L2) (a := 8) (b := 9) (by rfl) (by rfl) (by decide) (by omega)) ?_
      simp -implicitDefEqProofs only [go_sem, rdO, r2]
      refine at_call tRErr (errS (i := 4) (s := s2) (e := e2) (by rfl)) ?_
      have r3 : decide ((s2.size : Int) = (s2.size : Int)) = true := decide_eq_true rfl
      simp -implicitDefEqProofs only [go_sem, r2]
      refine at_call tRLeft (leftS (i := 4) (s := s2) (e := e2) (by rfl)) ?_
      simp -implicitDefEqProofs only [go_sem, r3]
      refine at_call tPRead (preadS (s := T) (by decide)) ?_
      simp -implicitDefEqProofs only [go_sem]
      refine at_call trRead (rreadS0 (s := T) (by decide)) ?_
      simp -implicitDefEqProofs only [go_sem]
      refine at_call tQTakeSigs (tsigsS (i := 10) (s := T) (e := 0) (by rfl) (by decide) (by decide)) ?_
      simp -implicitDefEqProofs only [go_sem]
      refine at_call trQTakeSigs (rtsigsS (i := 11) (s := T) (e := 0) (by rfl) (by decide) (by decide)) ?_
      have ho3 : (tsO T 0).length ≤ 255 := by
        unfold tsO
        have := num1_lt (s := T) (e := 0)
        by_cases hz : (tsS T 0).2 = 0
        · rw [if_pos hz, tgL_len]; omega
        · rw [if_neg hz]; exact Nat.zero_le _
      generalize tsO T 0 = L3 at ho3 ⊢
      generalize (tsS T 0).1 = s3
      generalize (tsS T 0).2 = e3
      have r4 : decide (e3 = e3) = true := decide_eq_true rfl
      simp -implicitDefEqProofs only [go_sem]
      refine at_call tSameSigs (ssigsS (l := L3) (a := 12) (b := 13) (by rfl) (by rfl) (by decide) (by omega)) ?_
      simp -implicitDefEqProofs only [go_sem, rdO, r4]
      refine at_call tRErr (errS (i := 10) (s := s3) (e := e3) (by rfl)) ?_
      simp -implicitDefEqProofs only [go_sem, r4, w4]
      refine kLoop_mk (j + 1) (by omega) (by omega) ?_
      refine sub_mk [] rfl rfl rfl ?_
      simp only [tmSub, hpSub, objSub, eqTm, eqHp, rn, lk, SV.ren, SV.renC, SV.renB, SV.renA, ren_ints, ren_strs, ren_pl, ren_svs, SV.v.injEq, Value.int.injEq, Body.ints.injEq, SV.ptr.injEq, SV.sl.injEq, Value.string.injEq, Value.bool.injEq, List.map_cons, List.map_nil, forall_const, Nat.reduceLT, Nat.lt_add_one, imp_self, true_and, and_true, and_self, ob_some, get_mk, lk_cons, ↓reduceIte, Nat.reduceEqDiff, ne_eq, not_true_eq_false, not_false_eq_true, Nat.one_ne_zero, Nat.zero_ne_one, Nat.succ_ne_self, Nat.reduceAdd, Bool.false_eq_true, false_implies, implies_true, reduceCtorEq, w4]
    · simp -implicitDefEqProofs only [go_sem, c]
      exact sub_val rfl (by decide) (by decide) rfl
end
end Go.Sx
/- A set that came in. -/
set_option linter.unusedVariables false
set_option linter.unusedSimpArgs false
set_option maxRecDepth 100000
namespace Go.Sx
open Go.Proofs Go.ChangeShapes Go.WideShapes Go.ChangeAt Go.RowKit
variable {H : Type} {enc : TypeId × Value → H} {W : World}
theorem set_cells {b0 : Nat} {v : Value} {d : DataW H} {ps : List MemPlace} (hval : Value.okWide Tryz.prog W .any b0 24 v) (h : DataW.Trod enc Tryz.prog W 0 (fun _ => true) true 24 v d ps) :
    ∃ (M : Int) (kv : Value) (y : DataW H) (qs : List MemPlace), v = .agg #[kv, .int .i64 M] ∧ (Lit.int .i64 M).wf = true ∧
      Value.okWide Tryz.prog W .any b0 22 kv ∧ DataW.Trod enc Tryz.prog W 0 (fun _ => true) true 22 kv y qs ∧ d = .agg [y, .lit (.int .i64 M)] := by
  obtain ⟨cs, rfl, hsz⟩ := okWide_struct Tryz.underlying24 hval
  obtain ⟨fuel, h⟩ := h
  have hcells : (Value.agg cs).cells = cs := rfl
  rw [hcells] at h
  obtain ⟨xs, n, rfl, hx, hl, hxl, hf⟩ := DataW.trod_struct Tryz.underlying24 h
  have h0 := hf 0 { name := "IDs", type := 22, offset := 0, embedded := false, tag := "", pkgPath := "", byteOffset := 0 } rfl
  have h1 := hf 1 { name := "Need", type := 3, offset := 1, embedded := false, tag := "", pkgPath := "", byteOffset := 24 } rfl
  have c3 : Tryz.prog.cellsOf 3 = 1 := by kernel_rfl
  have c22 : Tryz.prog.cellsOf 22 = 1 := by kernel_rfl
  have c24 : Tryz.prog.cellsOf 24 = 2 := by kernel_rfl
  rw [c24] at hl
  obtain ⟨cl, hcl⟩ : ∃ cl, cs.toList = cl := ⟨_, rfl⟩
  rw [hcl] at hl h0 h1
  match cl, hl with
  | [a, b], _ =>
    match xs, hxl with
    | [y0, y1], _ =>
      simp only [c3, c22, List.drop_succ_cons, List.drop_zero, List.take_succ_cons, List.take_zero, List.getElem?_cons_succ, List.getElem?_cons_zero] at h0 h1
      obtain ⟨M, e1, rfl, hM⟩ := DataW.trod_int Tryz.underlying3 h1
      simp only [List.cons.injEq, and_true] at e1
      subst e1
      obtain rfl : cs = #[a, .int .i64 M] := by
        cases cs; simp only at hcl; rw [hcl]
      have hkv : Value.okWide Tryz.prog W .any b0 22 a := by
        simp only [Value.okWide, Tryz.underlying24] at hval
        obtain ⟨cs', e, hsz, ts, hts, _, hrow⟩ := hval
        cases e
        have ht : Tryz.prog.cellTypes Tryz.prog.depth 24 = some [22, 3] := by kernel_rfl
        rw [ht] at hts
        cases hts
        obtain ⟨u, hu, hc⟩ := hrow 0 a rfl
        cases hu
        simp only [Value.okWide, Tryz.underlying22]
        exact hc
      obtain ⟨a0, len, cap, rfl⟩ := okWide_slice Tryz.underlying22 hkv
      have hx1 := (Prod.mk.injEq ..).mp hx
      exact ⟨M, _, y0.1, y0.2, rfl, hM, hkv, ⟨n, h0⟩, hx1.1⟩
end Go.Sx

/- Signatures, as they came in. -/
set_option linter.unusedVariables false
set_option linter.unusedSimpArgs false
set_option maxRecDepth 100000
namespace Go.Sx
open Go.Proofs Go.ChangeShapes Go.WideShapes Go.ChangeAt Go.RowKit Go.Deep
variable {H : Type} {enc : TypeId × Value → H} {W : World}
def sgV (g : ByteArray × ByteArray) : List Value := [.string g.1, .string g.2]
def sgD (g : ByteArray × ByteArray) : DataW H := .agg [.lit (.string g.1.data.toList), .lit (.string g.2.data.toList)]
theorem sg_cells {fuel : Nat} {cs : List Value} {x : DataW H × List MemPlace} (h : DataW.trod enc Tryz.prog W 0 (fun _ => true) true fuel 64 cs = some x) : ∃ g : ByteArray × ByteArray, cs = sgV g ∧ x.1 = sgD g := by
  obtain ⟨xs, n, rfl, hx, hl, hxl, hf⟩ := DataW.trod_struct Tryz.underlying64 h
  have h0 := hf 0 { name := "ID", type := 9, offset := 0, embedded := false, tag := "", pkgPath := "", byteOffset := 0 } rfl
  have h1 := hf 1 { name := "Text", type := 9, offset := 1, embedded := false, tag := "", pkgPath := "", byteOffset := 16 } rfl
  have c9 : Tryz.prog.cellsOf 9 = 1 := by kernel_rfl
  have c64 : Tryz.prog.cellsOf 64 = 2 := by kernel_rfl
  rw [c64] at hl
  match cs, hl with
  | [a, b], _ =>
    match xs, hxl with
    | [y0, y1], _ =>
      simp only [c9, List.drop_succ_cons, List.drop_zero, List.take_succ_cons, List.take_zero, List.getElem?_cons_succ, List.getElem?_cons_zero] at h0 h1
      obtain ⟨s, e0, rfl, _⟩ := DataW.trod_string Tryz.underlying9 h0
      obtain ⟨t, e1, rfl, _⟩ := DataW.trod_string Tryz.underlying9 h1
      simp only [List.cons.injEq, and_true] at e0 e1
      subst e0; subst e1
      exact ⟨(s, t), rfl, by rw [hx]; rfl⟩
theorem cells?_get {b n : Nat} {a : Addr} {cs : List Value} (h : W.cells? b a n = some cs) (i : Nat) (hi : i < n) : W.cell? (a.add i) = cs[i]? := by
  unfold World.cells? at h
  split at h
  · exact mapM_some_get h i i (by simp [hi])
  · cases h
theorem sgP_get {B : Sg} {i : Nat} (h : i < B.length * 2) : (sgP B)[i]? = (sgV (B.getD (i / 2) gE))[i % 2]? := by
  have e := sgP_at (l := B) (j := i / 2) (by omega)
  have e2 := congrArg (fun m : List Value => m[i % 2]?) e
  simp only [List.getElem?_take, List.getElem?_drop] at e2
  rw [if_pos (Nat.mod_lt _ (by decide)), show 2 * (i / 2) + i % 2 = i by omega] at e2
  exact e2
theorem in_sgs {b0 : Nat} {v : Value} {d : DataW H} {ps : List MemPlace} {ρ : Nat → Loc} {n : Nat} {Hs : Hp} (hval : Value.okWide Tryz.prog W .any b0 25 v)
    (h0 : DataW.Trod enc Tryz.prog W 0 (fun _ => true) true 25 v d ps) (hH : HRel (· < W.heap.size) W ρ n Hs W) (hn : n < 1000) (hro : ∀ i s, Hs.get i = some s → s.wr = false) :
    ∃ l B m, HRel (· < W.heap.size) W (upd ρ n l) (n + 1) (Hs.put n ⟨false, .pl (sgP B)⟩) W ∧ (∀ i s, (Hs.put n ⟨false, .pl (sgP B)⟩).get i = some s → s.wr = false) ∧ slrel l 0 m 2 v ∧ m ≤ B.length ∧
      ((d = .nil ∧ B = []) ∨ d = .slice ((B.take m).map sgD) ((B.drop m).map sgD)) := by
  obtain ⟨a0, len, cap, rfl⟩ := okWide_slice Tryz.underlying25 hval
  obtain ⟨fuel, hf⟩ := h0
  rcases open_slice Tryz.underlying25 hf with ⟨hcs, hx⟩ | ⟨a, len', cap', m, n', D, Pl, hcs, _, hl, hm, hmm, hx, hall⟩
  · simp only [Value.cells] at hcs
    cases hcs
    cases hx
    refine ⟨⟨none, 0, 0, false, none⟩, [], 0, hrel_in hH hn _ _ rfl ⟨rfl, exOK_ro rfl⟩ (fun k hk => by cases hk) hro, ?_, ⟨rfl, .inl rfl⟩, Nat.le_refl _, .inl ⟨rfl, rfl⟩⟩
    intro i s h
    rw [Hp.get_put] at h
    split at h
    · cases h; rfl
    · exact hro i s h
  · simp only [Value.cells] at hcs
    cases hcs
    simp only [if_true] at hmm
    subst hmm
    obtain ⟨hs, c, T, fr, hb⟩ := spot_none Tryz.underlying25 hval
    have c64 : Tryz.prog.cellsOf 64 = 2 := by kernel_rfl
    rw [c64] at hall
    have each : ∀ j, ∃ g : ByteArray × ByteArray, j < m → W.cells? 0 (a.add (j * 2)) 2 = some (sgV g) ∧ D j = sgD g := by
      intro j
      by_cases hj : j < m
      · obtain ⟨cs', g1, g2⟩ := hall j hj
        obtain ⟨b, rfl, hd⟩ := sg_cells g2
        exact ⟨b, fun _ => ⟨g1, hd⟩⟩
      · exact ⟨gE, fun h => absurd h hj⟩
    obtain ⟨bf, hbf⟩ := Classical.axiomOfChoice each
    have hget : ∀ j, j < m → ((List.range m).map bf).getD j gE = bf j := fun j hj => by
      rw [List.getD_eq_getElem?_getD, List.getElem?_map, List.getElem?_range hj]; rfl
    have hlen : ((List.range m).map bf).length = m := by simp
    obtain ⟨l, g1, g2, g3⟩ := hrel_row (b := .pl (sgP ((List.range m).map bf))) (vs := sgP ((List.range m).map bf)) (z := 2) hH hn hro (by decide) hs hb hl (by rw [sgP_len, hlen]; omega) (fun i hi => by
      rw [sgP_len, hlen] at hi
      rw [sgP_get (by rw [hlen]; omega), hget (i / 2) (by omega)]
      have h1 := (hbf (i / 2) (by omega)).1
      have h4 := cells?_get h1 (i % 2) (Nat.mod_lt _ (by decide))
      rw [← h4, cell_at hs hb]
      obtain ⟨s1, s2, s3⟩ := add_spot hs (i / 2 * 2)
      rw [cell_at (a := a.add (i / 2 * 2)) s1 (by rw [s2]; exact hb), s3]
      congr 1; omega) rfl (by simp) (all2_v_mk _)
    refine ⟨l, (List.range m).map bf, len, g1, g2, g3, by rw [hlen]; exact hl, .inr ?_⟩
    · cases hx
      congr 1
      · rw [← List.map_take, List.map_map, List.take_range, Nat.min_eq_left hl]
        refine List.map_congr_left fun j hj => ?_
        exact (hbf j (by have := List.mem_range.1 hj; omega)).2
      · rw [← List.map_drop, List.map_map]
        refine List.ext_getElem (by simp) fun j h1 h2 => ?_
        simp only [List.getElem_map, List.getElem_range, List.getElem_drop, Function.comp]
        simp only [List.length_map, List.length_range] at h1
        exact (hbf (len + j) (by omega)).2
end Go.Sx
