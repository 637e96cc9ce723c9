/- Slots: spoilt ones. -/
import Derived.Test.YtcgglehgpmehcaaSlotB
import Derived.Test.YtcgglehgpmehcaaRows

set_option linter.unusedVariables false
set_option linter.unusedSimpArgs false
set_option maxHeartbeats 2000000
set_option maxRecDepth 100000
namespace Go.Sx
attribute [local go_sem ↓] bind_mk intsB_mk strsB_mk svB_mk fnVC ob_some vc_skip vc_exit vc_ret vc_seq vc_block kSeq_normal kSeq_exit kSeq_ret kBlock_normal kBlock_exit kBlock_ret vc_reg vc_regD vc_cond condK_true condK_false vc_loop kLoop_exit kLoop_ret kRoll_normal kRoll_exit kRoll_ret vcOps_nil vcOps_cons gd_bool gd_undef put_some put_none vcT_fin vcT_pure vcT_act vcT_acts vcT_stop stab_none stab_some stabM_nil stabM_cons stabO_ld stabO_ldn stabO_slP stabO_b2s fldOf_ai fldOf_agg fldOf_ait fldOf_aggt intsOf_nil intsOf_cons strsOf_nil strsOf_cons c_omap ob_if lk_nil lk_cons ev_t ev_k z_mov z_pick z_bin z_binB z_binP z_un z_r2s z_conv z_s2b z_b2s z_allocT aggOf_mk z_boxT z_alloc z_bld z_bldI z_rowI z_rowS z_ld z_ldn z_st z_stn asN_ptr asN_fn z_nilck z_fld z_fadr z_idxA z_idxP z_idxS z_idxV z_slS z_slL z_slP z_mk z_lenS z_lenL z_app appC_ints appC_pl appC_sv appC_strs isS_strs loose_ints loose_pl loose_sv z_slM z_callv callvK_fn callvK_f callvK_yl vc_rangeF rfEnd_eq rfGo_none rfGo_ret rfGo_exit yGo_mk yEnd_n yEnd_r yEnd_e yRdy_mk yMid_n putPs_nil putPs_cons leaf_v leaf_ptr leaf_sl leaf_yl leaf_mp z_appS z_appST z_appZ z_cpyS z_mkfn reps_int reps_str z_rowV z_slnil nilK_zero z_cpy z_call asT_tup z_extT z_box boxOf_ai boxOf_agg boxOf_int boxOf_str boxOf_bool boxOf_ptr boxOf_sl sbin_int sbin_str sbinB_mk sbinP_nn sbinP_pn sbinP_np i_add i_sub i_mul i_quo i_rem i_and i_or i_xor i_andNot i_shl i_shr i_eql i_neq i_lss i_leq i_gtr i_geq st_add st_eql st_neq st_lss st_leq st_gtr st_geq bo_eql bo_neq pt_eql pt_neq un_neg un_xor un_not asI_mk asB_mk asS_mk asP_mk asSl_mk asBy_mk bnd_none bnd_some get_mk hput_mk hdel_mk kill_eq wrOf_eq rowOf_eq rsvs_0 rsvs_1 rsvs_2 rsvs_3 rsv_t rsv_c1 rsv_cn nt_v nt_ptr nt_sl nt_agg nt_ai get_ints get_strs get_pl get_sv getN_ints getN_sv set_ints set_strs set_sv setN_ints setN_sv part_ints part_strs part_sv cat_ints cat_strs cat_sv over_ints over_strs over_sv ones_ints ones_strs evs_nil evs_cons condK_eqt condK_eqf det_callP V_ns V_nn V_gs V_gn obC_mk fresh_ev freshT_ev freshR_ev setN_plagg setN_intsv setN_svai setN_svagg over_intsv set_pl setN_pl setN_plai getN_pl getN_strs part_pl cat_pl over_pl over_plints z_mm
attribute [local go_sem] initTm ne_eq not_true_eq_false not_false_eq_true true_and and_true List.length_cons List.length_nil Int.toNat_natCast Nat.add_zero Nat.zero_add Nat.mul_one List.getElem?_cons_zero List.drop_zero List.take_length List.take_succ_cons List.take_zero List.take_nil List.drop_succ_cons Option.map_some Nat.le_refl implies_true List.getElem?_cons_succ decide_true decide_false Bool.not_true Bool.not_false beq_self_eq_true Nat.succ_ne_self Nat.one_ne_zero Nat.zero_ne_one vk_mk hk_mk nk_mk tok_eq plsOf_map intsOf_map bodyOf_pl bodyOf_ints bodyOf_strs bodyOf_sv part_aggv part_agg part_ai part_int part_str part_bool part_sl part_ptr part_nil numsOf_map u_int u_str u_bool u_pnil u_sl u_ptr u_oci u_ocs evq_nil evq_cons fillS_nil fillS_cons u_ocb ones_pl cells_sv cells_ints cells_strs cells_pl smms_nil smms_cons smm_min smm_max plsOf_nil List.nil_append List.all_cons List.all_nil Bool.and_self Bool.true_and Bool.and_true zws_len zw_len zi_len List.set_cons_zero List.set_cons_succ List.flatMap_cons List.flatMap_nil List.append_nil
section
open Go.Proofs
variable {H : Hp} {n : Nat} {x : Nat → Option SO} {d d' : Fd} {i a b c : Nat} {u1 u2 u3 : Bool}

def spI (X : ByteArray) (m : Nat) : ByteArray := (⟨#[105]⟩ : ByteArray) ++ X.extract 0 (min X.size m)
theorem spI_size {X : ByteArray} {m : Nat} : 1 ≤ (spI X m).size ∧ (spI X m).size ≤ m + 1 := by
  unfold spI
  rw [ByteArray.size_append, ByteArray.size_extract]
  have : (⟨#[105]⟩ : ByteArray).size = 1 := rfl
  omega
theorem ixor_zero {a : Int} (h : 0 ≤ a ∧ a ≤ 255) : ixor .u8 a ((0 : Nat) : Int) = a := by
  obtain ⟨k, rfl⟩ : ∃ k : Nat, a = k := ⟨a.toNat, by omega⟩
  unfold ixor
  rw [show BitVec.ofInt IntKind.u8.bits ((0 : Nat) : Int) = 0#_ from rfl, BitVec.xor_zero, BitVec.toNat_ofInt]
  show (((k : Int) % 256).toNat : Int) % 256 = k
  omega
theorem set_self {α : Type} {l : List α} {i : Nat} {z : α} (h : i < l.length) : l.set i (l.getD i z) = l := by
  rw [List.getD_eq_getElem?_getD, List.getElem?_eq_getElem h, Option.getD_some, List.set_getElem_self]
theorem wSpoilt {V p q : Nat} {X T : ByteArray} (hV : V < 256) (hp : p < 256) (hq : q < 256) :
    fnVC CT mSlotsSpoilt [.agg [.v (.int .u8 V), .v (.string X)], .ai .u8 [p, q], .v (.string T)] ⟨[], x⟩ 1 fun v H' n' => Sub 1 ⟨[(0, .v (.bool true))], ⟨[], x⟩, 1⟩ ⟨[(0, v)], H', n'⟩ := by
  unfold mSlotsSpoilt
  simp -implicitDefEqProofs only [↓fnVC, initTm]
  simp -implicitDefEqProofs only [go_sem, ↓reduceIte, Nat.reduceEqDiff, Nat.reduceAdd, Nat.reduceMul, Nat.reduceLT, Nat.reduceLeDiff, Nat.reduceSub, Int.reduceToNat, Int.reduceLE, Int.reduceLT, reduceCtorEq, Int.reduceEq, Int.reduceGT, Int.reduceGE, Int.reduceNeg]
  refine at_call tkeeps22 (keepsS (by decide)) ?_
  simp -implicitDefEqProofs only [go_sem, ↓reduceIte, Nat.reduceEqDiff, Nat.reduceAdd, Nat.reduceMul, Nat.reduceLT, Nat.reduceLeDiff, Nat.reduceSub, Int.reduceToNat, Int.reduceLE, Int.reduceLT, reduceCtorEq, Int.reduceEq, Int.reduceGT, Int.reduceGE, Int.reduceNeg]
  refine ⟨by omega, by omega, ⟨by omega, by omega⟩, ?_⟩
  have m1 : max 1 (V : Int) = ((max 1 V : Nat) : Int) := by omega
  have m2 : (min (X.size : Int) 600).toNat = min X.size 600 := by omega
  rw [m1, m2]
  have hv : 1 ≤ max 1 V ∧ max 1 V < 256 := by omega
  have hI := spI_size (X := X) (m := 600)
  have e0 : (⟨#[105]⟩ : ByteArray) ++ X.extract 0 (min X.size 600) = spI X 600 := rfl
  rw [e0]
  refine ⟨by rw [← e0, ByteArray.size_append] at hI; have : (⟨#[105]⟩ : ByteArray).size = #[105].size := rfl; omega, ?_⟩
  generalize max 1 V = v at hv ⊢
  generalize spI X 600 = I at hI ⊢
  refine at_call tFNew (nwD (k := 24) (by decide) (by decide) (by decide)) ?_
  unfold devL
  simp -implicitDefEqProofs only [go_sem, ↓reduceIte, Nat.reduceEqDiff, Nat.reduceAdd, Nat.reduceMul, Nat.reduceLT, Nat.reduceLeDiff, Nat.reduceSub, Int.reduceToNat, Int.reduceLE, Int.reduceLT, reduceCtorEq, Int.reduceEq, Int.reduceGT, Int.reduceGE, Int.reduceNeg, List.isEmpty_cons, Bool.false_eq_true, if_false]
  refine at_call trFNew (rnwG (k := 24) (by decide) (by decide) (by decide)) ?_
  unfold refL
  simp -implicitDefEqProofs only [go_sem, ↓reduceIte, Nat.reduceEqDiff, Nat.reduceAdd, Nat.reduceMul, Nat.reduceLT, Nat.reduceLeDiff, Nat.reduceSub, Int.reduceToNat, Int.reduceLE, Int.reduceLT, reduceCtorEq, Int.reduceEq, Int.reduceGT, Int.reduceGE, Int.reduceNeg, List.isEmpty_cons, Bool.false_eq_true, if_false]
  refine at_call tSOpen (openS (i := 3) (a := 4) (b := 5) (c := 6) (d := newD 24) (bs := 0) (r := 11) ⟨by rfl, by rfl, by rfl, by rfl, by decide⟩ (by decide) (by decide) rfl (by decide)) ?_
  unfold devL
  simp -implicitDefEqProofs only [go_sem, ↓reduceIte, Nat.reduceEqDiff, Nat.reduceAdd, Nat.reduceMul, Nat.reduceLT, Nat.reduceLeDiff, Nat.reduceSub, Int.reduceToNat, Int.reduceLE, Int.reduceLT, reduceCtorEq, Int.reduceEq, Int.reduceGT, Int.reduceGE, Int.reduceNeg, List.isEmpty_cons, Bool.false_eq_true, if_false]
  refine at_call trSOpen (ropenS (i := 7) (a := 8) (b := 9) (d := newD 24) (bs := 0) (r := 11) ⟨by rfl, by rfl, by rfl, by decide⟩ (by decide) (by decide) rfl (by decide)) ?_
  unfold refL
  have wv : IntKind.i64.wrap (v : Int) = v := wrap_i64 (by omega) (by omega)
  simp -implicitDefEqProofs only [go_sem, ↓reduceIte, Nat.reduceEqDiff, Nat.reduceAdd, Nat.reduceMul, Nat.reduceLT, Nat.reduceLeDiff, Nat.reduceSub, Int.reduceToNat, Int.reduceLE, Int.reduceLT, reduceCtorEq, Int.reduceEq, Int.reduceGT, Int.reduceGE, Int.reduceNeg, wv, List.isEmpty_cons, Bool.false_eq_true, if_false]
  generalize hd1 : swR 0 11 1 v I (newD 24) = D1
  have g1 := inv_good (swR_inv (bs := 0) (r := 11) (slot := 1) (v := v) (I := I) (a0 := 12) (goodNew (m := 24)) (by decide) rfl rfl hv (by omega))
  have P1 := swR_pl (d := newD 24) (bs := 0) (r := 11) (slot := 1) (ver := v) (I := I) (m := 24) (t := 0) (Pl.new (by decide)) (by decide)
  rw [hd1] at g1 P1
  obtain ⟨D1, d1⟩ := D1
  obtain ⟨g0, g1⟩ := g1
  simp only at g0 g1 P1
  subst g0
  refine at_call tSWrite (swriteS (q := 10) (i := 3) (a := 4) (b := 5) (c := 6) (d := newD 24) (bs := 0) (r := 11) (slot := 1) (ver := v) (I := I) (m := 24) (t := 0) (by decide) (by decide) (by rfl) ⟨by rfl, by rfl, by rfl, by rfl, by decide⟩ (by decide) (Pl.new (by decide)) (by decide) (by decide) hd1) ?_
  rw [devN_eq]
  simp -implicitDefEqProofs only [go_sem, ↓reduceIte, Nat.reduceEqDiff, Nat.reduceAdd, Nat.reduceMul, Nat.reduceLT, Nat.reduceLeDiff, Nat.reduceSub, Int.reduceToNat, Int.reduceLE, Int.reduceLT, reduceCtorEq, Int.reduceEq, Int.reduceGT, Int.reduceGE, Int.reduceNeg, wv, List.isEmpty_cons, Bool.false_eq_true, if_false]
  refine at_call trSWrite (rswriteS (q := 11) (i := 7) (a := 8) (b := 9) (d := newD 24) (bs := 0) (r := 11) (slot := 1) (ver := v) (I := I) (m := 24) (t := 0) (by decide) (by decide) (by rfl) ⟨by rfl, by rfl, by rfl, by decide⟩ (by decide) (Pl.new (by decide)) (by decide) (by decide) hd1) ?_
  have wp : IntKind.i64.wrap ([(p : Int), (q : Int)].getD 0 0) = p := wrap_i64 (n := (p : Int)) (by omega) (by omega)
  have wq : [(p : Int), (q : Int)].getD 1 0 = q := rfl
  simp -implicitDefEqProofs only [go_sem, ↓reduceIte, Nat.reduceEqDiff, Nat.reduceAdd, Nat.reduceMul, Nat.reduceLT, Nat.reduceLeDiff, Nat.reduceSub, Int.reduceToNat, Int.reduceLE, Int.reduceLT, reduceCtorEq, Int.reduceEq, Int.reduceGT, Int.reduceGE, Int.reduceNeg, wp, wq, List.isEmpty_cons, Bool.false_eq_true, if_false]
  refine ⟨by omega, ?_⟩
  obtain ⟨k, hk, hk1⟩ : ∃ k : Nat, k = p % I.size ∧ k < I.size := ⟨_, rfl, Nat.mod_lt _ (by omega)⟩
  have t1 : (p : Int).tmod (I.size : Int) = (k : Nat) := by rw [Int.tmod_eq_emod_of_nonneg (by omega), hk]; rfl
  have t2 : IntKind.i64.wrap ((k : Int).tdiv 64) = ((k / 64 : Nat) : Int) := by
    rw [Int.tdiv_eq_ediv_of_nonneg (by omega), wrap_i64 (by omega) (by omega)]; rfl
  have t3 : (k : Int).tmod 64 = ((k % 64 : Nat) : Int) := by rw [Int.tmod_eq_emod_of_nonneg (by omega)]; rfl
  have t4 : IntKind.i64.wrap (13 + ((k / 64 : Nat) : Int)) = ((13 + k / 64 : Nat) : Int) := by rw [wrap_i64 (by omega) (by omega)]; omega
  rw [t1, t2, t4]
  have hl1 : d1.seen.length = 24 := g1.len
  refine at_call tFRead (rdS' (i := 3) (a := 12) (b := 13) (c := 14) (d := d1) (by rfl) (by rfl) (by rfl) (by rfl) (by decide) P1.ok) ?_
  rw [rdV_at (k := ((13 + k / 64 : Nat) : Int)) g1.off (by omega) (by omega)]
  have s0 : (secT d1 ((13 + k / 64 : Nat) : Int)).size = 64 := secT_size P1.ok (by omega) (by omega)
  simp -implicitDefEqProofs only [go_sem, ↓reduceIte, Nat.reduceEqDiff, Nat.reduceAdd, Nat.reduceMul, Nat.reduceLT, Nat.reduceLeDiff, Nat.reduceSub, Int.reduceToNat, Int.reduceLE, Int.reduceLT, reduceCtorEq, Int.reduceEq, Int.reduceGT, Int.reduceGE, Int.reduceNeg, t3, wp, wq, List.isEmpty_cons, Bool.false_eq_true, if_false]
  have bl : (bts (secT d1 ((13 + k / 64 : Nat) : Int))).length = 64 := by rw [bts_len, s0]
  refine ⟨by omega, ⟨by omega, by omega⟩, by omega, ⟨by omega, by omega⟩, by omega, by rw [List.length_set]; omega, ?_⟩
  rw [t2, t4]
  generalize hT1 : tx (List.take (secT d1 ((13 + k / 64 : Nat) : Int)).size ((bts (secT d1 ((13 + k / 64 : Nat) : Int))).set (k % 64) (ixor .u8 ((bts (secT d1 ((13 + k / 64 : Nat) : Int))).getD (k % 64) 0) (q : Int)))) = T1
  generalize hd2 : wrT d1 ((13 + k / 64 : Nat) : Int) T1 = D2
  have P2 := wrT_pl (k := ((13 + k / 64 : Nat) : Int)) (s := T1) P1 (by decide)
  rw [hd2] at P2
  have hbits : q = 0 → srT 0 11 1 D2.2 = (v, I, 0) := fun hq0 => by
    subst hq0
    have gd : d1.seen.getD (13 + k / 64) [] = pad64 (bts (chk I (k / 64))) := by
      rw [g1.seen]; exact done_ch (a0 := 12) (k := k / 64) (nCh_lt.2 (by omega)) (by simp; omega)
    have hL : bts (secT d1 ((13 + k / 64 : Nat) : Int)) = pad64 (bts (chk I (k / 64))) := by
      unfold secT; rw [Int.toNat_natCast, gd, btx (pad_bytes bts_bytes)]
    have hT : T1 = secT d1 ((13 + k / 64 : Nat) : Int) := by
      rw [← hT1, ixor_zero (by
        rw [List.getD_eq_getElem?_getD, List.getElem?_eq_getElem (by omega)]
        exact bts_bytes _ (List.getElem_mem _)), set_self (by omega), s0, List.take_of_length_le (by omega), tx_bts]
    have hN : wrNo d1 ((13 + k / 64 : Nat) : Int) T1 = none := by
      unfold wrNo
      rw [g1.off, if_neg Bool.false_ne_true, if_neg (by omega), if_neg (by rw [hT, s0]; decide), if_neg (by rw [g1.fa rfl]; decide)]
    have hD : D2 = (0, wrD d1 (13 + k / 64) T1) := by
      rw [← hd2]; unfold wrT; rw [hN, Int.toNat_natCast]
    rw [hD]
    show srT 0 11 1 (wrD d1 (13 + k / 64) T1) = _
    rw [← srT_wrote (a0 := 12) (bs := 0) (r := 11) (slot := 1) g1 (by simp) (by decide) rfl rfl hv (by omega)]
    refine srT_congr (a0 := 12) rfl g1.off ?_ rfl fun j hj1 hj2 => ?_
    · rw [wrD_off (by rw [g1.fa rfl]; decide), g1.off]
    · rw [wrD_seen, hT, hL]
      have e64 : pad64 (pad64 (bts (chk I (k / 64)))) = pad64 (bts (chk I (k / 64))) := by
        have : (pad64 (bts (chk I (k / 64)))).length = 64 := pad64_len (by rw [bts_len]; exact chk_size)
        unfold pad64 at this ⊢
        rw [this, Nat.sub_self, List.replicate_zero, List.append_nil]
      rw [e64]
      by_cases hjk : 13 + k / 64 = j
      · subst hjk; rw [getD_set_eq (by omega), gd]
      · rw [getD_set_ne hjk]
  obtain ⟨E2, d2⟩ := D2
  simp only at P2 hbits
  refine at_call tFWrite (wrTS (i := 3) (a := 12) (b := 13) (c := 14) (d := d1) (m := 24) (t := 133) ⟨by rfl, by rfl, by rfl, by rfl, by decide⟩ P1 (by decide) (by decide) hd2) ?_
  simp -implicitDefEqProofs only [go_sem, ↓reduceIte, Nat.reduceEqDiff, Nat.reduceAdd, Nat.reduceMul, Nat.reduceLT, Nat.reduceLeDiff, Nat.reduceSub, Int.reduceToNat, Int.reduceLE, Int.reduceLT, reduceCtorEq, Int.reduceEq, Int.reduceGT, Int.reduceGE, Int.reduceNeg, t3, wp, wq, List.isEmpty_cons, Bool.false_eq_true, if_false]
  refine ⟨by rw [List.length_set]; omega, ?_⟩
  rw [t2, t4, hT1]
  refine at_call trFWrite (rwrTS (i := 7) (a := 15) (b := 16) (d := d1) (m := 24) (t := 133) ⟨by rfl, by rfl, by rfl, by decide⟩ P1 (by decide) (by decide) hd2) ?_
  simp -implicitDefEqProofs only [go_sem, ↓reduceIte, Nat.reduceEqDiff, Nat.reduceAdd, Nat.reduceMul, Nat.reduceLT, Nat.reduceLeDiff, Nat.reduceSub, Int.reduceToNat, Int.reduceLE, Int.reduceLT, reduceCtorEq, Int.reduceEq, Int.reduceGT, Int.reduceGE, Int.reduceNeg, t3, wp, wq, List.isEmpty_cons, Bool.false_eq_true, if_false]
  generalize hr1 : srT 0 11 1 d2 = R1 at hbits
  refine at_call tSRead (sreadS (q := 10) (i := 3) (a := 18) (b := 19) (c := 20) (d := d2) (bs := 0) (r := 11) (slot := 1) (by decide) (by decide) (by rfl) ⟨by rfl, by rfl, by rfl, by rfl, by decide⟩ (by decide) P2.ok (by rw [P2.len]; decide) hr1) ?_
  unfold rV
  simp -implicitDefEqProofs only [go_sem, ↓reduceIte, Nat.reduceEqDiff, Nat.reduceAdd, Nat.reduceMul, Nat.reduceLT, Nat.reduceLeDiff, Nat.reduceSub, Int.reduceToNat, Int.reduceLE, Int.reduceLT, reduceCtorEq, Int.reduceEq, Int.reduceGT, Int.reduceGE, Int.reduceNeg, List.isEmpty_cons, Bool.false_eq_true, if_false]
  refine at_call trSRead (rsreadS (q := 11) (i := 7) (a := 21) (b := 22) (d := d2) (bs := 0) (r := 11) (slot := 1) (u1 := true) (u2 := true) (u3 := true) (by decide) (by decide) (by rfl) ⟨by rfl, by rfl, by rfl, by decide⟩ (by decide) P2.ok P2.sn (by rw [P2.len]; decide) hr1) ?_
  unfold rV
  have sr : seq R1.2.1 R1.2.1 = true := seq_self _
  simp -implicitDefEqProofs only [go_sem, ↓reduceIte, Nat.reduceEqDiff, Nat.reduceAdd, Nat.reduceMul, Nat.reduceLT, Nat.reduceLeDiff, Nat.reduceSub, Int.reduceToNat, Int.reduceLE, Int.reduceLT, reduceCtorEq, Int.reduceEq, Int.reduceGT, Int.reduceGE, Int.reduceNeg, sr, wq, List.isEmpty_cons, Bool.false_eq_true, if_false]
  generalize hd3 : wrT d2 12 T = D3
  have P3 := wrT_pl (k := 12) (s := T) P2 (by decide)
  rw [hd3] at P3
  obtain ⟨E3, d3⟩ := D3
  simp only at P3
  generalize hr2 : srT 0 11 1 d3 = R2
  have sr2 : seq R2.2.1 R2.2.1 = true := seq_self _
  by_cases hq0 : q = 0
  · have c1 : decide ((q : Int) = 0) = true := decide_eq_true (by omega)
    have c2 : R1.2.2 = 0 := by rw [hbits hq0]
    have c3 : decide (R1.2.2 = 0) = true := decide_eq_true c2
    simp -implicitDefEqProofs only [go_sem, ↓reduceIte, Nat.reduceEqDiff, Nat.reduceAdd, Nat.reduceMul, Nat.reduceLT, Nat.reduceLeDiff, Nat.reduceSub, Int.reduceToNat, Int.reduceLE, Int.reduceLT, reduceCtorEq, Int.reduceEq, Int.reduceGT, Int.reduceGE, Int.reduceNeg, c1, c3, List.isEmpty_cons, Bool.false_eq_true, if_false]
    refine at_call tFWrite (wrTS (i := 3) (a := 18) (b := 19) (c := 20) (d := d2) (m := 24) (t := 134) ⟨by rfl, by rfl, by rfl, by rfl, by decide⟩ P2 (by decide) (by decide) hd3) ?_
    simp -implicitDefEqProofs only [go_sem, ↓reduceIte, Nat.reduceEqDiff, Nat.reduceAdd, Nat.reduceMul, Nat.reduceLT, Nat.reduceLeDiff, Nat.reduceSub, Int.reduceToNat, Int.reduceLE, Int.reduceLT, reduceCtorEq, Int.reduceEq, Int.reduceGT, Int.reduceGE, Int.reduceNeg, List.isEmpty_cons, Bool.false_eq_true, if_false]
    refine at_call trFWrite (rwrTS (i := 7) (a := 21) (b := 22) (d := d2) (m := 24) (t := 134) ⟨by rfl, by rfl, by rfl, by decide⟩ P2 (by decide) (by decide) hd3) ?_
    simp -implicitDefEqProofs only [go_sem, ↓reduceIte, Nat.reduceEqDiff, Nat.reduceAdd, Nat.reduceMul, Nat.reduceLT, Nat.reduceLeDiff, Nat.reduceSub, Int.reduceToNat, Int.reduceLE, Int.reduceLT, reduceCtorEq, Int.reduceEq, Int.reduceGT, Int.reduceGE, Int.reduceNeg, List.isEmpty_cons, Bool.false_eq_true, if_false]
    refine at_call tSRead (sreadS (q := 10) (i := 3) (a := 23) (b := 24) (c := 25) (d := d3) (bs := 0) (r := 11) (slot := 1) (by decide) (by decide) (by rfl) ⟨by rfl, by rfl, by rfl, by rfl, by decide⟩ (by decide) P3.ok (by rw [P3.len]; decide) hr2) ?_
    unfold rV
    simp -implicitDefEqProofs only [go_sem, ↓reduceIte, Nat.reduceEqDiff, Nat.reduceAdd, Nat.reduceMul, Nat.reduceLT, Nat.reduceLeDiff, Nat.reduceSub, Int.reduceToNat, Int.reduceLE, Int.reduceLT, reduceCtorEq, Int.reduceEq, Int.reduceGT, Int.reduceGE, Int.reduceNeg, List.isEmpty_cons, Bool.false_eq_true, if_false]
    refine at_call trSRead (rsreadS (q := 11) (i := 7) (a := 26) (b := 27) (d := d3) (bs := 0) (r := 11) (slot := 1) (u1 := true) (u2 := true) (u3 := true) (by decide) (by decide) (by rfl) ⟨by rfl, by rfl, by rfl, by decide⟩ (by decide) P3.ok P3.sn (by rw [P3.len]; decide) hr2) ?_
    unfold rV
    simp -implicitDefEqProofs only [go_sem, ↓reduceIte, Nat.reduceEqDiff, Nat.reduceAdd, Nat.reduceMul, Nat.reduceLT, Nat.reduceLeDiff, Nat.reduceSub, Int.reduceToNat, Int.reduceLE, Int.reduceLT, reduceCtorEq, Int.reduceEq, Int.reduceGT, Int.reduceGE, Int.reduceNeg, sr2, List.isEmpty_cons, Bool.false_eq_true, if_false]
    exact sub_val rfl (by decide) (by decide) rfl
  · have c1 : decide ((q : Int) = 0) = false := decide_eq_false (by omega)
    simp -implicitDefEqProofs only [go_sem, ↓reduceIte, Nat.reduceEqDiff, Nat.reduceAdd, Nat.reduceMul, Nat.reduceLT, Nat.reduceLeDiff, Nat.reduceSub, Int.reduceToNat, Int.reduceLE, Int.reduceLT, reduceCtorEq, Int.reduceEq, Int.reduceGT, Int.reduceGE, Int.reduceNeg, c1, List.isEmpty_cons, Bool.false_eq_true, if_false]
    refine at_call tFWrite (wrTS (i := 3) (a := 18) (b := 19) (c := 20) (d := d2) (m := 24) (t := 134) ⟨by rfl, by rfl, by rfl, by rfl, by decide⟩ P2 (by decide) (by decide) hd3) ?_
    simp -implicitDefEqProofs only [go_sem, ↓reduceIte, Nat.reduceEqDiff, Nat.reduceAdd, Nat.reduceMul, Nat.reduceLT, Nat.reduceLeDiff, Nat.reduceSub, Int.reduceToNat, Int.reduceLE, Int.reduceLT, reduceCtorEq, Int.reduceEq, Int.reduceGT, Int.reduceGE, Int.reduceNeg, List.isEmpty_cons, Bool.false_eq_true, if_false]
    refine at_call trFWrite (rwrTS (i := 7) (a := 21) (b := 22) (d := d2) (m := 24) (t := 134) ⟨by rfl, by rfl, by rfl, by decide⟩ P2 (by decide) (by decide) hd3) ?_
    simp -implicitDefEqProofs only [go_sem, ↓reduceIte, Nat.reduceEqDiff, Nat.reduceAdd, Nat.reduceMul, Nat.reduceLT, Nat.reduceLeDiff, Nat.reduceSub, Int.reduceToNat, Int.reduceLE, Int.reduceLT, reduceCtorEq, Int.reduceEq, Int.reduceGT, Int.reduceGE, Int.reduceNeg, List.isEmpty_cons, Bool.false_eq_true, if_false]
    refine at_call tSRead (sreadS (q := 10) (i := 3) (a := 23) (b := 24) (c := 25) (d := d3) (bs := 0) (r := 11) (slot := 1) (by decide) (by decide) (by rfl) ⟨by rfl, by rfl, by rfl, by rfl, by decide⟩ (by decide) P3.ok (by rw [P3.len]; decide) hr2) ?_
    unfold rV
    simp -implicitDefEqProofs only [go_sem, ↓reduceIte, Nat.reduceEqDiff, Nat.reduceAdd, Nat.reduceMul, Nat.reduceLT, Nat.reduceLeDiff, Nat.reduceSub, Int.reduceToNat, Int.reduceLE, Int.reduceLT, reduceCtorEq, Int.reduceEq, Int.reduceGT, Int.reduceGE, Int.reduceNeg, List.isEmpty_cons, Bool.false_eq_true, if_false]
    refine at_call trSRead (rsreadS (q := 11) (i := 7) (a := 26) (b := 27) (d := d3) (bs := 0) (r := 11) (slot := 1) (u1 := true) (u2 := true) (u3 := true) (by decide) (by decide) (by rfl) ⟨by rfl, by rfl, by rfl, by decide⟩ (by decide) P3.ok P3.sn (by rw [P3.len]; decide) hr2) ?_
    unfold rV
    simp -implicitDefEqProofs only [go_sem, ↓reduceIte, Nat.reduceEqDiff, Nat.reduceAdd, Nat.reduceMul, Nat.reduceLT, Nat.reduceLeDiff, Nat.reduceSub, Int.reduceToNat, Int.reduceLE, Int.reduceLT, reduceCtorEq, Int.reduceEq, Int.reduceGT, Int.reduceGE, Int.reduceNeg, sr2, List.isEmpty_cons, Bool.false_eq_true, if_false]
    exact sub_val rfl (by decide) (by decide) rfl
end
end Go.Sx
/- Slots: structs that came in. -/
set_option linter.unusedVariables false
set_option linter.unusedSimpArgs false
set_option maxRecDepth 100000
namespace Go.Sx
open Go.Proofs Go.ChangeShapes Go.WideShapes Go.ChangeAt Go.RowKit
variable {H : Type} {enc : TypeId × Value → H} {W : World}

theorem u8_lt {p : Int} (h : (Lit.int .u8 p).wf = true) : ∃ k : Nat, p = k ∧ k < 256 := by
  simp [Lit.wf, IntKind.min, IntKind.max, IntKind.signed, IntKind.bits] at h
  exact ⟨p.toNat, by omega, by omega⟩
theorem new_cells {fuel : Nat} {cs : List Value} {x : DataW H × List MemPlace} (h : DataW.trod enc Try.prog W 0 (fun _ => true) true fuel 23 cs = some x) :
    ∃ (V : Nat) (X : ByteArray), cs = [.int .u8 V, .string X] ∧ V < 256 := by
  obtain ⟨xs, n, rfl, hx, hl, hxl, hf⟩ := DataW.trod_struct Try.underlying23 h
  have h0 := hf 0 { name := "Version", type := 5, offset := 0, embedded := false, tag := "", pkgPath := "", byteOffset := 0 } rfl
  have h1 := hf 1 { name := "Image", type := 9, offset := 1, embedded := false, tag := "", pkgPath := "", byteOffset := 8 } rfl
  have c5 : Try.prog.cellsOf 5 = 1 := by kernel_rfl
  have c9 : Try.prog.cellsOf 9 = 1 := by kernel_rfl
  have c23 : Try.prog.cellsOf 23 = 2 := by kernel_rfl
  rw [c23] at hl
  match cs, hl with
  | [a, b], _ =>
    match xs, hxl with
    | [y0, y1], _ =>
      simp only [c5, c9, List.drop_succ_cons, List.drop_zero, List.take_succ_cons, List.take_zero, List.getElem?_cons_succ, List.getElem?_cons_zero] at h0 h1
      obtain ⟨M, e0, rfl, hM⟩ := DataW.trod_int Try.underlying5 h0
      obtain ⟨old, e1, rfl, _⟩ := DataW.trod_string Try.underlying9 h1
      simp only [List.cons.injEq, and_true] at e0 e1
      subst e0; subst e1
      obtain ⟨k, rfl, hk⟩ := u8_lt hM
      exact ⟨k, old, rfl, hk⟩
theorem new_val {b0 : Nat} {v : Value} {d : DataW H} {ps : List MemPlace} (hval : Value.okWide Try.prog W .any b0 23 v) (h : DataW.Trod enc Try.prog W 0 (fun _ => true) true 23 v d ps) :
    ∃ (V : Nat) (X : ByteArray), v = .agg #[.int .u8 V, .string X] ∧ V < 256 := by
  obtain ⟨cs, rfl, hsz⟩ := okWide_struct Try.underlying23 hval
  obtain ⟨fuel, h⟩ := h
  obtain ⟨V, X, e, hV⟩ := new_cells (show DataW.trod enc Try.prog W 0 (fun _ => true) true fuel 23 cs.toList = some (d, ps) from h)
  exact ⟨V, X, by cases cs; simp only at e; rw [e], hV⟩
theorem two_val {b0 : Nat} {v : Value} {d : DataW H} {ps : List MemPlace} (hval : Value.okWide Try.prog W .any b0 24 v) (h : DataW.Trod enc Try.prog W 0 (fun _ => true) true 24 v d ps) :
    ∃ (p q : Nat), v = .agg #[.int .u8 p, .int .u8 q] ∧ p < 256 ∧ q < 256 := by
  obtain ⟨cs, rfl⟩ : ∃ cs, v = .agg cs := by
    simp only [Value.okWide, Try.underlying24] at hval
    obtain ⟨cs, e, _⟩ := hval
    exact ⟨cs, e⟩
  obtain ⟨fuel, h⟩ := h
  obtain ⟨xs, n, rfl, hx, hl, hxl, hf⟩ := DataW.trod_array Try.underlying24 (show DataW.trod enc Try.prog W 0 (fun _ => true) true fuel 24 cs.toList = some (d, ps) from h)
  have h0 := hf 0 (by decide)
  have h1 := hf 1 (by decide)
  have c5 : Try.prog.cellsOf 5 = 1 := by kernel_rfl
  have c24 : Try.prog.cellsOf 24 = 2 := by kernel_rfl
  rw [c24] at hl
  obtain ⟨cl, hcl⟩ : ∃ cl, cs.toList = cl := ⟨_, rfl⟩
  rw [hcl] at hl h0 h1
  match cl, hl with
  | [a, b], _ =>
    match xs, hxl with
    | [y0, y1], _ =>
      simp only [c5, Nat.zero_mul, Nat.one_mul, List.drop_succ_cons, List.drop_zero, List.take_succ_cons, List.take_zero, List.getElem?_cons_succ, List.getElem?_cons_zero] at h0 h1
      obtain ⟨p, e0, rfl, hp⟩ := DataW.trod_int Try.underlying5 h0
      obtain ⟨q, e1, rfl, hq⟩ := DataW.trod_int Try.underlying5 h1
      simp only [List.cons.injEq, and_true] at e0 e1
      subst e0; subst e1
      obtain ⟨p, rfl, hp2⟩ := u8_lt hp
      obtain ⟨q, rfl, hq2⟩ := u8_lt hq
      exact ⟨p, q, by cases cs; simp only at hcl; rw [hcl], hp2, hq2⟩
end Go.Sx
