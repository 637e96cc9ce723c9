/- Layer 1: a digest. -/
import Derived.Test.YtlnimdiddoalmaaL1t
import Derived.Test.YtlnimdiddoalmaaRp

set_option linter.unusedVariables false
set_option linter.unusedSimpArgs false
set_option maxRecDepth 100000
namespace Go.Sx
attribute [local go_sem ↓] bind_mk intsB_mk strsB_mk svB_mk fnVC ob_some vc_skip vc_exit vc_ret vc_seq vc_block kSeq_normal kSeq_exit kSeq_ret kBlock_normal kBlock_exit kBlock_ret vc_reg vc_regD vc_cond condK_true condK_false vc_loop kLoop_exit kLoop_ret kRoll_normal kRoll_exit kRoll_ret vcOps_nil vcOps_cons gd_bool gd_undef put_some put_none vcT_fin vcT_pure vcT_act vcT_acts vcT_stop stab_none stab_some stabM_nil stabM_cons stabO_ld stabO_ldn stabO_slP stabO_b2s fldOf_ai fldOf_agg fldOf_ait fldOf_aggt intsOf_nil intsOf_cons strsOf_nil strsOf_cons c_omap ob_if lk_nil lk_cons ev_t ev_k z_mov z_pick z_bin z_binB z_binP z_un z_conv z_s2b z_b2s z_alloc z_bld z_bldI z_rowI z_rowS z_ld z_ldn z_st z_stn asN_ptr asN_fn z_nilck z_fld z_fadr z_idxA z_idxP z_idxS z_idxV z_slS z_slL z_slP z_mk z_lenS z_lenL z_app appC_ints appC_pl appC_sv appC_strs isS_strs loose_ints loose_pl loose_sv z_slM z_callv callvK_fn callvK_f callvK_yl vc_rangeF rfEnd_eq rfGo_none rfGo_ret rfGo_exit yGo_mk yEnd_n yEnd_r yEnd_e yRdy_mk yMid_n putPs_nil putPs_cons leaf_v leaf_ptr leaf_sl leaf_yl leaf_mp z_appS z_appZ z_cpyS z_mkfn reps_int reps_str z_rowV z_slnil nilK_zero z_cpy z_call asT_tup z_extT z_box boxOf_ai boxOf_agg boxOf_int boxOf_str boxOf_bool boxOf_ptr boxOf_sl sbin_int sbin_str sbinB_mk sbinP_nn sbinP_pn sbinP_np i_add i_sub i_mul i_quo i_rem i_and i_or i_xor i_andNot i_shl i_shr i_eql i_neq i_lss i_leq i_gtr i_geq st_add st_eql st_neq st_lss st_leq st_gtr st_geq bo_eql bo_neq pt_eql pt_neq un_neg un_xor un_not asI_mk asB_mk asS_mk asP_mk asSl_mk asBy_mk bnd_none bnd_some get_mk hput_mk hdel_mk kill_eq wrOf_eq rowOf_eq rsvs_0 rsvs_1 rsvs_2 rsvs_3 rsv_t rsv_c1 rsv_cn nt_v nt_ptr nt_sl nt_agg nt_ai get_ints get_strs get_pl get_sv getN_ints getN_sv set_ints set_strs set_sv setN_ints setN_sv part_ints part_strs part_sv cat_ints cat_strs cat_sv over_ints ones_ints ones_strs evs_nil evs_cons condK_eqt condK_eqf det_callP V_ns V_nn V_gs V_gn obC_mk fresh_ev setN_plagg setN_intsv setN_svai setN_svagg over_intsv set_pl setN_pl setN_plai getN_pl getN_strs part_pl cat_pl over_pl over_plints z_mm
attribute [local go_sem] initTm ne_eq not_true_eq_false not_false_eq_true true_and and_true List.length_cons List.length_nil Int.toNat_natCast Nat.add_zero Nat.zero_add Nat.mul_one List.getElem?_cons_zero List.drop_zero List.take_length List.take_succ_cons List.take_zero List.take_nil List.drop_succ_cons Option.map_some Nat.le_refl implies_true List.getElem?_cons_succ decide_true decide_false Bool.not_true Bool.not_false beq_self_eq_true Nat.succ_ne_self Nat.one_ne_zero Nat.zero_ne_one vk_mk hk_mk nk_mk tok_eq plsOf_map intsOf_map bodyOf_pl bodyOf_ints bodyOf_strs bodyOf_sv part_aggv part_agg part_ai part_int part_str part_bool part_sl part_ptr part_nil numsOf_map u_int u_str u_bool u_pnil u_sl u_ptr u_oci u_ocs evq_nil evq_cons fillS_nil fillS_cons u_ocb ones_pl cells_sv cells_ints cells_strs cells_pl smms_nil smms_cons smm_min smm_max plsOf_nil List.nil_append List.all_cons List.all_nil Bool.and_self Bool.true_and Bool.and_true zws_len zw_len zi_len List.set_cons_zero List.set_cons_succ List.flatMap_cons List.flatMap_nil List.append_nil
open Go.Proofs
variable {H : Hp} {n : Nat} {x : Nat → Option SO}

theorem mix1 : Try.prog.follows .mixedOrders = true := Checked.mixed Try.checked
def C1v : Tab := CS Try.prog
theorem ok1v : OKT Try.prog C1v := okCS mix1
theorem word_drop (ys : List Int) (d o : Nat) : word (ys.drop d) o = word ys (d + o) := by
  unfold word; simp only [drop_getD, Nat.add_assoc]
theorem Ws_drop (ys : List Int) (d o : Nat) : ∀ t, Ws (ys.drop d) o t = Ws ys (d + o) t
  | 0 => rfl
  | t + 1 => by simp only [Ws, Ws_drop ys d o t, word_drop, Nat.add_assoc]
theorem blk_drop (vs ks ys : List Int) (d o : Nat) : blk vs ks (ys.drop d) o = blk vs ks ys (d + o) := by
  unfold blk Wa; rw [Ws_drop]
theorem app_getD {l m : List Int} {t : Nat} (h : t < l.length) : (l ++ m).getD t 0 = l.getD t 0 := by
  simp only [List.getD_eq_getElem?_getD, List.getElem?_append_left h]
theorem Ws_app (ys m : List Int) {o : Nat} (ho : o + 64 ≤ ys.length) : ∀ t, Ws (ys ++ m) o t = Ws ys o t
  | 0 => rfl
  | t + 1 => by
    simp only [Ws, Ws_app ys m ho t]
    by_cases h : t < 16
    · rw [if_pos h, if_pos h]
      unfold word
      rw [app_getD (by omega), app_getD (by omega), app_getD (by omega), app_getD (by omega)]
    · rw [if_neg h, if_neg h]
theorem blk_app (vs ks ys m : List Int) {o : Nat} (ho : o + 64 ≤ ys.length) : blk vs ks (ys ++ m) o = blk vs ks ys o := by
  unfold blk Wa; rw [Ws_app ys m ho]
/-- Blocks of a row, one behind the other. -/
def Wf (ws p : List Int) : Nat → List Int
  | 0 => ws
  | j + 1 => blk (Wf ws p j) kk p (64 * j)
theorem Wf_len {ws p : List Int} (h : ws.length = 8) : ∀ j, (Wf ws p j).length = 8
  | 0 => h
  | j + 1 => blk_len _ _ _ _
theorem Wf_iv (B : List Int) : ∀ j, Wf iv B j = Hs B j
  | 0 => rfl
  | j + 1 => by simp only [Wf, Hs, Wf_iv B j]
theorem Hs_app {B m : List Int} : ∀ {q : Nat}, 64 * q ≤ B.length → Hs (B ++ m) q = Hs B q
  | 0, _ => rfl
  | q + 1, h => by
    simp only [Hs]
    rw [Hs_app (by omega), blk_app _ _ _ _ (by omega)]
theorem Wf_Hs {bs B : List Int} {q : Nat} (hq : 64 * q ≤ bs.length) : ∀ k, Wf (Hs bs q) (bs.drop (64 * q) ++ B) k = Hs (bs ++ B) (q + k)
  | 0 => by simp only [Wf, Nat.add_zero]; exact (Hs_app hq).symm
  | k + 1 => by
    show blk (Wf (Hs bs q) (bs.drop (64 * q) ++ B) k) kk (bs.drop (64 * q) ++ B) (64 * k) = blk (Hs (bs ++ B) (q + k)) kk (bs ++ B) (64 * (q + k))
    rw [Wf_Hs hq k, ← List.drop_append_of_le_length hq, blk_drop, Nat.mul_add]

/-! ### A digest -/
def dgC (ws : List Int) (bg : Bool) (r m : Nat) (k : Int) : List SV := [.v (.int .u32 (ws.getD 0 0)), .v (.int .u32 (ws.getD 1 0)), .v (.int .u32 (ws.getD 2 0)), .v (.int .u32 (ws.getD 3 0)), .v (.int .u32 (ws.getD 4 0)), .v (.int .u32 (ws.getD 5 0)), .v (.int .u32 (ws.getD 6 0)), .v (.int .u32 (ws.getD 7 0)), .v (.bool bg), .sl r 0 m 1, .v (.int .i64 k)]
def dgW (bg : Bool) (bs : List Int) : List Int := if bg then Hs bs (bs.length / 64) else List.replicate 8 0
def dgR (bs : List Int) : List Int := bs.drop (64 * (bs.length / 64))
def dgB (bg : Bool) (bs : List Int) (r : Nat) : Body := .sv (dgC (dgW bg bs) bg r (dgR bs).length bs.length)
theorem s28 : SpecAt Try.prog 28 [] H n (.ai .u32 iv) H n := spec_of_ctr (ok1.tab.f 28) rfl
theorem s29 (hn : n < 1000) : SpecAt Try.prog 29 [] H n (.ptr n 0) (H.put n ⟨true, .ints .u32 kk⟩) (n + 1) := spec_of_ctr (ok1.tab.f 29) (by show (if n < 1000 then _ else _) = _; rw [if_pos hn])
theorem s32 {xs : List Int} (h : xs.length = 8) : SpecAt Try.prog 32 [.ai .u32 xs] H n (.v (.string (tx (outb xs)))) H n := spec_of_ctr (ok1.tab.f 32) (by show (if xs.length = 8 then _ else _) = _; rw [if_pos h])
theorem U8_of {ws : List Int} (h : ws.length = 8) : U8 ws = ws := by
  match ws, h with
  | [a, b, c, d, e, f, g, i], _ => rfl
theorem s30 {i j p o r m : Nat} {ws ks ys : List Int} {bg : Bool} {k : Int} {w1 w2 : Bool} (hi : H.get i = some ⟨true, .sv (dgC ws bg r m k)⟩) (hj : H.get j = some ⟨w1, .ints .u32 ks⟩) (hp : H.get p = some ⟨w2, .ints .u8 ys⟩) (hw : ws.length = 8) (hk : ks.length = 64) (ho : o + 64 ≤ ys.length)
    (hne : 0 < i ∧ i < 1000 ∧ i ≠ j ∧ i ≠ p ∧ j ≠ 0 ∧ p ≠ 0) : SpecAt Try.prog 30 [.ptr i 0, .ptr j 0, .sl p o 64 1] H n (.tup []) (H.put i ⟨true, .sv (dgC (blk ws ks ys o) bg r m k)⟩) n := by
  refine spec_of_ctr (ok1.tab.f 30) ?_
  show f30 i j p o H n = _
  unfold f30
  rw [hi, hj, hp]
  simp only [Option.bind_some]
  have e1 : wordsOf (.sv (dgC ws bg r m k)) = some (ws, fun vs => svm vs [.v (.bool bg), .sl r 0 m 1, .v (.int .i64 k)]) := by
    rw [wordsOf_sv]
    have : intsOf .u32 ((dgC ws bg r m k).take 8) = some (U8 ws) := rfl
    rw [this, U8_of hw]; rfl
  rw [e1]
  show (if _ then _ else _) = _
  rw [if_pos ⟨trivial, hw, hk, ho, hne⟩]
  have e2 : svm (blk ws ks ys o) [.v (.bool bg), .sl r 0 m 1, .v (.int .i64 k)] = .sv (dgC (blk ws ks ys o) bg r m k) := by
    have := U8_of (blk_len ws ks ys o)
    show Body.sv ((blk ws ks ys o).map _ ++ _) = _
    conv => lhs; rw [← this]
    rfl
  simp only [e2]
theorem dgR_len (bs : List Int) : (dgR bs).length = bs.length % 64 := by
  unfold dgR; rw [List.length_drop]; omega
theorem dg_step (bs B : List Int) : Wf (Hs bs (bs.length / 64)) (dgR bs ++ B) ((dgR bs ++ B).length / 64) = Hs (bs ++ B) ((bs ++ B).length / 64) ∧ (dgR bs ++ B).drop (64 * ((dgR bs ++ B).length / 64)) = dgR (bs ++ B) := by
  have hq : 64 * (bs.length / 64) ≤ bs.length := by omega
  have e : bs.length / 64 + (dgR bs ++ B).length / 64 = (bs ++ B).length / 64 := by
    rw [List.length_append, dgR_len, List.length_append]; omega
  constructor
  · rw [show dgR bs ++ B = bs.drop (64 * (bs.length / 64)) ++ B from rfl, Wf_Hs hq, show bs.drop (64 * (bs.length / 64)) ++ B = dgR bs ++ B from rfl, e]
  · have : dgR bs ++ B = (bs ++ B).drop (64 * (bs.length / 64)) := (List.drop_append_of_le_length hq).symm
    conv => lhs; arg 2; rw [this]
    rw [List.drop_drop]
    unfold dgR
    rw [← e]; congr 1
    unfold dgR; omega
/-- Behind the beginning: the loop over whole blocks, and what is left. -/
def dgI (ws P : List Int) (m : Nat) (k : Int) (x : Nat → Option SO) (j : Nat) : St :=
  ⟨[(0, .ptr 1 0), (4, .sl 3 (64 * j) (P.length - 64 * j) 1), (5, .ptr 4 0)], ⟨[(1, some ⟨true, .sv (dgC (Wf ws P j) true 2 m k)⟩), (2, none), (3, some ⟨true, .ints .u8 P⟩), (4, some ⟨true, .ints .u32 kk⟩)], x⟩, 5⟩
theorem w19 {bg : Bool} {bs : List Int} {s : ByteArray} (hb : bg = false → bs = []) (hl : bs.length + s.size ≤ 1099511627776) :
    fnVC C1v m19 [.ptr 1 0, .v (.string s)] ⟨[(1, some ⟨true, dgB bg bs 2⟩), (2, some ⟨true, .ints .u8 (dgR bs)⟩)], x⟩ 3 fun v H' n' => Sub 3 ⟨[(0, .tup [])], ⟨[(1, some ⟨true, dgB true (bs ++ bts s) 3⟩), (2, none), (3, some ⟨true, .ints .u8 (dgR (bs ++ bts s))⟩)], x⟩, 4⟩ ⟨[(0, v)], H', n'⟩ := by
  have hP : (dgR bs ++ bts s).length = (dgR bs).length + s.size := by rw [List.length_append, bts_len]
  have hT : ((bs.length : Int) + (s.size : Int)) = (((bs ++ bts s).length : Nat) : Int) := by rw [List.length_append, bts_len]; omega
  have hw : IntKind.i64.wrap ((bs.length : Int) + (s.size : Int)) = (((bs ++ bts s).length : Nat) : Int) := by rw [wrap_i64 (by omega) (by omega), hT]
  have hrl := dgR_len bs
  obtain ⟨e1, e2⟩ := dg_step bs (bts s)
  unfold m19 dgB dgC
  simp -implicitDefEqProofs only [↓fnVC, initTm]
  simp -implicitDefEqProofs only [go_sem, ↓reduceIte, Nat.reduceEqDiff, Nat.reduceAdd, Nat.reduceMul, Nat.reduceLT, Nat.reduceLeDiff, Nat.reduceSub, Int.reduceToNat, Int.reduceLE, Int.reduceLT, reduceCtorEq, Int.reduceEq, Int.reduceGT, Int.reduceGE, Int.reduceNeg]
  cases bg
  · obtain rfl := hb rfl
    replace e1 : Wf iv (dgR [] ++ bts s) ((dgR [] ++ bts s).length / 64) = Hs ([] ++ bts s) (([] ++ bts s).length / 64) := e1
    simp -implicitDefEqProofs only [go_sem, ↓reduceIte, Nat.reduceEqDiff, Nat.reduceAdd, Nat.reduceMul, Nat.reduceLT, Nat.reduceLeDiff, Nat.reduceSub, Int.reduceToNat, Int.reduceLE, Int.reduceLT, reduceCtorEq, Int.reduceEq, Int.reduceGT, Int.reduceGE, Int.reduceNeg]
    refine at_call t28 s28 ?_
    simp -implicitDefEqProofs only [go_sem, ↓reduceIte, Nat.reduceEqDiff, Nat.reduceAdd, Nat.reduceMul, Nat.reduceLT, Nat.reduceLeDiff, Nat.reduceSub, Int.reduceToNat, Int.reduceLE, Int.reduceLT, reduceCtorEq, Int.reduceEq, Int.reduceGT, Int.reduceGE, Int.reduceNeg, iv, splice_zero, List.map_cons, List.map_nil, List.length_cons, List.length_nil, List.drop_succ_cons, List.drop_zero, List.cons_append, List.nil_append, List.set_cons_succ, List.set_cons_zero]
    refine ⟨by omega, ?_⟩
    refine at_call t29 (s29 (by decide)) ?_
    simp -implicitDefEqProofs only [go_sem, ↓reduceIte, Nat.reduceEqDiff, Nat.reduceAdd, Nat.reduceMul, Nat.reduceLT, Nat.reduceLeDiff, Nat.reduceSub, Int.reduceToNat, Int.reduceLE, Int.reduceLT, reduceCtorEq, Int.reduceEq, Int.reduceGT, Int.reduceGE, Int.reduceNeg]
    refine loop_fam (fun j : Nat => 64 * j ≤ (dgR [] ++ bts s).length) (dgI iv (dgR [] ++ bts s) (dgR []).length (([] ++ bts s : List Int).length : Nat) x) (fun j => (dgR [] ++ bts s).length - 64 * j) 0 (Nat.zero_le _) ?_ ?_
    · unfold dgI dgC
      refine sub0 rfl rfl ?_
      simp only [tmSub, hpSub, objSub, eqTm, eqHp, rn, lk, SV.ren, SV.renC, SV.renB, SV.renA, ren_ints, ren_strs, ren_pl, ren_svs, SV.v.injEq, Value.int.injEq, Body.ints.injEq, SV.ptr.injEq, SV.sl.injEq, Value.string.injEq, Value.bool.injEq, List.map_cons, List.map_nil, forall_const, Nat.reduceLT, Nat.lt_add_one, imp_self, true_and, and_true, and_self, ob_some, get_mk, lk_cons, ↓reduceIte, Nat.reduceEqDiff, ne_eq, not_true_eq_false, not_false_eq_true, Nat.one_ne_zero, Nat.zero_ne_one, Nat.succ_ne_self, Nat.reduceAdd, Bool.false_eq_true, false_implies, implies_true, reduceCtorEq]
      refine ⟨by omega, ?_⟩
      first
        | rw [hw]; rfl
        | (rw [show IntKind.i64.wrap ((((0 : Nat) : Int)) + (s.size : Int)) = ((([] ++ bts s : List Int).length : Nat) : Int) from hw]; rfl)
    · intro j hj
      have hWl : (Wf iv (dgR [] ++ bts s) j).length = 8 := Wf_len rfl j
      unfold dgI
      simp -implicitDefEqProofs only [go_sem, ↓reduceIte, Nat.reduceEqDiff, Nat.reduceAdd, Nat.reduceMul, Nat.reduceLT, Nat.reduceLeDiff, Nat.reduceSub, Int.reduceToNat, Int.reduceLE, Int.reduceLT, reduceCtorEq, Int.reduceEq, Int.reduceGT, Int.reduceGE, Int.reduceNeg]
      refine condK_bb (fun c1 => ?_) (fun c1 => ?_)
      · simp -implicitDefEqProofs only [go_sem, ↓reduceIte, Nat.reduceEqDiff, Nat.reduceAdd, Nat.reduceMul, Nat.reduceLT, Nat.reduceLeDiff, Nat.reduceSub, Int.reduceToNat, Int.reduceLE, Int.reduceLT, reduceCtorEq, Int.reduceEq, Int.reduceGT, Int.reduceGE, Int.reduceNeg, c1]
        simp only [decide_eq_true_eq] at c1
        refine ⟨by omega, at_call t30 (s30 rfl rfl rfl hWl rfl (by omega) (by decide)) ?_⟩
        simp -implicitDefEqProofs only [go_sem, ↓reduceIte, Nat.reduceEqDiff, Nat.reduceAdd, Nat.reduceMul, Nat.reduceLT, Nat.reduceLeDiff, Nat.reduceSub, Int.reduceToNat, Int.reduceLE, Int.reduceLT, reduceCtorEq, Int.reduceEq, Int.reduceGT, Int.reduceGE, Int.reduceNeg]
        refine ⟨by omega, kLoop_mk (j + 1) (by omega) (by first | omega | (simp only; omega)) (sub0 rfl rfl ?_)⟩
        simp only [tmSub, hpSub, objSub, eqTm, eqHp, rn, lk, SV.ren, SV.renC, SV.renB, SV.renA, ren_ints, ren_strs, ren_pl, ren_svs, SV.v.injEq, Value.int.injEq, Body.ints.injEq, SV.ptr.injEq, SV.sl.injEq, Value.string.injEq, Value.bool.injEq, List.map_cons, List.map_nil, forall_const, Nat.reduceLT, Nat.lt_add_one, imp_self, true_and, and_true, and_self, ob_some, get_mk, lk_cons, ↓reduceIte, Nat.reduceEqDiff, ne_eq, not_true_eq_false, not_false_eq_true, Nat.one_ne_zero, Nat.zero_ne_one, Nat.succ_ne_self, Nat.reduceAdd, Bool.false_eq_true, false_implies, implies_true, reduceCtorEq]
        exact ⟨⟨by omega, by omega⟩, rfl⟩
      · simp -implicitDefEqProofs only [go_sem, ↓reduceIte, Nat.reduceEqDiff, Nat.reduceAdd, Nat.reduceMul, Nat.reduceLT, Nat.reduceLeDiff, Nat.reduceSub, Int.reduceToNat, Int.reduceLE, Int.reduceLT, reduceCtorEq, Int.reduceEq, Int.reduceGT, Int.reduceGE, Int.reduceNeg, c1]
        simp only [decide_eq_false_iff_not] at c1
        obtain rfl : j = (dgR [] ++ bts s).length / 64 := by omega
        have e3 : List.take ((dgR [] ++ bts s).length - 64 * ((dgR [] ++ bts s).length / 64)) (List.drop (64 * ((dgR [] ++ bts s).length / 64)) (dgR [] ++ bts s)) = dgR ([] ++ bts s) := by
          rw [e2]; exact List.take_of_length_le (by rw [← e2, List.length_drop]; exact Nat.le_refl _)
        have e4 : (dgR [] ++ bts s).length - 64 * ((dgR [] ++ bts s).length / 64) = (dgR ([] ++ bts s)).length := by rw [← e2, List.length_drop]
        refine ⟨by omega, by omega, by omega, (by decide : 9 < 11), ?_⟩
        rw [e3, e4, e1]
        refine sub_mk [(3, 6)] rfl rfl rfl ?_
        simp only [tmSub, hpSub, objSub, eqTm, eqHp, rn, lk, SV.ren, SV.renC, SV.renB, SV.renA, ren_ints, ren_strs, ren_pl, ren_svs, SV.v.injEq, Value.int.injEq, Body.ints.injEq, SV.ptr.injEq, SV.sl.injEq, Value.string.injEq, Value.bool.injEq, List.map_cons, List.map_nil, forall_const, Nat.reduceLT, Nat.lt_add_one, imp_self, true_and, and_true, and_self, ob_some, get_mk, lk_cons, ↓reduceIte, Nat.reduceEqDiff, ne_eq, not_true_eq_false, not_false_eq_true, Nat.one_ne_zero, Nat.zero_ne_one, Nat.succ_ne_self, Nat.reduceAdd, Bool.false_eq_true, false_implies, implies_true, reduceCtorEq]
        first | exact ⟨rfl, rfl⟩ | rfl
  · simp -implicitDefEqProofs only [go_sem, ↓reduceIte, Nat.reduceEqDiff, Nat.reduceAdd, Nat.reduceMul, Nat.reduceLT, Nat.reduceLeDiff, Nat.reduceSub, Int.reduceToNat, Int.reduceLE, Int.reduceLT, reduceCtorEq, Int.reduceEq, Int.reduceGT, Int.reduceGE, Int.reduceNeg]
    refine ⟨by omega, ?_⟩
    refine at_call t29 (s29 (by decide)) ?_
    simp -implicitDefEqProofs only [go_sem, ↓reduceIte, Nat.reduceEqDiff, Nat.reduceAdd, Nat.reduceMul, Nat.reduceLT, Nat.reduceLeDiff, Nat.reduceSub, Int.reduceToNat, Int.reduceLE, Int.reduceLT, reduceCtorEq, Int.reduceEq, Int.reduceGT, Int.reduceGE, Int.reduceNeg]
    refine loop_fam (fun j : Nat => 64 * j ≤ (dgR bs ++ bts s).length) (dgI (Hs bs (bs.length / 64)) (dgR bs ++ bts s) (dgR bs).length ((bs ++ bts s : List Int).length : Nat) x) (fun j => (dgR bs ++ bts s).length - 64 * j) 0 (Nat.zero_le _) ?_ ?_
    · unfold dgI dgC
      refine sub0 rfl rfl ?_
      simp only [tmSub, hpSub, objSub, eqTm, eqHp, rn, lk, SV.ren, SV.renC, SV.renB, SV.renA, ren_ints, ren_strs, ren_pl, ren_svs, SV.v.injEq, Value.int.injEq, Body.ints.injEq, SV.ptr.injEq, SV.sl.injEq, Value.string.injEq, Value.bool.injEq, List.map_cons, List.map_nil, forall_const, Nat.reduceLT, Nat.lt_add_one, imp_self, true_and, and_true, and_self, ob_some, get_mk, lk_cons, ↓reduceIte, Nat.reduceEqDiff, ne_eq, not_true_eq_false, not_false_eq_true, Nat.one_ne_zero, Nat.zero_ne_one, Nat.succ_ne_self, Nat.reduceAdd, Bool.false_eq_true, false_implies, implies_true, reduceCtorEq]
      refine ⟨by omega, ?_⟩
      first
        | rw [hw]; rfl
        | (rw [show IntKind.i64.wrap ((((0 : Nat) : Int)) + (s.size : Int)) = ((([] ++ bts s : List Int).length : Nat) : Int) from hw]; rfl)
    · intro j hj
      have hWl : (Wf (Hs bs (bs.length / 64)) (dgR bs ++ bts s) j).length = 8 := Wf_len (Hs_len _ _) j
      unfold dgI
      simp -implicitDefEqProofs only [go_sem, ↓reduceIte, Nat.reduceEqDiff, Nat.reduceAdd, Nat.reduceMul, Nat.reduceLT, Nat.reduceLeDiff, Nat.reduceSub, Int.reduceToNat, Int.reduceLE, Int.reduceLT, reduceCtorEq, Int.reduceEq, Int.reduceGT, Int.reduceGE, Int.reduceNeg]
      refine condK_bb (fun c1 => ?_) (fun c1 => ?_)
      · simp -implicitDefEqProofs only [go_sem, ↓reduceIte, Nat.reduceEqDiff, Nat.reduceAdd, Nat.reduceMul, Nat.reduceLT, Nat.reduceLeDiff, Nat.reduceSub, Int.reduceToNat, Int.reduceLE, Int.reduceLT, reduceCtorEq, Int.reduceEq, Int.reduceGT, Int.reduceGE, Int.reduceNeg, c1]
        simp only [decide_eq_true_eq] at c1
        refine ⟨by omega, at_call t30 (s30 rfl rfl rfl hWl rfl (by omega) (by decide)) ?_⟩
        simp -implicitDefEqProofs only [go_sem, ↓reduceIte, Nat.reduceEqDiff, Nat.reduceAdd, Nat.reduceMul, Nat.reduceLT, Nat.reduceLeDiff, Nat.reduceSub, Int.reduceToNat, Int.reduceLE, Int.reduceLT, reduceCtorEq, Int.reduceEq, Int.reduceGT, Int.reduceGE, Int.reduceNeg]
        refine ⟨by omega, kLoop_mk (j + 1) (by omega) (by first | omega | (simp only; omega)) (sub0 rfl rfl ?_)⟩
        simp only [tmSub, hpSub, objSub, eqTm, eqHp, rn, lk, SV.ren, SV.renC, SV.renB, SV.renA, ren_ints, ren_strs, ren_pl, ren_svs, SV.v.injEq, Value.int.injEq, Body.ints.injEq, SV.ptr.injEq, SV.sl.injEq, Value.string.injEq, Value.bool.injEq, List.map_cons, List.map_nil, forall_const, Nat.reduceLT, Nat.lt_add_one, imp_self, true_and, and_true, and_self, ob_some, get_mk, lk_cons, ↓reduceIte, Nat.reduceEqDiff, ne_eq, not_true_eq_false, not_false_eq_true, Nat.one_ne_zero, Nat.zero_ne_one, Nat.succ_ne_self, Nat.reduceAdd, Bool.false_eq_true, false_implies, implies_true, reduceCtorEq]
        exact ⟨⟨by omega, by omega⟩, rfl⟩
      · simp -implicitDefEqProofs only [go_sem, ↓reduceIte, Nat.reduceEqDiff, Nat.reduceAdd, Nat.reduceMul, Nat.reduceLT, Nat.reduceLeDiff, Nat.reduceSub, Int.reduceToNat, Int.reduceLE, Int.reduceLT, reduceCtorEq, Int.reduceEq, Int.reduceGT, Int.reduceGE, Int.reduceNeg, c1]
        simp only [decide_eq_false_iff_not] at c1
        obtain rfl : j = (dgR bs ++ bts s).length / 64 := by omega
        have e3 : List.take ((dgR bs ++ bts s).length - 64 * ((dgR bs ++ bts s).length / 64)) (List.drop (64 * ((dgR bs ++ bts s).length / 64)) (dgR bs ++ bts s)) = dgR (bs ++ bts s) := by
          rw [e2]; exact List.take_of_length_le (by rw [← e2, List.length_drop]; exact Nat.le_refl _)
        have e4 : (dgR bs ++ bts s).length - 64 * ((dgR bs ++ bts s).length / 64) = (dgR (bs ++ bts s)).length := by rw [← e2, List.length_drop]
        refine ⟨by omega, by omega, by omega, (by decide : 9 < 11), ?_⟩
        rw [e3, e4, e1]
        refine sub_mk [(3, 6)] rfl rfl rfl ?_
        simp only [tmSub, hpSub, objSub, eqTm, eqHp, rn, lk, SV.ren, SV.renC, SV.renB, SV.renA, ren_ints, ren_strs, ren_pl, ren_svs, SV.v.injEq, Value.int.injEq, Body.ints.injEq, SV.ptr.injEq, SV.sl.injEq, Value.string.injEq, Value.bool.injEq, List.map_cons, List.map_nil, forall_const, Nat.reduceLT, Nat.lt_add_one, imp_self, true_and, and_true, and_self, ob_some, get_mk, lk_cons, ↓reduceIte, Nat.reduceEqDiff, ne_eq, not_true_eq_false, not_false_eq_true, Nat.one_ne_zero, Nat.zero_ne_one, Nat.succ_ne_self, Nat.reduceAdd, Bool.false_eq_true, false_implies, implies_true, reduceCtorEq]
        first | exact ⟨rfl, rfl⟩ | rfl
structure DgAt (H : Hp) (bg : Bool) (bs : List Int) (i r : Nat) : Prop where
  gi : ∃ w, H.get i = some ⟨w, dgB bg bs r⟩
  gr : ∃ w, H.get r = some ⟨w, .ints .u8 (dgR bs)⟩
  ne : (0 < i ∧ 0 < r) ∧ (i < 1000 ∧ r < 1000) ∧ i ≠ r
  ok : bg = false → bs = []
theorem subWr {π : List (Nat × Nat)} {j i : Nat} {o : SO} (hr : rn π j = i) (hi : 0 < i) (h1 : i < 1000) {b : Body} (hg : H.get i = some ⟨true, b⟩) (hb : b = o.b.ren π) : objSub π H j o := by
  unfold objSub
  rw [hr, if_neg (by omega), hg]
  exact ⟨fun _ => h1, fun _ => rfl, hb⟩
theorem subRo {π : List (Nat × Nat)} {j i : Nat} {b0 : Body} (hr : rn π j = i) (hi : 0 < i) {s : SO} (hg : H.get i = some s) (hb : s.b = b0.ren π) : objSub π H j ⟨false, b0⟩ := by
  unfold objSub
  rw [hr, if_neg (by omega), hg]
  exact ⟨fun h => (by cases h), fun h => (by cases h), hb⟩
theorem adS {bg : Bool} {bs : List Int} {s : ByteArray} {i r : Nat} (gi : H.get i = some ⟨true, dgB bg bs r⟩) (gr : H.get r = some ⟨true, .ints .u8 (dgR bs)⟩) (ne : (0 < i ∧ 0 < r) ∧ (i < 1000 ∧ r < 1000) ∧ i ≠ r) (hb : bg = false → bs = []) (hl : bs.length + s.size ≤ 1099511627776) (hn : n < 1000) :
    SpecAt Try.prog 19 [.ptr i 0, .v (.string s)] H n (.tup []) ⟨(i, some ⟨true, dgB true (bs ++ bts s) n⟩) :: (r, none) :: (n, some ⟨true, .ints .u8 (dgR (bs ++ bts s))⟩) :: H.l, H.x⟩ (n + 1) := by
  obtain ⟨⟨p1, p2⟩, ⟨q1, q2⟩, n1⟩ := ne
  have := lift (n := n) (ok1v.spec t19 (w19 (x := H.x) hb hl)) [(1, i), (2, r)] rfl rfl rfl (by omega) rfl rfl
    ⟨subWr rfl p1 q1 gi rfl, subWr rfl p2 q2 gr rfl, trivial⟩ (by simp [apartB, apart1, rn, lk, n1, Ne.symm n1]) (by simp [wrNZ, rn, lk]; try omega) (by omega)
  exact this
theorem adN {s : ByteArray} : SpecAt Try.prog 19 [.v (.pointer none), .v (.string s)] H n (.tup []) H n := ok1v.pure t19 (by
  unfold m19
  simp -implicitDefEqProofs only [↓fnVC, initTm]
  simp -implicitDefEqProofs only [go_sem, ↓reduceIte, Nat.reduceEqDiff, Nat.reduceAdd, Nat.reduceMul, Nat.reduceLT, Nat.reduceLeDiff, Nat.reduceSub, Int.reduceToNat, Int.reduceLE, Int.reduceLT, reduceCtorEq, Int.reduceEq, Int.reduceGT, Int.reduceGE, Int.reduceNeg])
theorem w18 : fnVC C1v m18 [] ⟨[], x⟩ 1 fun v H' n' => Sub 1 ⟨[(0, .ptr 1 0)], ⟨[(1, some ⟨true, dgB false [] 2⟩), (2, some ⟨true, .ints .u8 []⟩)], x⟩, 3⟩ ⟨[(0, v)], H', n'⟩ := by
  unfold m18 dgB dgC
  simp -implicitDefEqProofs only [↓fnVC, initTm]
  simp -implicitDefEqProofs only [go_sem, ↓reduceIte, Nat.reduceEqDiff, Nat.reduceAdd, Nat.reduceMul, Nat.reduceLT, Nat.reduceLeDiff, Nat.reduceSub, Int.reduceToNat, Int.reduceLE, Int.reduceLT, reduceCtorEq, Int.reduceEq, Int.reduceGT, Int.reduceGE, Int.reduceNeg]
  refine sub_mk [(2, 0)] rfl rfl rfl ?_
  simp only [tmSub, hpSub, objSub, eqTm, eqHp, rn, lk, SV.ren, SV.renC, SV.renB, SV.renA, ren_ints, ren_strs, ren_pl, ren_svs, SV.v.injEq, Value.int.injEq, Body.ints.injEq, SV.ptr.injEq, SV.sl.injEq, Value.string.injEq, Value.bool.injEq, List.map_cons, List.map_nil, forall_const, Nat.reduceLT, Nat.lt_add_one, imp_self, true_and, and_true, and_self, ob_some, get_mk, lk_cons, ↓reduceIte, Nat.reduceEqDiff, ne_eq, not_true_eq_false, not_false_eq_true, Nat.one_ne_zero, Nat.zero_ne_one, Nat.succ_ne_self, Nat.reduceAdd, Bool.false_eq_true, false_implies, implies_true, reduceCtorEq]
  exact ⟨rfl, rfl⟩
theorem nwDg (hn : n + 2 ≤ 1000) : SpecAt Try.prog 18 [] H n (.ptr n 0) ⟨(n, some ⟨true, dgB false [] (n + 1)⟩) :: (n + 1, some ⟨true, .ints .u8 []⟩) :: H.l, H.x⟩ (n + 2) := by
  have := lift (n := n) (ok1v.spec t18 (w18 (x := H.x))) [] rfl rfl rfl (by omega) rfl rfl trivial rfl rfl (by omega)
  exact this
theorem w20 {bg : Bool} {bs : List Int} (hl : bs.length ≤ 1099511627776) : fnVC C1v m20 [.ptr 1 0] ⟨[(1, some ⟨false, dgB bg bs 2⟩), (2, some ⟨false, .ints .u8 (dgR bs)⟩)], x⟩ 3 fun v H' n' => Sub 3 ⟨[(0, .ptr 3 0)], ⟨[(3, some ⟨true, dgB bg bs 4⟩), (4, some ⟨true, .ints .u8 (dgR bs)⟩)], x⟩, 5⟩ ⟨[(0, v)], H', n'⟩ := by
  have hrl := dgR_len bs
  unfold m20 dgB dgC
  simp -implicitDefEqProofs only [↓fnVC, initTm]
  simp -implicitDefEqProofs only [go_sem, ↓reduceIte, Nat.reduceEqDiff, Nat.reduceAdd, Nat.reduceMul, Nat.reduceLT, Nat.reduceLeDiff, Nat.reduceSub, Int.reduceToNat, Int.reduceLE, Int.reduceLT, reduceCtorEq, Int.reduceEq, Int.reduceGT, Int.reduceGE, Int.reduceNeg, splice_zero, List.map_cons, List.map_nil, List.length_cons, List.length_nil, List.drop_succ_cons, List.drop_zero, List.cons_append, List.nil_append, List.set_cons_succ, List.set_cons_zero]
  refine ⟨by omega, by omega, ?_⟩
  refine sub_mk [(4, 5)] rfl rfl rfl ?_
  simp only [tmSub, hpSub, objSub, eqTm, eqHp, rn, lk, SV.ren, SV.renC, SV.renB, SV.renA, ren_ints, ren_strs, ren_pl, ren_svs, SV.v.injEq, Value.int.injEq, Body.ints.injEq, SV.ptr.injEq, SV.sl.injEq, Value.string.injEq, Value.bool.injEq, List.map_cons, List.map_nil, forall_const, Nat.reduceLT, Nat.lt_add_one, imp_self, true_and, and_true, and_self, ob_some, get_mk, lk_cons, ↓reduceIte, Nat.reduceEqDiff, ne_eq, not_true_eq_false, not_false_eq_true, Nat.one_ne_zero, Nat.zero_ne_one, Nat.succ_ne_self, Nat.reduceAdd, Bool.false_eq_true, false_implies, implies_true, reduceCtorEq]
theorem cpDg {bg : Bool} {bs : List Int} {i r : Nat} (h : DgAt H bg bs i r) (hl : bs.length ≤ 1099511627776) (hn : n + 2 ≤ 1000) : SpecAt Try.prog 20 [.ptr i 0] H n (.ptr n 0) ⟨(n, some ⟨true, dgB bg bs (n + 1)⟩) :: (n + 1, some ⟨true, .ints .u8 (dgR bs)⟩) :: H.l, H.x⟩ (n + 2) := by
  obtain ⟨⟨v1, gi⟩, ⟨v2, gr⟩, ⟨⟨p1, p2⟩, ⟨q1, q2⟩, n1⟩, hb⟩ := h
  have := lift (n := n) (ok1v.spec t20 (w20 (x := H.x) (bg := bg) hl)) [(1, i), (2, r)] rfl rfl rfl (by omega) rfl rfl
    ⟨subRo rfl p1 gi rfl, subRo rfl p2 gr rfl, trivial⟩ (by simp [apartB, apart1, rn, lk, n1, Ne.symm n1]) (by simp [wrNZ, rn, lk]; try omega) (by omega)
  exact this
theorem cpN : SpecAt Try.prog 20 [.v (.pointer none)] H n (.v (.pointer none)) H n := ok1v.pure t20 (by
  unfold m20
  simp -implicitDefEqProofs only [↓fnVC, initTm]
  simp -implicitDefEqProofs only [go_sem, ↓reduceIte, Nat.reduceEqDiff, Nat.reduceAdd, Nat.reduceMul, Nat.reduceLT, Nat.reduceLeDiff, Nat.reduceSub, Int.reduceToNat, Int.reduceLE, Int.reduceLT, reduceCtorEq, Int.reduceEq, Int.reduceGT, Int.reduceGE, Int.reduceNeg])
theorem lnDg {bg : Bool} {bs : List Int} {i r : Nat} (h : DgAt H bg bs i r) : SpecAt Try.prog 22 [.ptr i 0] H n (.v (.int .i64 bs.length)) H n := by
  obtain ⟨v1, gi⟩ := h.gi
  exact ok1v.pure t22 (by
    unfold m22
    simp -implicitDefEqProofs only [↓fnVC, initTm]
    simp -implicitDefEqProofs only [go_sem, ↓reduceIte, Nat.reduceEqDiff, Nat.reduceAdd, Nat.reduceMul, Nat.reduceLT, Nat.reduceLeDiff, Nat.reduceSub, Int.reduceToNat, Int.reduceLE, Int.reduceLT, reduceCtorEq, Int.reduceEq, Int.reduceGT, Int.reduceGE, Int.reduceNeg, gi, dgB, dgC])
theorem lnN : SpecAt Try.prog 22 [.v (.pointer none)] H n (.v (.int .i64 0)) H n := ok1v.pure t22 (by
  unfold m22
  simp -implicitDefEqProofs only [↓fnVC, initTm]
  simp -implicitDefEqProofs only [go_sem, ↓reduceIte, Nat.reduceEqDiff, Nat.reduceAdd, Nat.reduceMul, Nat.reduceLT, Nat.reduceLeDiff, Nat.reduceSub, Int.reduceToNat, Int.reduceLE, Int.reduceLT, reduceCtorEq, Int.reduceEq, Int.reduceGT, Int.reduceGE, Int.reduceNeg])
theorem spec_agg {P : Program} {f : Nat} {k : IntKind} {xs : List Int} {v : SV} {H' : Hp} {n' : Nat} (h : SpecAt P f [.ai k xs] H n v H' n') : SpecAt P f [.agg (xs.map fun y => .v (.int k y))] H n v H' n' := by
  intro F w0 w ρ ys hH hz hl
  refine h F w0 w ρ ys hH ?_ rfl
  match ys, hz with
  | [y], ⟨⟨zs, e, hz⟩, _⟩ =>
    refine ⟨?_, trivial⟩
    show y = _
    rw [e]
    congr 2
    have : (xs.map fun y => SV.v (.int k y)) = (xs.map (Value.int k)).map .v := by simp [Function.comp_def]
    rw [this] at hz
    exact all2_v_eq hz
/-- What a sum adds. -/
def padS (bs : List Int) : ByteArray := ⟨#[128]⟩ ++ ⟨(Lib.repeatL [0] (Int.toNat ((119 - (bs.length : Int).tmod 64).tmod 64))).toArray⟩ ++ tx (be8 (IntKind.u64.wrap (IntKind.u64.wrap bs.length * 8)))
theorem bts_app (s t : ByteArray) : bts (s ++ t) = bts s ++ bts t := by
  simp [bts]
theorem bts_tx8 (y : Int) : bts (tx (be8 y)) = be8 y := btx (fun z hz => by
  simp only [be8, List.mem_cons, List.not_mem_nil, or_false] at hz
  rcases hz with h | h | h | h | h | h | h | h <;> (rw [h, wrap_u8]; omega))
theorem repeat0 : ∀ c : Nat, Lib.repeatL [0] c = List.replicate c 0
  | 0 => rfl
  | c + 1 => by simp [Lib.repeatL, repeat0 c, List.replicate_succ]
theorem padS_eq (bs : List Int) : bs ++ bts (padS bs) = pad bs := by
  unfold padS pad
  rw [bts_app, bts_app, bts_tx8, repeat0]
  have : bts ⟨(List.replicate (Int.toNat ((119 - (bs.length : Int).tmod 64).tmod 64)) (0 : UInt8)).toArray⟩ = List.replicate (Int.toNat ((119 - (bs.length : Int).tmod 64).tmod 64)) 0 := by
    simp [bts]
  rw [this]
  show bs ++ ([128] ++ _ ++ _) = _
  simp
theorem w21 {bg : Bool} {bs : List Int} (hb : bg = false → bs = []) (hl : bs.length ≤ 1073741824) : fnVC C1v m21 [.ptr 1 0] ⟨[(1, some ⟨false, dgB bg bs 2⟩), (2, some ⟨false, .ints .u8 (dgR bs)⟩)], x⟩ 3 fun v H' n' => Sub 3 ⟨[(0, .v (.string (sha bs)))], ⟨[], x⟩, 3⟩ ⟨[(0, v)], H', n'⟩ := by
  have ez : (IntKind.i64.wrap (119 - (bs.length : Int).tmod 64)).tmod 64 = ((Int.toNat ((119 - (bs.length : Int).tmod 64).tmod 64) : Nat) : Int) := by
    have e1 : (bs.length : Int).tmod 64 = (bs.length : Int) % 64 := Int.tmod_eq_emod_of_nonneg (by omega)
    rw [e1, wrap_i64 (by omega) (by omega), Int.tmod_eq_emod_of_nonneg (by omega)]; omega
  have hZ : Int.toNat ((119 - (bs.length : Int).tmod 64).tmod 64) ≤ 64 := by
    have e1 : (bs.length : Int).tmod 64 = (bs.length : Int) % 64 := Int.tmod_eq_emod_of_nonneg (by omega)
    rw [e1, Int.tmod_eq_emod_of_nonneg (by omega)]; omega
  unfold m21
  simp -implicitDefEqProofs only [↓fnVC, initTm]
  simp -implicitDefEqProofs only [go_sem, ↓reduceIte, Nat.reduceEqDiff, Nat.reduceAdd, Nat.reduceMul, Nat.reduceLT, Nat.reduceLeDiff, Nat.reduceSub, Int.reduceToNat, Int.reduceLE, Int.reduceLT, reduceCtorEq, Int.reduceEq, Int.reduceGT, Int.reduceGE, Int.reduceNeg]
  refine at_call t20 (cpDg (bg := bg) (bs := bs) (i := 1) (r := 2) ⟨⟨_, rfl⟩, ⟨_, rfl⟩, by decide, hb⟩ (by omega) (by decide)) ?_
  simp -implicitDefEqProofs only [go_sem, ↓reduceIte, Nat.reduceEqDiff, Nat.reduceAdd, Nat.reduceMul, Nat.reduceLT, Nat.reduceLeDiff, Nat.reduceSub, Int.reduceToNat, Int.reduceLE, Int.reduceLT, reduceCtorEq, Int.reduceEq, Int.reduceGT, Int.reduceGE, Int.reduceNeg, dgB, dgC, ez]
  have hz1 : (Lib.repeatL [0] (Int.toNat ((119 - (bs.length : Int).tmod 64).tmod 64))).toArray.size = Int.toNat ((119 - (bs.length : Int).tmod 64).tmod 64) := by
    rw [repeat0]; simp
  have hz2 : ∀ y : Int, (tx (be8 y)).size = 8 := fun y => by rw [tx_sz]; rfl
  have hz3 : (padS bs).size = 1 + Int.toNat ((119 - (bs.length : Int).tmod 64).tmod 64) + 8 := by
    unfold padS
    rw [ByteArray.size_append, ByteArray.size_append, hz2]
    show 1 + (Lib.repeatL [0] (Int.toNat ((119 - (bs.length : Int).tmod 64).tmod 64))).toArray.size + 8 = _
    rw [hz1]
  refine at_ext (enters_mk Try.func31 rfl rfl) (Go.Proofs.repS (by omega) (by show 1 * _ ≤ _; omega)) ?_
  simp -implicitDefEqProofs only [go_sem, ↓reduceIte, Nat.reduceEqDiff, Nat.reduceAdd, Nat.reduceMul, Nat.reduceLT, Nat.reduceLeDiff, Nat.reduceSub, Int.reduceToNat, Int.reduceLE, Int.reduceLT, reduceCtorEq, Int.reduceEq, Int.reduceGT, Int.reduceGE, Int.reduceNeg]
  refine ⟨by show 1 + (Lib.repeatL [0] (Int.toNat ((119 - (bs.length : Int).tmod 64).tmod 64))).toArray.size ≤ _; rw [hz1]; omega, ?_⟩
  simp -implicitDefEqProofs only [go_sem, ↓reduceIte, Nat.reduceEqDiff, Nat.reduceAdd, Nat.reduceMul, Nat.reduceLT, Nat.reduceLeDiff, Nat.reduceSub, Int.reduceToNat, Int.reduceLE, Int.reduceLT, reduceCtorEq, Int.reduceEq, Int.reduceGT, Int.reduceGE, Int.reduceNeg]
  refine ⟨by show 1 + (Lib.repeatL [0] (Int.toNat ((119 - (bs.length : Int).tmod 64).tmod 64))).toArray.size + (tx (be8 _)).size ≤ _; rw [hz1, hz2]; omega, ?_⟩
  refine at_call t19 (adS (bg := bg) (bs := bs) (i := 3) (r := 4) rfl rfl (by decide) hb (by show bs.length + (padS bs).size ≤ _; rw [hz3]; omega) (by decide)) ?_
  simp -implicitDefEqProofs only [go_sem, ↓reduceIte, Nat.reduceEqDiff, Nat.reduceAdd, Nat.reduceMul, Nat.reduceLT, Nat.reduceLeDiff, Nat.reduceSub, Int.reduceToNat, Int.reduceLE, Int.reduceLT, reduceCtorEq, Int.reduceEq, Int.reduceGT, Int.reduceGE, Int.reduceNeg, dgB]
  refine ⟨by show 8 ≤ 11; decide, ?_⟩
  refine at_call t32 (spec_agg (xs := U8 (dgW true (bs ++ bts (padS bs)))) (s32 rfl)) ?_
  simp -implicitDefEqProofs only [go_sem, ↓reduceIte, Nat.reduceEqDiff, Nat.reduceAdd, Nat.reduceMul, Nat.reduceLT, Nat.reduceLeDiff, Nat.reduceSub, Int.reduceToNat, Int.reduceLE, Int.reduceLT, reduceCtorEq, Int.reduceEq, Int.reduceGT, Int.reduceGE, Int.reduceNeg]
  have e : tx (outb (U8 (dgW true (bs ++ bts (padS bs))))) = sha bs := by
    rw [padS_eq, show dgW true (pad bs) = Hs (pad bs) ((pad bs).length / 64) from rfl, U8_of (Hs_len _ _)]; rfl
  rw [e]
  exact sub_val rfl (by decide) (by decide) rfl
theorem w21n : fnVC C1v m21 [.v (.pointer none)] ⟨[], x⟩ 1 fun v H' n' => Sub 1 ⟨[(0, .v (.string (sha [])))], ⟨[], x⟩, 1⟩ ⟨[(0, v)], H', n'⟩ := by
  have ez : (IntKind.i64.wrap (119 - (((0 : Nat) : Int)).tmod 64)).tmod 64 = ((Int.toNat ((119 - (0 : Int).tmod 64).tmod 64) : Nat) : Int) := by decide
  have hZ : Int.toNat ((119 - (0 : Int).tmod 64).tmod 64) ≤ 64 := by decide
  unfold m21
  simp -implicitDefEqProofs only [↓fnVC, initTm]
  simp -implicitDefEqProofs only [go_sem, ↓reduceIte, Nat.reduceEqDiff, Nat.reduceAdd, Nat.reduceMul, Nat.reduceLT, Nat.reduceLeDiff, Nat.reduceSub, Int.reduceToNat, Int.reduceLE, Int.reduceLT, reduceCtorEq, Int.reduceEq, Int.reduceGT, Int.reduceGE, Int.reduceNeg]
  refine at_call t20 cpN ?_
  simp -implicitDefEqProofs only [go_sem, ↓reduceIte, Nat.reduceEqDiff, Nat.reduceAdd, Nat.reduceMul, Nat.reduceLT, Nat.reduceLeDiff, Nat.reduceSub, Int.reduceToNat, Int.reduceLE, Int.reduceLT, reduceCtorEq, Int.reduceEq, Int.reduceGT, Int.reduceGE, Int.reduceNeg]
  refine at_call t18 (nwDg (by decide)) ?_
  simp -implicitDefEqProofs only [go_sem, ↓reduceIte, Nat.reduceEqDiff, Nat.reduceAdd, Nat.reduceMul, Nat.reduceLT, Nat.reduceLeDiff, Nat.reduceSub, Int.reduceToNat, Int.reduceLE, Int.reduceLT, reduceCtorEq, Int.reduceEq, Int.reduceGT, Int.reduceGE, Int.reduceNeg, dgB, dgC, ez]
  have hz1 : (Lib.repeatL [0] (Int.toNat ((119 - (0 : Int).tmod 64).tmod 64))).toArray.size = Int.toNat ((119 - (0 : Int).tmod 64).tmod 64) := by
    rw [repeat0]; simp
  have hz2 : ∀ y : Int, (tx (be8 y)).size = 8 := fun y => by rw [tx_sz]; rfl
  have hz3 : (padS []).size = 1 + Int.toNat ((119 - (0 : Int).tmod 64).tmod 64) + 8 := by
    unfold padS
    rw [ByteArray.size_append, ByteArray.size_append, hz2]
    show 1 + (Lib.repeatL [0] (Int.toNat ((119 - (0 : Int).tmod 64).tmod 64))).toArray.size + 8 = _
    rw [hz1]
  refine at_ext (enters_mk Try.func31 rfl rfl) (Go.Proofs.repS (by omega) (by show 1 * _ ≤ _; omega)) ?_
  simp -implicitDefEqProofs only [go_sem, ↓reduceIte, Nat.reduceEqDiff, Nat.reduceAdd, Nat.reduceMul, Nat.reduceLT, Nat.reduceLeDiff, Nat.reduceSub, Int.reduceToNat, Int.reduceLE, Int.reduceLT, reduceCtorEq, Int.reduceEq, Int.reduceGT, Int.reduceGE, Int.reduceNeg]
  refine ⟨by show 1 + (Lib.repeatL [0] (Int.toNat ((119 - (0 : Int).tmod 64).tmod 64))).toArray.size ≤ _; rw [hz1]; omega, ?_⟩
  simp -implicitDefEqProofs only [go_sem, ↓reduceIte, Nat.reduceEqDiff, Nat.reduceAdd, Nat.reduceMul, Nat.reduceLT, Nat.reduceLeDiff, Nat.reduceSub, Int.reduceToNat, Int.reduceLE, Int.reduceLT, reduceCtorEq, Int.reduceEq, Int.reduceGT, Int.reduceGE, Int.reduceNeg]
  refine ⟨by show 1 + (Lib.repeatL [0] (Int.toNat ((119 - (0 : Int).tmod 64).tmod 64))).toArray.size + (tx (be8 _)).size ≤ _; rw [hz1, hz2]; omega, ?_⟩
  refine at_call t19 (adS (bg := false) (bs := []) (i := 1) (r := 2) rfl rfl (by decide) (fun _ => rfl) (by show 0 + (padS []).size ≤ _; rw [hz3]; omega) (by decide)) ?_
  simp -implicitDefEqProofs only [go_sem, ↓reduceIte, Nat.reduceEqDiff, Nat.reduceAdd, Nat.reduceMul, Nat.reduceLT, Nat.reduceLeDiff, Nat.reduceSub, Int.reduceToNat, Int.reduceLE, Int.reduceLT, reduceCtorEq, Int.reduceEq, Int.reduceGT, Int.reduceGE, Int.reduceNeg, dgB]
  refine ⟨by show 8 ≤ 11; decide, ?_⟩
  refine at_call t32 (spec_agg (xs := U8 (dgW true (bts (padS [])))) (s32 rfl)) ?_
  simp -implicitDefEqProofs only [go_sem, ↓reduceIte, Nat.reduceEqDiff, Nat.reduceAdd, Nat.reduceMul, Nat.reduceLT, Nat.reduceLeDiff, Nat.reduceSub, Int.reduceToNat, Int.reduceLE, Int.reduceLT, reduceCtorEq, Int.reduceEq, Int.reduceGT, Int.reduceGE, Int.reduceNeg]
  have e : tx (outb (U8 (dgW true (bts (padS []))))) = sha [] := by
    rw [show bts (padS []) = pad [] from padS_eq [], show dgW true (pad []) = Hs (pad []) ((pad []).length / 64) from rfl, U8_of (Hs_len _ _)]; rfl
  rw [e]
  exact sub_val rfl (by decide) (by decide) rfl
theorem smDg {bg : Bool} {bs : List Int} {i r : Nat} (h : DgAt H bg bs i r) (hl : bs.length ≤ 1073741824) : SpecAt Try.prog 21 [.ptr i 0] H n (.v (.string (sha bs))) H n := by
  obtain ⟨⟨v1, gi⟩, ⟨v2, gr⟩, ⟨⟨p1, p2⟩, ⟨q1, q2⟩, n1⟩, hb⟩ := h
  have := lift_ro (n := n) (ok1v.spec t21 (w21 (x := H.x) hb hl)) [(1, i), (2, r)] rfl rfl rfl (by omega) rfl rfl
    ⟨subRo rfl p1 gi rfl, subRo rfl p2 gr rfl, trivial⟩ (by simp [apartB, apart1, rn, lk, n1, Ne.symm n1]) (by simp [wrNZ, rn, lk]; try omega) rfl
  exact this
theorem smN : SpecAt Try.prog 21 [.v (.pointer none)] H n (.v (.string (sha []))) H n := lift_pure (ok1v.spec t21 (w21n (x := H.x))) rfl
end Go.Sx
