/- Slots: SlotsPlay. -/
import Derived.Test.YtcgglehgpmehcaaSlotO

set_option linter.unusedVariables false
set_option linter.unusedSimpArgs false
set_option maxHeartbeats 4000000
set_option maxRecDepth 100000
namespace Go.Sx
attribute [local go_sem ↓] bind_mk intsB_mk strsB_mk svB_mk fnVC ob_some vc_skip vc_exit vc_ret vc_seq vc_block kSeq_normal kSeq_exit kSeq_ret kBlock_normal kBlock_exit kBlock_ret vc_reg vc_regD vc_cond condK_true condK_false vc_loop kLoop_exit kLoop_ret kRoll_normal kRoll_exit kRoll_ret vcOps_nil vcOps_cons gd_bool gd_undef put_some put_none vcT_fin vcT_pure vcT_act vcT_acts vcT_stop stab_none stab_some stabM_nil stabM_cons stabO_ld stabO_ldn stabO_slP stabO_b2s fldOf_ai fldOf_agg fldOf_ait fldOf_aggt intsOf_nil intsOf_cons strsOf_nil strsOf_cons c_omap ob_if lk_nil lk_cons ev_t ev_k z_mov z_pick z_bin z_binB z_binP z_un z_r2s z_conv z_s2b z_b2s z_allocT aggOf_mk z_boxT z_alloc z_bld z_bldI z_rowI z_rowS z_ld z_ldn z_st z_stn asN_ptr asN_fn z_nilck z_fld z_fadr z_idxA z_idxP z_idxS z_idxV z_slS z_slL z_slP z_mk z_lenS z_lenL z_app appC_ints appC_pl appC_sv appC_strs isS_strs loose_ints loose_pl loose_sv z_slM z_callv callvK_fn callvK_f callvK_yl vc_rangeF rfEnd_eq rfGo_none rfGo_ret rfGo_exit yGo_mk yEnd_n yEnd_r yEnd_e yRdy_mk yMid_n putPs_nil putPs_cons leaf_v leaf_ptr leaf_sl leaf_yl leaf_mp z_appS z_appST z_appZ z_cpyS z_mkfn reps_int reps_str z_rowV z_slnil nilK_zero z_cpy z_call asT_tup z_extT z_box boxOf_ai boxOf_agg boxOf_int boxOf_str boxOf_bool boxOf_ptr boxOf_sl sbin_int sbin_str sbinB_mk sbinP_nn sbinP_pn sbinP_np i_add i_sub i_mul i_quo i_rem i_and i_or i_xor i_andNot i_shl i_shr i_eql i_neq i_lss i_leq i_gtr i_geq st_add st_eql st_neq st_lss st_leq st_gtr st_geq bo_eql bo_neq pt_eql pt_neq un_neg un_xor un_not asI_mk asB_mk asS_mk asP_mk asSl_mk asBy_mk bnd_none bnd_some get_mk hput_mk hdel_mk kill_eq wrOf_eq rowOf_eq rsvs_0 rsvs_1 rsvs_2 rsvs_3 rsv_t rsv_c1 rsv_cn nt_v nt_ptr nt_sl nt_agg nt_ai get_ints get_strs get_pl get_sv getN_ints getN_sv set_ints set_strs set_sv setN_ints setN_sv part_ints part_strs part_sv cat_ints cat_strs cat_sv over_ints over_strs over_sv ones_ints ones_strs evs_nil evs_cons condK_eqt condK_eqf det_callP V_ns V_nn V_gs V_gn obC_mk fresh_ev freshT_ev freshR_ev setN_plagg setN_intsv setN_svai setN_svagg over_intsv set_pl setN_pl setN_plai getN_pl getN_strs part_pl cat_pl over_pl over_plints z_mm
attribute [local go_sem] initTm ne_eq not_true_eq_false not_false_eq_true true_and and_true List.length_cons List.length_nil Int.toNat_natCast Nat.add_zero Nat.zero_add Nat.mul_one List.getElem?_cons_zero List.drop_zero List.take_length List.take_succ_cons List.take_zero List.take_nil List.drop_succ_cons Option.map_some Nat.le_refl implies_true List.getElem?_cons_succ decide_true decide_false Bool.not_true Bool.not_false beq_self_eq_true Nat.succ_ne_self Nat.one_ne_zero Nat.zero_ne_one vk_mk hk_mk nk_mk tok_eq plsOf_map intsOf_map bodyOf_pl bodyOf_ints bodyOf_strs bodyOf_sv part_aggv part_agg part_ai part_int part_str part_bool part_sl part_ptr part_nil numsOf_map u_int u_str u_bool u_pnil u_sl u_ptr u_oci u_ocs evq_nil evq_cons fillS_nil fillS_cons u_ocb ones_pl cells_sv cells_ints cells_strs cells_pl smms_nil smms_cons smm_min smm_max plsOf_nil List.nil_append List.all_cons List.all_nil Bool.and_self Bool.true_and Bool.and_true zws_len zw_len zi_len List.set_cons_zero List.set_cons_succ List.flatMap_cons List.flatMap_nil List.append_nil
section
open Go.Proofs
variable {H : Hp} {n : Nat} {x : Nat → Option SO} {d d' : Fd} {i a b c : Nat} {u1 u2 u3 : Bool}

theorem lk_out {α : Type} {l : List (Nat × α)} {r : Nat} (h : ∀ e ∈ l, e.1 < 1000) (hr : 1000 ≤ r) : lk l r = none := by
  induction l with
  | nil => rfl
  | cons e l ih =>
    unfold lk
    have := h e (List.mem_cons_self ..)
    rw [if_neg (by omega)]
    exact ih (fun e he => h e (List.mem_cons_of_mem _ he))
def plI (M bs r : Nat) (x : Nat → Option SO) (p : Nat × Fd) : St :=
  ⟨[(7, .v (.int .i64 bs)), (8, .v (.int .i64 r)), (9, .ptr 1 0), (11, .ptr 5 0), (13, .ptr 8 0), (15, .ptr 9 0), (84, .sl 1003 0 M 6), (85, .v (.int .i64 M)), (86, .v (.int .i64 p.1))], ⟨devL p.2 1 2 3 4 (refL p.2 5 6 7 [(8, some ⟨true, slB 1 bs r⟩), (9, some ⟨true, slB 5 bs r⟩)]), x⟩, 10⟩
theorem wPlay {B R : Nat} {ops : List OpV} {m1 : Nat} (hB : B < 256) (hR : R < 256) (h1 : m1 ≤ ops.length) (hrng : ∀ j, j < ops.length → (ops.getD j ⟨0, 0, 0, 0, .empty, [], 0⟩).rng) (hz : ∀ j, j < ops.length → (ops.getD j ⟨0, 0, 0, 0, .empty, [], 0⟩).m ≤ (ops.getD j ⟨0, 0, 0, 0, .empty, [], 0⟩).zs.length)
    (hx1 : x 1003 = some ⟨false, .sv (orow 0 0 ops)⟩) (hx2 : ∀ j, j < ops.length → x (1000 + 4 * j + 0) = some ⟨false, .ints .i64 (ops.getD j ⟨0, 0, 0, 0, .empty, [], 0⟩).zs⟩) :
    fnVC CT mSlotsPlay [.v (.int .u8 B), .v (.int .u8 R), .sl 1003 0 m1 6] ⟨[], x⟩ 1 fun v H' n' => Sub 1 ⟨[(0, .v (.bool true))], ⟨[], x⟩, 1⟩ ⟨[(0, v)], H', n'⟩ := by
  have q1 : min (m1 : Int) 100 = ((min m1 100 : Nat) : Int) := by omega
  have rl1 := orow_len (A := 0) (l := ops) (j := 0)
  have ra1 := fun j (hj : j < ops.length) => orow_at (A := 0) (o0 := ⟨0, 0, 0, 0, .empty, [], 0⟩) (l := ops) (j0 := 0) hj
  generalize hr1 : orow 0 0 ops = r1 at rl1 ra1 hx1
  obtain ⟨bs, hbs, hb4⟩ : ∃ bs : Nat, bs = B % 5 ∧ bs ≤ 4 := ⟨_, rfl, by omega⟩
  obtain ⟨r, hr, hr0, hr12⟩ : ∃ r : Nat, r = 1 + R % 12 ∧ 1 ≤ r ∧ r ≤ 12 := ⟨_, rfl, by omega, by omega⟩
  have k1 : IntKind.i64.wrap ((B : Int).tmod 5) = (bs : Nat) := by rw [Int.tmod_eq_emod_of_nonneg (by omega), wrap_i64 (by omega) (by omega), hbs]; rfl
  have k2 : IntKind.i64.wrap (R : Int) = R := wrap_i64 (by omega) (by omega)
  have k3 : IntKind.i64.wrap (1 + (R : Int).tmod 12) = (r : Nat) := by rw [Int.tmod_eq_emod_of_nonneg (by omega), wrap_i64 (by omega) (by omega), hr]; omega
  have k4 : IntKind.i64.wrap (1 + (r : Int)) = 1 + r := wrap_i64 (by omega) (by omega)
  have k5 : IntKind.i64.wrap (2 * (1 + (r : Int))) = 2 * (1 + r) := wrap_i64 (by omega) (by omega)
  have k6 : IntKind.i64.wrap ((bs : Int) + 2 * (1 + (r : Int))) = ((bs + 2 * (1 + r) : Nat) : Int) := by rw [wrap_i64 (by omega) (by omega)]; omega
  unfold mSlotsPlay
  simp -implicitDefEqProofs only [↓fnVC, initTm]
  simp -implicitDefEqProofs only [go_sem, ↓reduceIte, Nat.reduceEqDiff, Nat.reduceAdd, Nat.reduceMul, Nat.reduceLT, Nat.reduceLeDiff, Nat.reduceSub, Int.reduceToNat, Int.reduceLE, Int.reduceLT, reduceCtorEq, Int.reduceEq, Int.reduceGT, Int.reduceGE, Int.reduceNeg]
  refine at_call tkeeps22 (keepsS (by decide)) ?_
  simp -implicitDefEqProofs only [go_sem, ↓reduceIte, Nat.reduceEqDiff, Nat.reduceAdd, Nat.reduceMul, Nat.reduceLT, Nat.reduceLeDiff, Nat.reduceSub, Int.reduceToNat, Int.reduceLE, Int.reduceLT, reduceCtorEq, Int.reduceEq, Int.reduceGT, Int.reduceGE, Int.reduceNeg, k1, k2, k3, k4, k5, k6]
  obtain ⟨m, hm⟩ : ∃ m : Nat, bs + 2 * (1 + r) = m := ⟨_, rfl⟩
  have hm1 : 1 ≤ m ∧ m ≤ 4096 := by omega
  rw [hm] at k6
  rw [hm]
  refine at_call tFNew (nwD (k := m) hm1.1 hm1.2 (by decide)) ?_
  simp -implicitDefEqProofs only [go_sem, ↓reduceIte, Nat.reduceEqDiff, Nat.reduceAdd, Nat.reduceMul, Nat.reduceLT, Nat.reduceLeDiff, Nat.reduceSub, Int.reduceToNat, Int.reduceLE, Int.reduceLT, reduceCtorEq, Int.reduceEq, Int.reduceGT, Int.reduceGE, Int.reduceNeg, k1, k2, k3, k4, k5, k6, devL_eq, List.isEmpty_cons, Bool.false_eq_true, if_false]
  refine at_call trFNew (rnwG (k := m) hm1.1 hm1.2 (by decide)) ?_
  simp -implicitDefEqProofs only [go_sem, ↓reduceIte, Nat.reduceEqDiff, Nat.reduceAdd, Nat.reduceMul, Nat.reduceLT, Nat.reduceLeDiff, Nat.reduceSub, Int.reduceToNat, Int.reduceLE, Int.reduceLT, reduceCtorEq, Int.reduceEq, Int.reduceGT, Int.reduceGE, Int.reduceNeg, refL_eq, List.isEmpty_cons, Bool.false_eq_true, if_false]
  have hop : opP m bs r := by unfold opP; omega
  have hlen : (newD m).seen.length = m := by simp [newD]
  refine at_call tSOpen (openS (i := 1) (a := 2) (b := 3) (c := 4) (d := newD m) (bs := bs) (r := r) ⟨by rfl, by rfl, by rfl, by rfl, by decide⟩ (by omega) (by rw [hlen]; exact hop) rfl (by decide)) ?_
  simp -implicitDefEqProofs only [go_sem, ↓reduceIte, Nat.reduceEqDiff, Nat.reduceAdd, Nat.reduceMul, Nat.reduceLT, Nat.reduceLeDiff, Nat.reduceSub, Int.reduceToNat, Int.reduceLE, Int.reduceLT, reduceCtorEq, Int.reduceEq, Int.reduceGT, Int.reduceGE, Int.reduceNeg, devL_eq, List.isEmpty_cons, Bool.false_eq_true, if_false]
  refine at_call trSOpen (ropenS (i := 5) (a := 6) (b := 7) (d := newD m) (bs := bs) (r := r) ⟨by rfl, by rfl, by rfl, by decide⟩ (by omega) (by rw [hlen]; exact hop) rfl (by decide)) ?_
  simp -implicitDefEqProofs only [go_sem, ↓reduceIte, Nat.reduceEqDiff, Nat.reduceAdd, Nat.reduceMul, Nat.reduceLT, Nat.reduceLeDiff, Nat.reduceSub, Int.reduceToNat, Int.reduceLE, Int.reduceLT, reduceCtorEq, Int.reduceEq, Int.reduceGT, Int.reduceGE, Int.reduceNeg, refL_eq, q1, List.isEmpty_cons, Bool.false_eq_true, if_false]
  generalize hM1 : min m1 100 = M1
  refine ⟨by omega, ?_⟩
  refine loop_fam (fun (p : Nat × Fd) => p.1 ≤ M1 ∧ Pl p.2 m (200 * p.1)) (plI M1 bs r x) (fun p => M1 - p.1) (0, newD m) ⟨by omega, Pl.new hm1.2⟩ ?_ ?_
  · unfold plI devL refL
    refine sub_mk [] rfl rfl rfl ?_
    simp only [tmSub, hpSub, objSub, eqTm, eqHp, rn, lk, SV.ren, SV.renC, SV.renB, SV.renA, ren_ints, ren_strs, ren_pl, ren_svs, SV.v.injEq, Value.int.injEq, Body.ints.injEq, SV.ptr.injEq, SV.sl.injEq, Value.string.injEq, Value.bool.injEq, List.map_cons, List.map_nil, forall_const, Nat.reduceLT, Nat.lt_add_one, imp_self, true_and, and_true, and_self, ob_some, get_mk, lk_cons, ↓reduceIte, Nat.reduceEqDiff, ne_eq, not_true_eq_false, not_false_eq_true, Nat.one_ne_zero, Nat.zero_ne_one, Nat.succ_ne_self, Nat.reduceAdd, Bool.false_eq_true, false_implies, implies_true, reduceCtorEq, Nat.sub_zero, slB]
    repeat' (first | rfl | apply And.intro)
  · rintro ⟨t, d⟩ ⟨ht, hP⟩
    simp only at ht hP
    unfold plI
    simp -implicitDefEqProofs only [go_sem, ↓reduceIte, Nat.reduceEqDiff, Nat.reduceAdd, Nat.reduceMul, Nat.reduceLT, Nat.reduceLeDiff, Nat.reduceSub, Int.reduceToNat, Int.reduceLE, Int.reduceLT, reduceCtorEq, Int.reduceEq, Int.reduceGT, Int.reduceGE, Int.reduceNeg, devL_eq, refL_eq]
    refine condK_bb (fun e1 => ?_) (fun e1 => ?_)
    · have c1 : t < M1 := by simp only [decide_eq_true_eq] at e1; omega
      have hra := ra1 t (by omega)
      have hrg := hrng t (by omega)
      have hmm := hz t (by omega)
      have hx := hx2 t (by omega)
      generalize ops.getD t ⟨0, 0, 0, 0, .empty, [], 0⟩ = o at hra hrg hmm hx
      rw [Nat.zero_add] at hra
      generalize hrid : 1000 + 4 * t + 0 = rid at hra hx
      have hw : IntKind.i64.wrap ((t : Int) + 1) = ((t + 1 : Nat) : Int) := by rw [wrap_i64 (by omega) (by omega)]; omega
      obtain ⟨q, hq7, hqu⟩ : ∃ q : Int, (0 ≤ q ∧ q < 7) ∧ o.u.tmod 7 = q := ⟨o.u % 7, ⟨by omega, by omega⟩, by rw [Int.tmod_eq_emod_of_nonneg hrg.1.1]⟩
      simp -implicitDefEqProofs only [go_sem, ↓reduceIte, Nat.reduceEqDiff, Nat.reduceAdd, Nat.reduceMul, Nat.reduceLT, Nat.reduceLeDiff, Nat.reduceSub, Int.reduceToNat, Int.reduceLE, Int.reduceLT, reduceCtorEq, Int.reduceEq, Int.reduceGT, Int.reduceGE, Int.reduceNeg, hx1, hra, ocell, splice_zero]
      refine ⟨by omega, by omega, ?_⟩
      have hge : 1000 ≤ rid := by omega
      have hrow : ∀ l : List (Nat × Option SO), (∀ e ∈ l, e.1 < 1000) → rowAt ⟨l, x⟩ rid (.ints .i64 []) = some (.ints .i64 o.zs) := fun l hl => by
        unfold rowAt Hp.get
        rw [lk_out hl hge]
        simp only [hx]
        rw [if_neg (by omega)]; rfl
      have hPl : 1 ≤ m := hm1.1
      have hml : d.seen.length = m := hP.len
      simp -implicitDefEqProofs only [go_sem, ↓reduceIte, Nat.reduceEqDiff, Nat.reduceAdd, Nat.reduceMul, Nat.reduceLT, Nat.reduceLeDiff, Nat.reduceSub, Int.reduceToNat, Int.reduceLE, Int.reduceLT, reduceCtorEq, Int.reduceEq, Int.reduceGT, Int.reduceGE, Int.reduceNeg, hqu, splice_zero]
      by_cases g2 : q = 2
      · subst g2
        have cc : decide ((2 : Int) = 2) = true := rfl
        obtain ⟨d2, ed2⟩ : ∃ d2, d = d2 := ⟨_, rfl⟩
        subst ed2
        have hP2 : Pl d m (200 * t + 150) := hP.mono (by omega)
        generalize hs : srT bs r o.k d = RR
        have sq : seq RR.2.1 RR.2.1 = true := seq_self _
        simp -implicitDefEqProofs only [go_sem, ↓reduceIte, Nat.reduceEqDiff, Nat.reduceAdd, Nat.reduceMul, Nat.reduceLT, Nat.reduceLeDiff, Nat.reduceSub, Int.reduceToNat, Int.reduceLE, Int.reduceLT, reduceCtorEq, Int.reduceEq, Int.reduceGT, Int.reduceGE, Int.reduceNeg, cc]
        refine at_call tSRead (sreadS (q := 8) (i := 1) (a := 2) (b := 3) (c := 4) (d := d) (bs := bs) (r := r) (slot := o.k) (by omega) (by omega) (by rfl) ⟨by rfl, by rfl, by rfl, by rfl, by decide⟩ (by decide) hP.ok (by omega) hs) ?_
        unfold rV
        simp -implicitDefEqProofs only [go_sem, ↓reduceIte, Nat.reduceEqDiff, Nat.reduceAdd, Nat.reduceMul, Nat.reduceLT, Nat.reduceLeDiff, Nat.reduceSub, Int.reduceToNat, Int.reduceLE, Int.reduceLT, reduceCtorEq, Int.reduceEq, Int.reduceGT, Int.reduceGE, Int.reduceNeg, List.isEmpty_cons, Bool.false_eq_true, if_false]
        refine at_call trSRead (rsreadS (q := 9) (i := 5) (a := 6) (b := 7) (d := d) (bs := bs) (r := r) (slot := o.k) (u1 := true) (u2 := true) (u3 := true) (by omega) (by omega) (by rfl) ⟨by rfl, by rfl, by rfl, by decide⟩ (by decide) hP.ok hP.sn (by omega) hs) ?_
        unfold rV
        simp -implicitDefEqProofs only [go_sem, ↓reduceIte, Nat.reduceEqDiff, Nat.reduceAdd, Nat.reduceMul, Nat.reduceLT, Nat.reduceLeDiff, Nat.reduceSub, Int.reduceToNat, Int.reduceLE, Int.reduceLT, reduceCtorEq, Int.reduceEq, Int.reduceGT, Int.reduceGE, Int.reduceNeg, sq, List.isEmpty_cons, Bool.false_eq_true, if_false]
        simp -implicitDefEqProofs only [go_sem, ↓reduceIte, Nat.reduceEqDiff, Nat.reduceAdd, Nat.reduceMul, Nat.reduceLT, Nat.reduceLeDiff, Nat.reduceSub, Int.reduceToNat, Int.reduceLE, Int.reduceLT, reduceCtorEq, Int.reduceEq, Int.reduceGT, Int.reduceGE, Int.reduceNeg, refB, List.isEmpty_cons, Bool.false_eq_true, if_false]
        refine at_call tFSteps (stS (d := d) (i := 1) (a := 2) (b := 3) (c := 4) (by rfl)) ?_
        simp -implicitDefEqProofs only [go_sem, ↓reduceIte, Nat.reduceEqDiff, Nat.reduceAdd, Nat.reduceMul, Nat.reduceLT, Nat.reduceLeDiff, Nat.reduceSub, Int.reduceToNat, Int.reduceLE, Int.reduceLT, reduceCtorEq, Int.reduceEq, Int.reduceGT, Int.reduceGE, Int.reduceNeg, hw, refB, List.isEmpty_cons, Bool.false_eq_true, if_false]
        refine loop_roll 3 ?_
        rw [LoopU_succ]
        simp -implicitDefEqProofs only [go_sem, ↓reduceIte, Nat.reduceEqDiff, Nat.reduceAdd, Nat.reduceMul, Nat.reduceLT, Nat.reduceLeDiff, Nat.reduceSub, Int.reduceToNat, Int.reduceLE, Int.reduceLT, reduceCtorEq, Int.reduceEq, Int.reduceGT, Int.reduceGE, Int.reduceNeg]
        generalize hs0 : srT bs r 0 d = R0
        generalize hs1 : srT bs r 1 d = R1
        have sq0 : seq R0.2.1 R0.2.1 = true := seq_self _
        have sq1 : seq R1.2.1 R1.2.1 = true := seq_self _
        refine at_call tSRead (sreadS (q := 8) (i := 1) (a := 2) (b := 3) (c := 4) (d := d) (bs := bs) (r := r) (slot := 0) (by omega) (by omega) (by rfl) ⟨by rfl, by rfl, by rfl, by rfl, by decide⟩ (by decide) hP2.ok (by rw [hP2.len]; omega) hs0) ?_
        unfold rV
        simp -implicitDefEqProofs only [go_sem, ↓reduceIte, Nat.reduceEqDiff, Nat.reduceAdd, Nat.reduceMul, Nat.reduceLT, Nat.reduceLeDiff, Nat.reduceSub, Int.reduceToNat, Int.reduceLE, Int.reduceLT, reduceCtorEq, Int.reduceEq, Int.reduceGT, Int.reduceGE, Int.reduceNeg, List.isEmpty_cons, Bool.false_eq_true, if_false]
        refine at_call trSRead (rsreadS (q := 9) (i := 5) (a := 6) (b := 7) (d := d) (bs := bs) (r := r) (slot := 0) (u1 := true) (u2 := true) (u3 := true) (by omega) (by omega) (by rfl) ⟨by rfl, by rfl, by rfl, by decide⟩ (by decide) hP2.ok hP2.sn (by rw [hP2.len]; omega) hs0) ?_
        unfold rV
        have z1 : IntKind.i64.wrap (0 + 1) = 1 := rfl
        have z2 : IntKind.i64.wrap (1 + 1) = 2 := rfl
        simp -implicitDefEqProofs only [go_sem, ↓reduceIte, Nat.reduceEqDiff, Nat.reduceAdd, Nat.reduceMul, Nat.reduceLT, Nat.reduceLeDiff, Nat.reduceSub, Int.reduceToNat, Int.reduceLE, Int.reduceLT, reduceCtorEq, Int.reduceEq, Int.reduceGT, Int.reduceGE, Int.reduceNeg, sq0, z1, List.isEmpty_cons, Bool.false_eq_true, if_false]
        rw [LoopU_succ]
        simp -implicitDefEqProofs only [go_sem, ↓reduceIte, Nat.reduceEqDiff, Nat.reduceAdd, Nat.reduceMul, Nat.reduceLT, Nat.reduceLeDiff, Nat.reduceSub, Int.reduceToNat, Int.reduceLE, Int.reduceLT, reduceCtorEq, Int.reduceEq, Int.reduceGT, Int.reduceGE, Int.reduceNeg]
        refine at_call tSRead (sreadS (q := 8) (i := 1) (a := 2) (b := 3) (c := 4) (d := d) (bs := bs) (r := r) (slot := 1) (by omega) (by omega) (by rfl) ⟨by rfl, by rfl, by rfl, by rfl, by decide⟩ (by decide) hP2.ok (by rw [hP2.len]; omega) hs1) ?_
        unfold rV
        simp -implicitDefEqProofs only [go_sem, ↓reduceIte, Nat.reduceEqDiff, Nat.reduceAdd, Nat.reduceMul, Nat.reduceLT, Nat.reduceLeDiff, Nat.reduceSub, Int.reduceToNat, Int.reduceLE, Int.reduceLT, reduceCtorEq, Int.reduceEq, Int.reduceGT, Int.reduceGE, Int.reduceNeg, List.isEmpty_cons, Bool.false_eq_true, if_false]
        refine at_call trSRead (rsreadS (q := 9) (i := 5) (a := 6) (b := 7) (d := d) (bs := bs) (r := r) (slot := 1) (u1 := true) (u2 := true) (u3 := true) (by omega) (by omega) (by rfl) ⟨by rfl, by rfl, by rfl, by decide⟩ (by decide) hP2.ok hP2.sn (by rw [hP2.len]; omega) hs1) ?_
        unfold rV
        simp -implicitDefEqProofs only [go_sem, ↓reduceIte, Nat.reduceEqDiff, Nat.reduceAdd, Nat.reduceMul, Nat.reduceLT, Nat.reduceLeDiff, Nat.reduceSub, Int.reduceToNat, Int.reduceLE, Int.reduceLT, reduceCtorEq, Int.reduceEq, Int.reduceGT, Int.reduceGE, Int.reduceNeg, sq1, z2, List.isEmpty_cons, Bool.false_eq_true, if_false]
        rw [LoopU_succ]
        simp -implicitDefEqProofs only [go_sem, ↓reduceIte, Nat.reduceEqDiff, Nat.reduceAdd, Nat.reduceMul, Nat.reduceLT, Nat.reduceLeDiff, Nat.reduceSub, Int.reduceToNat, Int.reduceLE, Int.reduceLT, reduceCtorEq, Int.reduceEq, Int.reduceGT, Int.reduceGE, Int.reduceNeg, hw]
        refine kLoop_mk (t + 1, d) ⟨by simp only; omega, hP2.mono (by simp only; omega)⟩ (by simp only; omega) ?_
        unfold devL refL
        refine sub_mk [] rfl rfl rfl ?_
        simp only [tmSub, hpSub, objSub, eqTm, eqHp, rn, lk, SV.ren, SV.renC, SV.renB, SV.renA, ren_ints, ren_strs, ren_pl, ren_svs, SV.v.injEq, Value.int.injEq, Body.ints.injEq, SV.ptr.injEq, SV.sl.injEq, Value.string.injEq, Value.bool.injEq, List.map_cons, List.map_nil, forall_const, Nat.reduceLT, Nat.lt_add_one, imp_self, true_and, and_true, and_self, ob_some, get_mk, lk_cons, ↓reduceIte, Nat.reduceEqDiff, ne_eq, not_true_eq_false, not_false_eq_true, Nat.one_ne_zero, Nat.zero_ne_one, Nat.succ_ne_self, Nat.reduceAdd, Bool.false_eq_true, false_implies, implies_true, reduceCtorEq, refB, slB]
        repeat' (first | rfl | apply And.intro)
      have f2 : decide (q = 2) = false := decide_eq_false g2
      by_cases g3 : q = 3
      · subst g3
        have cc : decide ((3 : Int) = 3) = true := rfl
        generalize hd2 : wrT d o.a o.s = DD
        have hP2 := (wrT_pl (k := o.a) (s := o.s) hP (by omega)).mono (u := 200 * t + 150) (by omega)
        rw [hd2] at hP2
        obtain ⟨E2, d2⟩ := DD
        simp only at hP2
        simp -implicitDefEqProofs only [go_sem, ↓reduceIte, Nat.reduceEqDiff, Nat.reduceAdd, Nat.reduceMul, Nat.reduceLT, Nat.reduceLeDiff, Nat.reduceSub, Int.reduceToNat, Int.reduceLE, Int.reduceLT, reduceCtorEq, Int.reduceEq, Int.reduceGT, Int.reduceGE, Int.reduceNeg, hqu, cc, f2]
        refine at_call tFWrite (wrTS (i := 1) (a := 2) (b := 3) (c := 4) (d := d) (m := m) (t := 200 * t) ⟨by rfl, by rfl, by rfl, by rfl, by decide⟩ hP (by omega) (by decide) hd2) ?_
        simp -implicitDefEqProofs only [go_sem, ↓reduceIte, Nat.reduceEqDiff, Nat.reduceAdd, Nat.reduceMul, Nat.reduceLT, Nat.reduceLeDiff, Nat.reduceSub, Int.reduceToNat, Int.reduceLE, Int.reduceLT, reduceCtorEq, Int.reduceEq, Int.reduceGT, Int.reduceGE, Int.reduceNeg, List.isEmpty_cons, Bool.false_eq_true, if_false]
        refine at_call trFWrite (rwrTS (i := 5) (a := 6) (b := 7) (d := d) (m := m) (t := 200 * t) ⟨by rfl, by rfl, by rfl, by decide⟩ hP (by omega) (by decide) hd2) ?_
        simp -implicitDefEqProofs only [go_sem, ↓reduceIte, Nat.reduceEqDiff, Nat.reduceAdd, Nat.reduceMul, Nat.reduceLT, Nat.reduceLeDiff, Nat.reduceSub, Int.reduceToNat, Int.reduceLE, Int.reduceLT, reduceCtorEq, Int.reduceEq, Int.reduceGT, Int.reduceGE, Int.reduceNeg, List.isEmpty_cons, Bool.false_eq_true, if_false]
        simp -implicitDefEqProofs only [go_sem, ↓reduceIte, Nat.reduceEqDiff, Nat.reduceAdd, Nat.reduceMul, Nat.reduceLT, Nat.reduceLeDiff, Nat.reduceSub, Int.reduceToNat, Int.reduceLE, Int.reduceLT, reduceCtorEq, Int.reduceEq, Int.reduceGT, Int.reduceGE, Int.reduceNeg, refB, List.isEmpty_cons, Bool.false_eq_true, if_false]
        refine at_call tFSteps (stS (d := d2) (i := 1) (a := 11) (b := 12) (c := 13) (by rfl)) ?_
        simp -implicitDefEqProofs only [go_sem, ↓reduceIte, Nat.reduceEqDiff, Nat.reduceAdd, Nat.reduceMul, Nat.reduceLT, Nat.reduceLeDiff, Nat.reduceSub, Int.reduceToNat, Int.reduceLE, Int.reduceLT, reduceCtorEq, Int.reduceEq, Int.reduceGT, Int.reduceGE, Int.reduceNeg, hw, refB, List.isEmpty_cons, Bool.false_eq_true, if_false]
        refine loop_roll 3 ?_
        rw [LoopU_succ]
        simp -implicitDefEqProofs only [go_sem, ↓reduceIte, Nat.reduceEqDiff, Nat.reduceAdd, Nat.reduceMul, Nat.reduceLT, Nat.reduceLeDiff, Nat.reduceSub, Int.reduceToNat, Int.reduceLE, Int.reduceLT, reduceCtorEq, Int.reduceEq, Int.reduceGT, Int.reduceGE, Int.reduceNeg]
        generalize hs0 : srT bs r 0 d2 = R0
        generalize hs1 : srT bs r 1 d2 = R1
        have sq0 : seq R0.2.1 R0.2.1 = true := seq_self _
        have sq1 : seq R1.2.1 R1.2.1 = true := seq_self _
        refine at_call tSRead (sreadS (q := 8) (i := 1) (a := 11) (b := 12) (c := 13) (d := d2) (bs := bs) (r := r) (slot := 0) (by omega) (by omega) (by rfl) ⟨by rfl, by rfl, by rfl, by rfl, by decide⟩ (by decide) hP2.ok (by rw [hP2.len]; omega) hs0) ?_
        unfold rV
        simp -implicitDefEqProofs only [go_sem, ↓reduceIte, Nat.reduceEqDiff, Nat.reduceAdd, Nat.reduceMul, Nat.reduceLT, Nat.reduceLeDiff, Nat.reduceSub, Int.reduceToNat, Int.reduceLE, Int.reduceLT, reduceCtorEq, Int.reduceEq, Int.reduceGT, Int.reduceGE, Int.reduceNeg, List.isEmpty_cons, Bool.false_eq_true, if_false]
        refine at_call trSRead (rsreadS (q := 9) (i := 5) (a := 14) (b := 15) (d := d2) (bs := bs) (r := r) (slot := 0) (u1 := true) (u2 := true) (u3 := true) (by omega) (by omega) (by rfl) ⟨by rfl, by rfl, by rfl, by decide⟩ (by decide) hP2.ok hP2.sn (by rw [hP2.len]; omega) hs0) ?_
        unfold rV
        have z1 : IntKind.i64.wrap (0 + 1) = 1 := rfl
        have z2 : IntKind.i64.wrap (1 + 1) = 2 := rfl
        simp -implicitDefEqProofs only [go_sem, ↓reduceIte, Nat.reduceEqDiff, Nat.reduceAdd, Nat.reduceMul, Nat.reduceLT, Nat.reduceLeDiff, Nat.reduceSub, Int.reduceToNat, Int.reduceLE, Int.reduceLT, reduceCtorEq, Int.reduceEq, Int.reduceGT, Int.reduceGE, Int.reduceNeg, sq0, z1, List.isEmpty_cons, Bool.false_eq_true, if_false]
        rw [LoopU_succ]
        simp -implicitDefEqProofs only [go_sem, ↓reduceIte, Nat.reduceEqDiff, Nat.reduceAdd, Nat.reduceMul, Nat.reduceLT, Nat.reduceLeDiff, Nat.reduceSub, Int.reduceToNat, Int.reduceLE, Int.reduceLT, reduceCtorEq, Int.reduceEq, Int.reduceGT, Int.reduceGE, Int.reduceNeg]
        refine at_call tSRead (sreadS (q := 8) (i := 1) (a := 11) (b := 12) (c := 13) (d := d2) (bs := bs) (r := r) (slot := 1) (by omega) (by omega) (by rfl) ⟨by rfl, by rfl, by rfl, by rfl, by decide⟩ (by decide) hP2.ok (by rw [hP2.len]; omega) hs1) ?_
        unfold rV
        simp -implicitDefEqProofs only [go_sem, ↓reduceIte, Nat.reduceEqDiff, Nat.reduceAdd, Nat.reduceMul, Nat.reduceLT, Nat.reduceLeDiff, Nat.reduceSub, Int.reduceToNat, Int.reduceLE, Int.reduceLT, reduceCtorEq, Int.reduceEq, Int.reduceGT, Int.reduceGE, Int.reduceNeg, List.isEmpty_cons, Bool.false_eq_true, if_false]
        refine at_call trSRead (rsreadS (q := 9) (i := 5) (a := 14) (b := 15) (d := d2) (bs := bs) (r := r) (slot := 1) (u1 := true) (u2 := true) (u3 := true) (by omega) (by omega) (by rfl) ⟨by rfl, by rfl, by rfl, by decide⟩ (by decide) hP2.ok hP2.sn (by rw [hP2.len]; omega) hs1) ?_
        unfold rV
        simp -implicitDefEqProofs only [go_sem, ↓reduceIte, Nat.reduceEqDiff, Nat.reduceAdd, Nat.reduceMul, Nat.reduceLT, Nat.reduceLeDiff, Nat.reduceSub, Int.reduceToNat, Int.reduceLE, Int.reduceLT, reduceCtorEq, Int.reduceEq, Int.reduceGT, Int.reduceGE, Int.reduceNeg, sq1, z2, List.isEmpty_cons, Bool.false_eq_true, if_false]
        rw [LoopU_succ]
        simp -implicitDefEqProofs only [go_sem, ↓reduceIte, Nat.reduceEqDiff, Nat.reduceAdd, Nat.reduceMul, Nat.reduceLT, Nat.reduceLeDiff, Nat.reduceSub, Int.reduceToNat, Int.reduceLE, Int.reduceLT, reduceCtorEq, Int.reduceEq, Int.reduceGT, Int.reduceGE, Int.reduceNeg, hw]
        refine kLoop_mk (t + 1, d2) ⟨by simp only; omega, hP2.mono (by simp only; omega)⟩ (by simp only; omega) ?_
        unfold devL refL
        refine sub_mk [(2, 11), (3, 12), (4, 13), (6, 14), (7, 15)] rfl rfl rfl ?_
        simp only [tmSub, hpSub, objSub, eqTm, eqHp, rn, lk, SV.ren, SV.renC, SV.renB, SV.renA, ren_ints, ren_strs, ren_pl, ren_svs, SV.v.injEq, Value.int.injEq, Body.ints.injEq, SV.ptr.injEq, SV.sl.injEq, Value.string.injEq, Value.bool.injEq, List.map_cons, List.map_nil, forall_const, Nat.reduceLT, Nat.lt_add_one, imp_self, true_and, and_true, and_self, ob_some, get_mk, lk_cons, ↓reduceIte, Nat.reduceEqDiff, ne_eq, not_true_eq_false, not_false_eq_true, Nat.one_ne_zero, Nat.zero_ne_one, Nat.succ_ne_self, Nat.reduceAdd, Bool.false_eq_true, false_implies, implies_true, reduceCtorEq, refB, slB]
        repeat' (first | rfl | apply And.intro)
      have f3 : decide (q = 3) = false := decide_eq_false g3
      by_cases g4 : q = 4
      · subst g4
        have cc : decide ((4 : Int) = 4) = true := rfl
        obtain ⟨d2, ed2⟩ : ∃ d2, { d with fa := max o.a 0 } = d2 := ⟨_, rfl⟩
        have hP2 : Pl d2 m (200 * t + 150) := (ed2 ▸ hP.fall hrg.2.2.2.2 : Pl d2 m (200 * t + 1)).mono (by omega)
        have z1 : d2.seen = d.seen := by rw [← ed2]
        have z2 : d2.safe = d.safe := by rw [← ed2]
        have z3 : d2.pend = d.pend := by rw [← ed2]
        simp -implicitDefEqProofs only [go_sem, ↓reduceIte, Nat.reduceEqDiff, Nat.reduceAdd, Nat.reduceMul, Nat.reduceLT, Nat.reduceLeDiff, Nat.reduceSub, Int.reduceToNat, Int.reduceLE, Int.reduceLT, reduceCtorEq, Int.reduceEq, Int.reduceGT, Int.reduceGE, Int.reduceNeg, hqu, cc, f2, f3]
        refine at_call tFFall (faG (d := d) (d' := d2) (i := 1) (a := 2) (b := 3) (c := 4) ⟨by rfl, by rfl, by rfl, by rfl, by decide⟩ ed2) ?_
        simp -implicitDefEqProofs only [go_sem, ↓reduceIte, Nat.reduceEqDiff, Nat.reduceAdd, Nat.reduceMul, Nat.reduceLT, Nat.reduceLeDiff, Nat.reduceSub, Int.reduceToNat, Int.reduceLE, Int.reduceLT, reduceCtorEq, Int.reduceEq, Int.reduceGT, Int.reduceGE, Int.reduceNeg, List.isEmpty_cons, Bool.false_eq_true, if_false]
        refine at_call trFFall (rfaG (d := d) (d' := d2) (i := 5) (a := 6) (b := 7) ⟨by rfl, by rfl, by rfl, by decide⟩ ed2) ?_
        simp -implicitDefEqProofs only [go_sem, ↓reduceIte, Nat.reduceEqDiff, Nat.reduceAdd, Nat.reduceMul, Nat.reduceLT, Nat.reduceLeDiff, Nat.reduceSub, Int.reduceToNat, Int.reduceLE, Int.reduceLT, reduceCtorEq, Int.reduceEq, Int.reduceGT, Int.reduceGE, Int.reduceNeg, List.isEmpty_cons, Bool.false_eq_true, if_false]
        simp -implicitDefEqProofs only [go_sem, ↓reduceIte, Nat.reduceEqDiff, Nat.reduceAdd, Nat.reduceMul, Nat.reduceLT, Nat.reduceLeDiff, Nat.reduceSub, Int.reduceToNat, Int.reduceLE, Int.reduceLT, reduceCtorEq, Int.reduceEq, Int.reduceGT, Int.reduceGE, Int.reduceNeg, refB, List.isEmpty_cons, Bool.false_eq_true, if_false]
        refine at_call tFSteps (stS (d := d2) (i := 1) (a := 2) (b := 3) (c := 4) (by rfl)) ?_
        simp -implicitDefEqProofs only [go_sem, ↓reduceIte, Nat.reduceEqDiff, Nat.reduceAdd, Nat.reduceMul, Nat.reduceLT, Nat.reduceLeDiff, Nat.reduceSub, Int.reduceToNat, Int.reduceLE, Int.reduceLT, reduceCtorEq, Int.reduceEq, Int.reduceGT, Int.reduceGE, Int.reduceNeg, hw, refB, List.isEmpty_cons, Bool.false_eq_true, if_false]
        refine loop_roll 3 ?_
        rw [LoopU_succ]
        simp -implicitDefEqProofs only [go_sem, ↓reduceIte, Nat.reduceEqDiff, Nat.reduceAdd, Nat.reduceMul, Nat.reduceLT, Nat.reduceLeDiff, Nat.reduceSub, Int.reduceToNat, Int.reduceLE, Int.reduceLT, reduceCtorEq, Int.reduceEq, Int.reduceGT, Int.reduceGE, Int.reduceNeg]
        generalize hs0 : srT bs r 0 d2 = R0
        generalize hs1 : srT bs r 1 d2 = R1
        have sq0 : seq R0.2.1 R0.2.1 = true := seq_self _
        have sq1 : seq R1.2.1 R1.2.1 = true := seq_self _
        refine at_call tSRead (sreadS (q := 8) (i := 1) (a := 2) (b := 3) (c := 4) (d := d2) (bs := bs) (r := r) (slot := 0) (by omega) (by omega) (by rfl) ⟨by rfl, by rw [z1]; rfl, by rw [z2]; rfl, by rw [z3]; rfl, by decide⟩ (by decide) hP2.ok (by rw [hP2.len]; omega) hs0) ?_
        unfold rV
        simp -implicitDefEqProofs only [go_sem, ↓reduceIte, Nat.reduceEqDiff, Nat.reduceAdd, Nat.reduceMul, Nat.reduceLT, Nat.reduceLeDiff, Nat.reduceSub, Int.reduceToNat, Int.reduceLE, Int.reduceLT, reduceCtorEq, Int.reduceEq, Int.reduceGT, Int.reduceGE, Int.reduceNeg, List.isEmpty_cons, Bool.false_eq_true, if_false]
        refine at_call trSRead (rsreadS (q := 9) (i := 5) (a := 6) (b := 7) (d := d2) (bs := bs) (r := r) (slot := 0) (u1 := true) (u2 := true) (u3 := true) (by omega) (by omega) (by rfl) ⟨by rfl, by rw [z2]; rfl, by rw [z3]; rfl, by decide⟩ (by decide) hP2.ok hP2.sn (by rw [hP2.len]; omega) hs0) ?_
        unfold rV
        have y1 : IntKind.i64.wrap (0 + 1) = 1 := rfl
        have y2 : IntKind.i64.wrap (1 + 1) = 2 := rfl
        simp -implicitDefEqProofs only [go_sem, ↓reduceIte, Nat.reduceEqDiff, Nat.reduceAdd, Nat.reduceMul, Nat.reduceLT, Nat.reduceLeDiff, Nat.reduceSub, Int.reduceToNat, Int.reduceLE, Int.reduceLT, reduceCtorEq, Int.reduceEq, Int.reduceGT, Int.reduceGE, Int.reduceNeg, sq0, y1, List.isEmpty_cons, Bool.false_eq_true, if_false]
        rw [LoopU_succ]
        simp -implicitDefEqProofs only [go_sem, ↓reduceIte, Nat.reduceEqDiff, Nat.reduceAdd, Nat.reduceMul, Nat.reduceLT, Nat.reduceLeDiff, Nat.reduceSub, Int.reduceToNat, Int.reduceLE, Int.reduceLT, reduceCtorEq, Int.reduceEq, Int.reduceGT, Int.reduceGE, Int.reduceNeg]
        refine at_call tSRead (sreadS (q := 8) (i := 1) (a := 2) (b := 3) (c := 4) (d := d2) (bs := bs) (r := r) (slot := 1) (by omega) (by omega) (by rfl) ⟨by rfl, by rw [z1]; rfl, by rw [z2]; rfl, by rw [z3]; rfl, by decide⟩ (by decide) hP2.ok (by rw [hP2.len]; omega) hs1) ?_
        unfold rV
        simp -implicitDefEqProofs only [go_sem, ↓reduceIte, Nat.reduceEqDiff, Nat.reduceAdd, Nat.reduceMul, Nat.reduceLT, Nat.reduceLeDiff, Nat.reduceSub, Int.reduceToNat, Int.reduceLE, Int.reduceLT, reduceCtorEq, Int.reduceEq, Int.reduceGT, Int.reduceGE, Int.reduceNeg, List.isEmpty_cons, Bool.false_eq_true, if_false]
        refine at_call trSRead (rsreadS (q := 9) (i := 5) (a := 6) (b := 7) (d := d2) (bs := bs) (r := r) (slot := 1) (u1 := true) (u2 := true) (u3 := true) (by omega) (by omega) (by rfl) ⟨by rfl, by rw [z2]; rfl, by rw [z3]; rfl, by decide⟩ (by decide) hP2.ok hP2.sn (by rw [hP2.len]; omega) hs1) ?_
        unfold rV
        simp -implicitDefEqProofs only [go_sem, ↓reduceIte, Nat.reduceEqDiff, Nat.reduceAdd, Nat.reduceMul, Nat.reduceLT, Nat.reduceLeDiff, Nat.reduceSub, Int.reduceToNat, Int.reduceLE, Int.reduceLT, reduceCtorEq, Int.reduceEq, Int.reduceGT, Int.reduceGE, Int.reduceNeg, sq1, y2, List.isEmpty_cons, Bool.false_eq_true, if_false]
        rw [LoopU_succ]
        simp -implicitDefEqProofs only [go_sem, ↓reduceIte, Nat.reduceEqDiff, Nat.reduceAdd, Nat.reduceMul, Nat.reduceLT, Nat.reduceLeDiff, Nat.reduceSub, Int.reduceToNat, Int.reduceLE, Int.reduceLT, reduceCtorEq, Int.reduceEq, Int.reduceGT, Int.reduceGE, Int.reduceNeg, hw]
        refine kLoop_mk (t + 1, d2) ⟨by simp only; omega, hP2.mono (by simp only; omega)⟩ (by simp only; omega) ?_
        unfold devL refL
        refine sub_mk [] rfl rfl rfl ?_
        simp only [tmSub, hpSub, objSub, eqTm, eqHp, rn, lk, SV.ren, SV.renC, SV.renB, SV.renA, ren_ints, ren_strs, ren_pl, ren_svs, SV.v.injEq, Value.int.injEq, Body.ints.injEq, SV.ptr.injEq, SV.sl.injEq, Value.string.injEq, Value.bool.injEq, List.map_cons, List.map_nil, forall_const, Nat.reduceLT, Nat.lt_add_one, imp_self, true_and, and_true, and_self, ob_some, get_mk, lk_cons, ↓reduceIte, Nat.reduceEqDiff, ne_eq, not_true_eq_false, not_false_eq_true, Nat.one_ne_zero, Nat.zero_ne_one, Nat.succ_ne_self, Nat.reduceAdd, Bool.false_eq_true, false_implies, implies_true, reduceCtorEq, refB, slB]
        (repeat' (first | rfl | (rw [z1] <;> rfl) | (rw [z2] <;> rfl) | (rw [z3] <;> rfl) | apply And.intro))
      have f4 : decide (q = 4) = false := decide_eq_false g4
      by_cases g5 : q = 5
      · subst g5
        have cc : decide ((5 : Int) = 5) = true := rfl
        obtain ⟨d2, ed2⟩ : ∃ d2, crD d ((o.zs.drop 0).take o.m) = d2 := ⟨_, rfl⟩
        have hP2 : Pl d2 m (200 * t + 150) := (ed2 ▸ hP.cr : Pl d2 m (200 * t + 1)).mono (by omega)
        have ho2 : d2.off = false := by rw [← ed2]; rfl
        simp -implicitDefEqProofs only [go_sem, ↓reduceIte, Nat.reduceEqDiff, Nat.reduceAdd, Nat.reduceMul, Nat.reduceLT, Nat.reduceLeDiff, Nat.reduceSub, Int.reduceToNat, Int.reduceLE, Int.reduceLT, reduceCtorEq, Int.reduceEq, Int.reduceGT, Int.reduceGE, Int.reduceNeg, hqu, cc, f2, f3, f4]
        refine at_call tFCrash (crW (d := d) (d' := d2) (i := 1) (a := 2) (b := 3) (c := 4) (r := rid) (o := 0) (m := o.m) (row := o.zs) ⟨by rfl, by rfl, by rfl, by rfl, by decide⟩ hP.ok (by omega) (by omega) (hrow _ (by simp)) (by omega) (by decide) ed2) ?_
        simp -implicitDefEqProofs only [go_sem, ↓reduceIte, Nat.reduceEqDiff, Nat.reduceAdd, Nat.reduceMul, Nat.reduceLT, Nat.reduceLeDiff, Nat.reduceSub, Int.reduceToNat, Int.reduceLE, Int.reduceLT, reduceCtorEq, Int.reduceEq, Int.reduceGT, Int.reduceGE, Int.reduceNeg, List.isEmpty_cons, Bool.false_eq_true, if_false]
        refine at_call trFCrash (rcrG (d := d) (d' := d2) (i := 5) (a := 6) (b := 7) (r := rid) (o := 0) (m := o.m) (row := o.zs) ⟨by rfl, by rfl, by rfl, by decide⟩ hP.ok (by omega) (hrow _ (by simp)) (by omega) (by decide) ed2) ?_
        simp -implicitDefEqProofs only [go_sem, ↓reduceIte, Nat.reduceEqDiff, Nat.reduceAdd, Nat.reduceMul, Nat.reduceLT, Nat.reduceLeDiff, Nat.reduceSub, Int.reduceToNat, Int.reduceLE, Int.reduceLT, reduceCtorEq, Int.reduceEq, Int.reduceGT, Int.reduceGE, Int.reduceNeg, refL_eq, List.isEmpty_cons, Bool.false_eq_true, if_false]
        refine at_call tSOpen (openS (i := 1) (a := 11) (b := 3) (c := 12) (d := d2) (bs := bs) (r := r) ⟨by rfl, by rfl, by rfl, by rfl, by decide⟩ (by rw [hP2.len]; omega) (by rw [hP2.len]; exact hop) ho2 (by decide)) ?_
        simp -implicitDefEqProofs only [go_sem, ↓reduceIte, Nat.reduceEqDiff, Nat.reduceAdd, Nat.reduceMul, Nat.reduceLT, Nat.reduceLeDiff, Nat.reduceSub, Int.reduceToNat, Int.reduceLE, Int.reduceLT, reduceCtorEq, Int.reduceEq, Int.reduceGT, Int.reduceGE, Int.reduceNeg, devL_eq, List.isEmpty_cons, Bool.false_eq_true, if_false]
        refine at_call trSOpen (ropenS (i := 5) (a := 13) (b := 14) (d := d2) (bs := bs) (r := r) ⟨by rfl, by rfl, by rfl, by decide⟩ (by rw [hP2.len]; omega) (by rw [hP2.len]; exact hop) ho2 (by decide)) ?_
        simp -implicitDefEqProofs only [go_sem, ↓reduceIte, Nat.reduceEqDiff, Nat.reduceAdd, Nat.reduceMul, Nat.reduceLT, Nat.reduceLeDiff, Nat.reduceSub, Int.reduceToNat, Int.reduceLE, Int.reduceLT, reduceCtorEq, Int.reduceEq, Int.reduceGT, Int.reduceGE, Int.reduceNeg, refL_eq, List.isEmpty_cons, Bool.false_eq_true, if_false]
        simp -implicitDefEqProofs only [go_sem, ↓reduceIte, Nat.reduceEqDiff, Nat.reduceAdd, Nat.reduceMul, Nat.reduceLT, Nat.reduceLeDiff, Nat.reduceSub, Int.reduceToNat, Int.reduceLE, Int.reduceLT, reduceCtorEq, Int.reduceEq, Int.reduceGT, Int.reduceGE, Int.reduceNeg, refB, List.isEmpty_cons, Bool.false_eq_true, if_false]
        refine at_call tFSteps (stS (d := d2) (i := 1) (a := 11) (b := 3) (c := 12) (by rfl)) ?_
        simp -implicitDefEqProofs only [go_sem, ↓reduceIte, Nat.reduceEqDiff, Nat.reduceAdd, Nat.reduceMul, Nat.reduceLT, Nat.reduceLeDiff, Nat.reduceSub, Int.reduceToNat, Int.reduceLE, Int.reduceLT, reduceCtorEq, Int.reduceEq, Int.reduceGT, Int.reduceGE, Int.reduceNeg, hw, refB, List.isEmpty_cons, Bool.false_eq_true, if_false]
        refine loop_roll 3 ?_
        rw [LoopU_succ]
        simp -implicitDefEqProofs only [go_sem, ↓reduceIte, Nat.reduceEqDiff, Nat.reduceAdd, Nat.reduceMul, Nat.reduceLT, Nat.reduceLeDiff, Nat.reduceSub, Int.reduceToNat, Int.reduceLE, Int.reduceLT, reduceCtorEq, Int.reduceEq, Int.reduceGT, Int.reduceGE, Int.reduceNeg]
        generalize hs0 : srT bs r 0 d2 = R0
        generalize hs1 : srT bs r 1 d2 = R1
        have sq0 : seq R0.2.1 R0.2.1 = true := seq_self _
        have sq1 : seq R1.2.1 R1.2.1 = true := seq_self _
        refine at_call tSRead (sreadS (q := 15) (i := 1) (a := 11) (b := 3) (c := 12) (d := d2) (bs := bs) (r := r) (slot := 0) (by omega) (by omega) (by rfl) ⟨by rfl, by rfl, by rfl, by rfl, by decide⟩ (by decide) hP2.ok (by rw [hP2.len]; omega) hs0) ?_
        unfold rV
        simp -implicitDefEqProofs only [go_sem, ↓reduceIte, Nat.reduceEqDiff, Nat.reduceAdd, Nat.reduceMul, Nat.reduceLT, Nat.reduceLeDiff, Nat.reduceSub, Int.reduceToNat, Int.reduceLE, Int.reduceLT, reduceCtorEq, Int.reduceEq, Int.reduceGT, Int.reduceGE, Int.reduceNeg, List.isEmpty_cons, Bool.false_eq_true, if_false]
        refine at_call trSRead (rsreadS (q := 16) (i := 5) (a := 13) (b := 14) (d := d2) (bs := bs) (r := r) (slot := 0) (u1 := true) (u2 := true) (u3 := true) (by omega) (by omega) (by rfl) ⟨by rfl, by rfl, by rfl, by decide⟩ (by decide) hP2.ok hP2.sn (by rw [hP2.len]; omega) hs0) ?_
        unfold rV
        have z1 : IntKind.i64.wrap (0 + 1) = 1 := rfl
        have z2 : IntKind.i64.wrap (1 + 1) = 2 := rfl
        simp -implicitDefEqProofs only [go_sem, ↓reduceIte, Nat.reduceEqDiff, Nat.reduceAdd, Nat.reduceMul, Nat.reduceLT, Nat.reduceLeDiff, Nat.reduceSub, Int.reduceToNat, Int.reduceLE, Int.reduceLT, reduceCtorEq, Int.reduceEq, Int.reduceGT, Int.reduceGE, Int.reduceNeg, sq0, z1, List.isEmpty_cons, Bool.false_eq_true, if_false]
        rw [LoopU_succ]
        simp -implicitDefEqProofs only [go_sem, ↓reduceIte, Nat.reduceEqDiff, Nat.reduceAdd, Nat.reduceMul, Nat.reduceLT, Nat.reduceLeDiff, Nat.reduceSub, Int.reduceToNat, Int.reduceLE, Int.reduceLT, reduceCtorEq, Int.reduceEq, Int.reduceGT, Int.reduceGE, Int.reduceNeg]
        refine at_call tSRead (sreadS (q := 15) (i := 1) (a := 11) (b := 3) (c := 12) (d := d2) (bs := bs) (r := r) (slot := 1) (by omega) (by omega) (by rfl) ⟨by rfl, by rfl, by rfl, by rfl, by decide⟩ (by decide) hP2.ok (by rw [hP2.len]; omega) hs1) ?_
        unfold rV
        simp -implicitDefEqProofs only [go_sem, ↓reduceIte, Nat.reduceEqDiff, Nat.reduceAdd, Nat.reduceMul, Nat.reduceLT, Nat.reduceLeDiff, Nat.reduceSub, Int.reduceToNat, Int.reduceLE, Int.reduceLT, reduceCtorEq, Int.reduceEq, Int.reduceGT, Int.reduceGE, Int.reduceNeg, List.isEmpty_cons, Bool.false_eq_true, if_false]
        refine at_call trSRead (rsreadS (q := 16) (i := 5) (a := 13) (b := 14) (d := d2) (bs := bs) (r := r) (slot := 1) (u1 := true) (u2 := true) (u3 := true) (by omega) (by omega) (by rfl) ⟨by rfl, by rfl, by rfl, by decide⟩ (by decide) hP2.ok hP2.sn (by rw [hP2.len]; omega) hs1) ?_
        unfold rV
        simp -implicitDefEqProofs only [go_sem, ↓reduceIte, Nat.reduceEqDiff, Nat.reduceAdd, Nat.reduceMul, Nat.reduceLT, Nat.reduceLeDiff, Nat.reduceSub, Int.reduceToNat, Int.reduceLE, Int.reduceLT, reduceCtorEq, Int.reduceEq, Int.reduceGT, Int.reduceGE, Int.reduceNeg, sq1, z2, List.isEmpty_cons, Bool.false_eq_true, if_false]
        rw [LoopU_succ]
        simp -implicitDefEqProofs only [go_sem, ↓reduceIte, Nat.reduceEqDiff, Nat.reduceAdd, Nat.reduceMul, Nat.reduceLT, Nat.reduceLeDiff, Nat.reduceSub, Int.reduceToNat, Int.reduceLE, Int.reduceLT, reduceCtorEq, Int.reduceEq, Int.reduceGT, Int.reduceGE, Int.reduceNeg, hw]
        refine kLoop_mk (t + 1, d2) ⟨by simp only; omega, hP2.mono (by simp only; omega)⟩ (by simp only; omega) ?_
        unfold devL refL
        refine sub_mk [(2, 11), (4, 12), (6, 13), (7, 14), (8, 15), (9, 16)] rfl rfl rfl ?_
        simp only [tmSub, hpSub, objSub, eqTm, eqHp, rn, lk, SV.ren, SV.renC, SV.renB, SV.renA, ren_ints, ren_strs, ren_pl, ren_svs, SV.v.injEq, Value.int.injEq, Body.ints.injEq, SV.ptr.injEq, SV.sl.injEq, Value.string.injEq, Value.bool.injEq, List.map_cons, List.map_nil, forall_const, Nat.reduceLT, Nat.lt_add_one, imp_self, true_and, and_true, and_self, ob_some, get_mk, lk_cons, ↓reduceIte, Nat.reduceEqDiff, ne_eq, not_true_eq_false, not_false_eq_true, Nat.one_ne_zero, Nat.zero_ne_one, Nat.succ_ne_self, Nat.reduceAdd, Bool.false_eq_true, false_implies, implies_true, reduceCtorEq, refB, slB]
        repeat' (first | rfl | apply And.intro)
      have f5 : decide (q = 5) = false := decide_eq_false g5
      by_cases g6 : q = 6
      · subst g6
        have cc : decide ((6 : Int) = 6) = true := rfl
        generalize hd2 : baT d = DD
        have hP2 := (baT_pl hP (by omega)).mono (u := 200 * t + 150) (by omega)
        rw [hd2] at hP2
        obtain ⟨E2, d2⟩ := DD
        simp only at hP2
        simp -implicitDefEqProofs only [go_sem, ↓reduceIte, Nat.reduceEqDiff, Nat.reduceAdd, Nat.reduceMul, Nat.reduceLT, Nat.reduceLeDiff, Nat.reduceSub, Int.reduceToNat, Int.reduceLE, Int.reduceLT, reduceCtorEq, Int.reduceEq, Int.reduceGT, Int.reduceGE, Int.reduceNeg, hqu, cc, f2, f3, f4, f5]
        refine at_call tFBarrier (baTS (i := 1) (a := 2) (b := 3) (c := 4) (d := d) (m := m) (t := 200 * t) ⟨by rfl, by rfl, by rfl, by rfl, by decide⟩ hP (by omega) (by decide) hd2) ?_
        simp -implicitDefEqProofs only [go_sem, ↓reduceIte, Nat.reduceEqDiff, Nat.reduceAdd, Nat.reduceMul, Nat.reduceLT, Nat.reduceLeDiff, Nat.reduceSub, Int.reduceToNat, Int.reduceLE, Int.reduceLT, reduceCtorEq, Int.reduceEq, Int.reduceGT, Int.reduceGE, Int.reduceNeg, List.isEmpty_cons, Bool.false_eq_true, if_false]
        refine at_call trFBarrier (rbaTS (i := 5) (a := 6) (b := 7) (d := d) (m := m) (t := 200 * t) ⟨by rfl, by rfl, by rfl, by decide⟩ hP (by omega) (by decide) hd2) ?_
        simp -implicitDefEqProofs only [go_sem, ↓reduceIte, Nat.reduceEqDiff, Nat.reduceAdd, Nat.reduceMul, Nat.reduceLT, Nat.reduceLeDiff, Nat.reduceSub, Int.reduceToNat, Int.reduceLE, Int.reduceLT, reduceCtorEq, Int.reduceEq, Int.reduceGT, Int.reduceGE, Int.reduceNeg, List.isEmpty_cons, Bool.false_eq_true, if_false]
        simp -implicitDefEqProofs only [go_sem, ↓reduceIte, Nat.reduceEqDiff, Nat.reduceAdd, Nat.reduceMul, Nat.reduceLT, Nat.reduceLeDiff, Nat.reduceSub, Int.reduceToNat, Int.reduceLE, Int.reduceLT, reduceCtorEq, Int.reduceEq, Int.reduceGT, Int.reduceGE, Int.reduceNeg, refB, List.isEmpty_cons, Bool.false_eq_true, if_false]
        refine at_call tFSteps (stS (d := d2) (i := 1) (a := 11) (b := 12) (c := 13) (by rfl)) ?_
        simp -implicitDefEqProofs only [go_sem, ↓reduceIte, Nat.reduceEqDiff, Nat.reduceAdd, Nat.reduceMul, Nat.reduceLT, Nat.reduceLeDiff, Nat.reduceSub, Int.reduceToNat, Int.reduceLE, Int.reduceLT, reduceCtorEq, Int.reduceEq, Int.reduceGT, Int.reduceGE, Int.reduceNeg, hw, refB, List.isEmpty_cons, Bool.false_eq_true, if_false]
        refine loop_roll 3 ?_
        rw [LoopU_succ]
        simp -implicitDefEqProofs only [go_sem, ↓reduceIte, Nat.reduceEqDiff, Nat.reduceAdd, Nat.reduceMul, Nat.reduceLT, Nat.reduceLeDiff, Nat.reduceSub, Int.reduceToNat, Int.reduceLE, Int.reduceLT, reduceCtorEq, Int.reduceEq, Int.reduceGT, Int.reduceGE, Int.reduceNeg]
        generalize hs0 : srT bs r 0 d2 = R0
        generalize hs1 : srT bs r 1 d2 = R1
        have sq0 : seq R0.2.1 R0.2.1 = true := seq_self _
        have sq1 : seq R1.2.1 R1.2.1 = true := seq_self _
        refine at_call tSRead (sreadS (q := 8) (i := 1) (a := 11) (b := 12) (c := 13) (d := d2) (bs := bs) (r := r) (slot := 0) (by omega) (by omega) (by rfl) ⟨by rfl, by rfl, by rfl, by rfl, by decide⟩ (by decide) hP2.ok (by rw [hP2.len]; omega) hs0) ?_
        unfold rV
        simp -implicitDefEqProofs only [go_sem, ↓reduceIte, Nat.reduceEqDiff, Nat.reduceAdd, Nat.reduceMul, Nat.reduceLT, Nat.reduceLeDiff, Nat.reduceSub, Int.reduceToNat, Int.reduceLE, Int.reduceLT, reduceCtorEq, Int.reduceEq, Int.reduceGT, Int.reduceGE, Int.reduceNeg, List.isEmpty_cons, Bool.false_eq_true, if_false]
        refine at_call trSRead (rsreadS (q := 9) (i := 5) (a := 14) (b := 15) (d := d2) (bs := bs) (r := r) (slot := 0) (u1 := true) (u2 := true) (u3 := true) (by omega) (by omega) (by rfl) ⟨by rfl, by rfl, by rfl, by decide⟩ (by decide) hP2.ok hP2.sn (by rw [hP2.len]; omega) hs0) ?_
        unfold rV
        have z1 : IntKind.i64.wrap (0 + 1) = 1 := rfl
        have z2 : IntKind.i64.wrap (1 + 1) = 2 := rfl
        simp -implicitDefEqProofs only [go_sem, ↓reduceIte, Nat.reduceEqDiff, Nat.reduceAdd, Nat.reduceMul, Nat.reduceLT, Nat.reduceLeDiff, Nat.reduceSub, Int.reduceToNat, Int.reduceLE, Int.reduceLT, reduceCtorEq, Int.reduceEq, Int.reduceGT, Int.reduceGE, Int.reduceNeg, sq0, z1, List.isEmpty_cons, Bool.false_eq_true, if_false]
        rw [LoopU_succ]
        simp -implicitDefEqProofs only [go_sem, ↓reduceIte, Nat.reduceEqDiff, Nat.reduceAdd, Nat.reduceMul, Nat.reduceLT, Nat.reduceLeDiff, Nat.reduceSub, Int.reduceToNat, Int.reduceLE, Int.reduceLT, reduceCtorEq, Int.reduceEq, Int.reduceGT, Int.reduceGE, Int.reduceNeg]
        refine at_call tSRead (sreadS (q := 8) (i := 1) (a := 11) (b := 12) (c := 13) (d := d2) (bs := bs) (r := r) (slot := 1) (by omega) (by omega) (by rfl) ⟨by rfl, by rfl, by rfl, by rfl, by decide⟩ (by decide) hP2.ok (by rw [hP2.len]; omega) hs1) ?_
        unfold rV
        simp -implicitDefEqProofs only [go_sem, ↓reduceIte, Nat.reduceEqDiff, Nat.reduceAdd, Nat.reduceMul, Nat.reduceLT, Nat.reduceLeDiff, Nat.reduceSub, Int.reduceToNat, Int.reduceLE, Int.reduceLT, reduceCtorEq, Int.reduceEq, Int.reduceGT, Int.reduceGE, Int.reduceNeg, List.isEmpty_cons, Bool.false_eq_true, if_false]
        refine at_call trSRead (rsreadS (q := 9) (i := 5) (a := 14) (b := 15) (d := d2) (bs := bs) (r := r) (slot := 1) (u1 := true) (u2 := true) (u3 := true) (by omega) (by omega) (by rfl) ⟨by rfl, by rfl, by rfl, by decide⟩ (by decide) hP2.ok hP2.sn (by rw [hP2.len]; omega) hs1) ?_
        unfold rV
        simp -implicitDefEqProofs only [go_sem, ↓reduceIte, Nat.reduceEqDiff, Nat.reduceAdd, Nat.reduceMul, Nat.reduceLT, Nat.reduceLeDiff, Nat.reduceSub, Int.reduceToNat, Int.reduceLE, Int.reduceLT, reduceCtorEq, Int.reduceEq, Int.reduceGT, Int.reduceGE, Int.reduceNeg, sq1, z2, List.isEmpty_cons, Bool.false_eq_true, if_false]
        rw [LoopU_succ]
        simp -implicitDefEqProofs only [go_sem, ↓reduceIte, Nat.reduceEqDiff, Nat.reduceAdd, Nat.reduceMul, Nat.reduceLT, Nat.reduceLeDiff, Nat.reduceSub, Int.reduceToNat, Int.reduceLE, Int.reduceLT, reduceCtorEq, Int.reduceEq, Int.reduceGT, Int.reduceGE, Int.reduceNeg, hw]
        refine kLoop_mk (t + 1, d2) ⟨by simp only; omega, hP2.mono (by simp only; omega)⟩ (by simp only; omega) ?_
        unfold devL refL
        refine sub_mk [(2, 11), (3, 12), (4, 13), (6, 14), (7, 15)] rfl rfl rfl ?_
        simp only [tmSub, hpSub, objSub, eqTm, eqHp, rn, lk, SV.ren, SV.renC, SV.renB, SV.renA, ren_ints, ren_strs, ren_pl, ren_svs, SV.v.injEq, Value.int.injEq, Body.ints.injEq, SV.ptr.injEq, SV.sl.injEq, Value.string.injEq, Value.bool.injEq, List.map_cons, List.map_nil, forall_const, Nat.reduceLT, Nat.lt_add_one, imp_self, true_and, and_true, and_self, ob_some, get_mk, lk_cons, ↓reduceIte, Nat.reduceEqDiff, ne_eq, not_true_eq_false, not_false_eq_true, Nat.one_ne_zero, Nat.zero_ne_one, Nat.succ_ne_self, Nat.reduceAdd, Bool.false_eq_true, false_implies, implies_true, reduceCtorEq, refB, slB]
        repeat' (first | rfl | apply And.intro)
      have f6 : decide (q = 6) = false := decide_eq_false g6
      generalize hd2 : swR bs r o.k o.v o.s d = DD
      have hP2 := (swR_pl (bs := bs) (r := r) (slot := o.k) (ver := o.v) (I := o.s) hP (by omega)).mono (u := 200 * t + 150) (by omega)
      rw [hd2] at hP2
      obtain ⟨E2, d2⟩ := DD
      simp only at hP2
      simp -implicitDefEqProofs only [go_sem, ↓reduceIte, Nat.reduceEqDiff, Nat.reduceAdd, Nat.reduceMul, Nat.reduceLT, Nat.reduceLeDiff, Nat.reduceSub, Int.reduceToNat, Int.reduceLE, Int.reduceLT, reduceCtorEq, Int.reduceEq, Int.reduceGT, Int.reduceGE, Int.reduceNeg, hqu, f2, f3, f4, f5, f6]
      refine at_call tSWrite (swriteS (q := 8) (i := 1) (a := 2) (b := 3) (c := 4) (d := d) (bs := bs) (r := r) (slot := o.k) (ver := o.v) (I := o.s) (m := m) (t := 200 * t) (by omega) (by omega) (by rfl) ⟨by rfl, by rfl, by rfl, by rfl, by decide⟩ (by decide) hP (by omega) (by decide) hd2) ?_
      simp -implicitDefEqProofs only [go_sem, ↓reduceIte, Nat.reduceEqDiff, Nat.reduceAdd, Nat.reduceMul, Nat.reduceLT, Nat.reduceLeDiff, Nat.reduceSub, Int.reduceToNat, Int.reduceLE, Int.reduceLT, reduceCtorEq, Int.reduceEq, Int.reduceGT, Int.reduceGE, Int.reduceNeg, devN_eq, List.isEmpty_cons, Bool.false_eq_true, if_false]
      refine at_call trSWrite (rswriteS (q := 9) (i := 5) (a := 6) (b := 7) (d := d) (bs := bs) (r := r) (slot := o.k) (ver := o.v) (I := o.s) (m := m) (t := 200 * t) (by omega) (by omega) (by rfl) ⟨by rfl, by rfl, by rfl, by decide⟩ (by decide) hP (by omega) (by decide) hd2) ?_
      simp -implicitDefEqProofs only [go_sem, ↓reduceIte, Nat.reduceEqDiff, Nat.reduceAdd, Nat.reduceMul, Nat.reduceLT, Nat.reduceLeDiff, Nat.reduceSub, Int.reduceToNat, Int.reduceLE, Int.reduceLT, reduceCtorEq, Int.reduceEq, Int.reduceGT, Int.reduceGE, Int.reduceNeg, List.isEmpty_cons, Bool.false_eq_true, if_false]
      simp -implicitDefEqProofs only [go_sem, ↓reduceIte, Nat.reduceEqDiff, Nat.reduceAdd, Nat.reduceMul, Nat.reduceLT, Nat.reduceLeDiff, Nat.reduceSub, Int.reduceToNat, Int.reduceLE, Int.reduceLT, reduceCtorEq, Int.reduceEq, Int.reduceGT, Int.reduceGE, Int.reduceNeg, refB, List.isEmpty_cons, Bool.false_eq_true, if_false]
      refine at_call tFSteps (stS (d := d2) (i := 1) (a := 11) (b := 12) (c := 13) (by rfl)) ?_
      simp -implicitDefEqProofs only [go_sem, ↓reduceIte, Nat.reduceEqDiff, Nat.reduceAdd, Nat.reduceMul, Nat.reduceLT, Nat.reduceLeDiff, Nat.reduceSub, Int.reduceToNat, Int.reduceLE, Int.reduceLT, reduceCtorEq, Int.reduceEq, Int.reduceGT, Int.reduceGE, Int.reduceNeg, hw, refB, List.isEmpty_cons, Bool.false_eq_true, if_false]
      refine loop_roll 3 ?_
      rw [LoopU_succ]
      simp -implicitDefEqProofs only [go_sem, ↓reduceIte, Nat.reduceEqDiff, Nat.reduceAdd, Nat.reduceMul, Nat.reduceLT, Nat.reduceLeDiff, Nat.reduceSub, Int.reduceToNat, Int.reduceLE, Int.reduceLT, reduceCtorEq, Int.reduceEq, Int.reduceGT, Int.reduceGE, Int.reduceNeg]
      generalize hs0 : srT bs r 0 d2 = R0
      generalize hs1 : srT bs r 1 d2 = R1
      have sq0 : seq R0.2.1 R0.2.1 = true := seq_self _
      have sq1 : seq R1.2.1 R1.2.1 = true := seq_self _
      refine at_call tSRead (sreadS (q := 8) (i := 1) (a := 11) (b := 12) (c := 13) (d := d2) (bs := bs) (r := r) (slot := 0) (by omega) (by omega) (by rfl) ⟨by rfl, by rfl, by rfl, by rfl, by decide⟩ (by decide) hP2.ok (by rw [hP2.len]; omega) hs0) ?_
      unfold rV
      simp -implicitDefEqProofs only [go_sem, ↓reduceIte, Nat.reduceEqDiff, Nat.reduceAdd, Nat.reduceMul, Nat.reduceLT, Nat.reduceLeDiff, Nat.reduceSub, Int.reduceToNat, Int.reduceLE, Int.reduceLT, reduceCtorEq, Int.reduceEq, Int.reduceGT, Int.reduceGE, Int.reduceNeg, List.isEmpty_cons, Bool.false_eq_true, if_false]
      refine at_call trSRead (rsreadS (q := 9) (i := 5) (a := 14) (b := 15) (d := d2) (bs := bs) (r := r) (slot := 0) (u1 := true) (u2 := true) (u3 := true) (by omega) (by omega) (by rfl) ⟨by rfl, by rfl, by rfl, by decide⟩ (by decide) hP2.ok hP2.sn (by rw [hP2.len]; omega) hs0) ?_
      unfold rV
      have z1 : IntKind.i64.wrap (0 + 1) = 1 := rfl
      have z2 : IntKind.i64.wrap (1 + 1) = 2 := rfl
      simp -implicitDefEqProofs only [go_sem, ↓reduceIte, Nat.reduceEqDiff, Nat.reduceAdd, Nat.reduceMul, Nat.reduceLT, Nat.reduceLeDiff, Nat.reduceSub, Int.reduceToNat, Int.reduceLE, Int.reduceLT, reduceCtorEq, Int.reduceEq, Int.reduceGT, Int.reduceGE, Int.reduceNeg, sq0, z1, List.isEmpty_cons, Bool.false_eq_true, if_false]
      rw [LoopU_succ]
      simp -implicitDefEqProofs only [go_sem, ↓reduceIte, Nat.reduceEqDiff, Nat.reduceAdd, Nat.reduceMul, Nat.reduceLT, Nat.reduceLeDiff, Nat.reduceSub, Int.reduceToNat, Int.reduceLE, Int.reduceLT, reduceCtorEq, Int.reduceEq, Int.reduceGT, Int.reduceGE, Int.reduceNeg]
      refine at_call tSRead (sreadS (q := 8) (i := 1) (a := 11) (b := 12) (c := 13) (d := d2) (bs := bs) (r := r) (slot := 1) (by omega) (by omega) (by rfl) ⟨by rfl, by rfl, by rfl, by rfl, by decide⟩ (by decide) hP2.ok (by rw [hP2.len]; omega) hs1) ?_
      unfold rV
      simp -implicitDefEqProofs only [go_sem, ↓reduceIte, Nat.reduceEqDiff, Nat.reduceAdd, Nat.reduceMul, Nat.reduceLT, Nat.reduceLeDiff, Nat.reduceSub, Int.reduceToNat, Int.reduceLE, Int.reduceLT, reduceCtorEq, Int.reduceEq, Int.reduceGT, Int.reduceGE, Int.reduceNeg, List.isEmpty_cons, Bool.false_eq_true, if_false]
      refine at_call trSRead (rsreadS (q := 9) (i := 5) (a := 14) (b := 15) (d := d2) (bs := bs) (r := r) (slot := 1) (u1 := true) (u2 := true) (u3 := true) (by omega) (by omega) (by rfl) ⟨by rfl, by rfl, by rfl, by decide⟩ (by decide) hP2.ok hP2.sn (by rw [hP2.len]; omega) hs1) ?_
      unfold rV
      simp -implicitDefEqProofs only [go_sem, ↓reduceIte, Nat.reduceEqDiff, Nat.reduceAdd, Nat.reduceMul, Nat.reduceLT, Nat.reduceLeDiff, Nat.reduceSub, Int.reduceToNat, Int.reduceLE, Int.reduceLT, reduceCtorEq, Int.reduceEq, Int.reduceGT, Int.reduceGE, Int.reduceNeg, sq1, z2, List.isEmpty_cons, Bool.false_eq_true, if_false]
      rw [LoopU_succ]
      simp -implicitDefEqProofs only [go_sem, ↓reduceIte, Nat.reduceEqDiff, Nat.reduceAdd, Nat.reduceMul, Nat.reduceLT, Nat.reduceLeDiff, Nat.reduceSub, Int.reduceToNat, Int.reduceLE, Int.reduceLT, reduceCtorEq, Int.reduceEq, Int.reduceGT, Int.reduceGE, Int.reduceNeg, hw]
      refine kLoop_mk (t + 1, d2) ⟨by simp only; omega, hP2.mono (by simp only; omega)⟩ (by simp only; omega) ?_
      unfold devL refL
      refine sub_mk [(2, 11), (3, 12), (4, 13), (6, 14), (7, 15)] rfl rfl rfl ?_
      simp only [tmSub, hpSub, objSub, eqTm, eqHp, rn, lk, SV.ren, SV.renC, SV.renB, SV.renA, ren_ints, ren_strs, ren_pl, ren_svs, SV.v.injEq, Value.int.injEq, Body.ints.injEq, SV.ptr.injEq, SV.sl.injEq, Value.string.injEq, Value.bool.injEq, List.map_cons, List.map_nil, forall_const, Nat.reduceLT, Nat.lt_add_one, imp_self, true_and, and_true, and_self, ob_some, get_mk, lk_cons, ↓reduceIte, Nat.reduceEqDiff, ne_eq, not_true_eq_false, not_false_eq_true, Nat.one_ne_zero, Nat.zero_ne_one, Nat.succ_ne_self, Nat.reduceAdd, Bool.false_eq_true, false_implies, implies_true, reduceCtorEq, refB, slB]
      repeat' (first | rfl | apply And.intro)
    · simp -implicitDefEqProofs only [go_sem, ↓reduceIte, Nat.reduceEqDiff, Nat.reduceAdd, Nat.reduceMul, Nat.reduceLT, Nat.reduceLeDiff, Nat.reduceSub, Int.reduceToNat, Int.reduceLE, Int.reduceLT, reduceCtorEq, Int.reduceEq, Int.reduceGT, Int.reduceGE, Int.reduceNeg]
      exact sub_val rfl (by decide) (by decide) rfl
theorem rel_argrow {lfA : Nat → Nat → Loc} {lr : Nat → Loc} {o m z : Nat} {v : Value} (j : Nat) (h : slrel (lr j) o m z v) : slrel (argR lfA lr (1003 + 4 * j)) o m z v := by rw [argR_row]; exact h
end
end Go.Sx