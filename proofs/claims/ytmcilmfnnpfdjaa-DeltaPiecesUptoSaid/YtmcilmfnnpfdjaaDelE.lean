/- Delta: the document's parse. -/
import Derived.Test.YtmcilmfnnpfdjaaDelD

set_option linter.unusedVariables false
set_option linter.unusedSimpArgs false
set_option maxRecDepth 100000
namespace Go.Sx
attribute [local go_sem ↓] bind_mk intsB_mk strsB_mk svB_mk fnVC ob_some vc_skip vc_exit vc_ret vc_seq vc_block kSeq_normal kSeq_exit kSeq_ret kBlock_normal kBlock_exit kBlock_ret vc_reg vc_regD vc_cond condK_true condK_false vc_loop kLoop_exit kLoop_ret kRoll_normal kRoll_exit kRoll_ret vcOps_nil vcOps_cons gd_bool gd_undef put_some put_none vcT_fin vcT_pure vcT_act vcT_acts vcT_stop stab_none stab_some stabM_nil stabM_cons stabO_ld stabO_ldn stabO_slP stabO_b2s fldOf_ai fldOf_agg fldOf_ait fldOf_aggt intsOf_nil intsOf_cons strsOf_nil strsOf_cons c_omap ob_if lk_nil lk_cons ev_t ev_k z_mov z_pick z_bin z_binB z_binP z_un z_r2s z_conv z_s2b z_b2s z_mkM z_luM z_upM plV_v plV_agg mpOf_mp mpOf_nil mpUp_mp asM_mp luV_ok luV_v z_allocT aggOf_mk z_boxT z_alloc z_bld z_bldI z_rowI z_rowS z_ld z_ldn z_st z_stn asN_ptr asN_fn z_nilck z_fld z_fadr z_idxA z_idxP z_idxS z_idxV z_slS z_slL z_slP z_mk z_lenS z_lenL z_app appC_ints appC_pl appC_sv appC_strs isS_strs loose_ints loose_pl loose_sv z_slM z_callv callvK_fn callvK_f callvK_yl vc_rangeF rfEnd_eq rfGo_none rfGo_ret rfGo_exit yGo_mk yEnd_n yEnd_r yEnd_e yRdy_mk yMid_n putPs_nil putPs_cons leaf_v leaf_ptr leaf_sl leaf_yl leaf_mp z_appS z_appST z_appZ z_cpyS z_mkfn reps_int reps_str z_rowV z_slnil nilK_zero z_cpy z_call asT_tup z_extT z_box boxOf_ai boxOf_agg boxOf_int boxOf_str boxOf_bool boxOf_ptr boxOf_sl sbin_int sbin_str sbinB_mk sbinP_nn sbinP_pn sbinP_np i_add i_sub i_mul i_quo i_rem i_and i_or i_xor i_andNot i_shl i_shr i_eql i_neq i_lss i_leq i_gtr i_geq st_add st_eql st_neq st_lss st_leq st_gtr st_geq bo_eql bo_neq pt_eql pt_neq un_neg un_xor un_not asI_mk asB_mk asS_mk asP_mk asSl_mk asBy_mk bnd_none bnd_some get_mk hput_mk hdel_mk kill_eq wrOf_eq rowOf_eq rsvs_0 rsvs_1 rsvs_2 rsvs_3 rsv_t rsv_c1 rsv_cn nt_v nt_ptr nt_sl nt_agg nt_ai get_ints get_strs get_pl get_sv getN_ints getN_sv set_ints set_strs set_sv setN_ints setN_sv part_ints part_strs part_sv cat_ints cat_strs cat_sv over_ints over_strs over_sv ones_ints ones_strs evs_nil evs_cons condK_eqt condK_eqf det_callP V_ns V_nn V_gs V_gn obC_mk fresh_ev freshT_ev freshR_ev setN_plagg setN_intsv setN_svai setN_svagg over_intsv set_pl setN_pl setN_plai getN_pl getN_strs part_pl cat_pl over_pl over_plints z_mm
attribute [local go_sem] initTm ne_eq not_true_eq_false not_false_eq_true true_and and_true List.length_cons List.length_nil Int.toNat_natCast Nat.add_zero Nat.zero_add Nat.mul_one List.getElem?_cons_zero List.drop_zero List.take_length List.take_succ_cons List.take_zero List.take_nil List.drop_succ_cons Option.map_some Nat.le_refl implies_true List.getElem?_cons_succ decide_true decide_false Bool.not_true Bool.not_false beq_self_eq_true Nat.succ_ne_self Nat.one_ne_zero Nat.zero_ne_one vk_mk hk_mk nk_mk tok_eq plsOf_map intsOf_map bodyOf_pl bodyOf_ints bodyOf_strs bodyOf_sv part_aggv part_agg part_ai part_int part_str part_bool part_sl part_ptr part_nil numsOf_map u_int u_str u_bool u_pnil u_sl u_ptr u_oci u_ocs evq_nil evq_cons fillS_nil fillS_cons u_ocb ones_pl cells_sv cells_ints cells_strs cells_pl smms_nil smms_cons smm_min smm_max plsOf_nil List.nil_append List.all_cons List.all_nil Bool.and_self Bool.true_and Bool.and_true zws_len zw_len zi_len List.set_cons_zero List.set_cons_succ List.flatMap_cons List.flatMap_nil List.append_nil
attribute [local go_sem_proc] Nat.reduceEqDiff Nat.reduceAdd Nat.reduceMul Nat.reduceLT Nat.reduceLeDiff Nat.reduceSub Int.reduceToNat Int.reduceLE Int.reduceLT reduceCtorEq Int.reduceEq Int.reduceGT Int.reduceGE Int.reduceNeg
attribute [local go_sem_proc ↓] reduceIte
section
open Go.Proofs
variable {p q : Pt} {H : Hp} {n : Nat} {x : Nat → Option SO}
theorem rdnumS {s : ByteArray} {a k : Nat} (h : a + k ≤ s.size) (hk : k ≤ 7) (hs : s.size ≤ 1048576) : SpecAt Try.prog nrdnum [.v (.string s), .v (.int .i64 a), .v (.int .i64 k)] H n (.v (.int .i64 (num (s.extract a (a + k)) : Nat))) H n := lift_pure (okT.spec trdnum (by
  unfold mrdnum
  simp -implicitDefEqProofs only [↓fnVC, initTm]
  simp -implicitDefEqProofs only [go_sem]
  have hz : (s.extract a (a + k)).size = k := by rw [ex_size]; omega
  generalize ht : s.extract a (a + k) = t at hz
  have hok : numOK t := .inl (by omega)
  refine loop_fam (fun (c : Nat) => c ≤ k) (fun c => ⟨[(0, .v (.string s)), (1, .v (.int .i64 a)), (2, .v (.int .i64 k)), (7, .v (.int .i64 (nvl ((nbs t).take c) : Nat))), (8, .v (.int .i64 c))], ⟨[], H.x⟩, 1⟩) (fun c => k - c) 0 (Nat.zero_le _) ?_ ?_
  · refine sub_mk [] rfl rfl rfl ?_
    simp only [tmSub, hpSub, objSub, eqTm, eqHp, rn, lk, SV.ren, SV.renC, SV.renB, SV.renA, ren_ints, ren_strs, ren_pl, ren_svs, SV.v.injEq, Value.int.injEq, Body.ints.injEq, SV.ptr.injEq, SV.sl.injEq, Value.string.injEq, Value.bool.injEq, List.map_cons, List.map_nil, forall_const, Nat.reduceLT, Nat.lt_add_one, imp_self, true_and, and_true, and_self, ob_some, get_mk, lk_cons, ↓reduceIte, Nat.reduceEqDiff, ne_eq, not_true_eq_false, not_false_eq_true, Nat.one_ne_zero, Nat.zero_ne_one, Nat.succ_ne_self, Nat.reduceAdd, Bool.false_eq_true, false_implies, implies_true, reduceCtorEq]
    repeat' (first | rfl | apply And.intro)
  · intro c hc
    simp -implicitDefEqProofs only [go_sem]
    refine condK_bb (fun d => ?_) (fun d => ?_)
    · have d1 : c < k := by have := of_decide_eq_true d; omega
      have w1 : IntKind.i64.wrap ((a : Int) + (c : Int)) = ((a + c : Nat) : Int) := by rw [wrap_i64 (by omega) (by omega)]; omega
      have w2 : IntKind.i64.wrap ((c : Int) + 1) = ((c + 1 : Nat) : Int) := by rw [wrap_i64 (by omega) (by omega)]; omega
      have hlt := hok.lt (j := c) (by omega)
      have hbt := nbs_get_lt (t := t) (j := c) (by omega)
      have hb : (bts s).getD (a + c) 0 = (((nbs t).getD c 0 : Nat) : Int) := by
        rw [← bts_getD (by omega), ← ht, bts_ext, List.getD_eq_getElem?_getD, List.getD_eq_getElem?_getD, List.getElem?_take, if_pos (by omega), List.getElem?_drop]
      have hsh := ishl_8 hlt
      have hor := ior_byte hlt hbt
      have hcv : IntKind.i64.wrap (((nbs t).getD c 0 : Nat) : Int) = (((nbs t).getD c 0 : Nat) : Int) := wrap_i64 (by omega) (by omega)
      have hst := num_step (t := t) (j := c) (by omega)
      rw [← hst] at hor
      simp -implicitDefEqProofs only [go_sem, d, w1, hb, hsh, hcv, hor, w2]
      refine ⟨by omega, ?_⟩
      refine kLoop_mk (c + 1) (by omega) (by omega) ?_
      refine sub_mk [] rfl rfl rfl ?_
      simp only [tmSub, hpSub, objSub, eqTm, eqHp, rn, lk, SV.ren, SV.renC, SV.renB, SV.renA, ren_ints, ren_strs, ren_pl, ren_svs, SV.v.injEq, Value.int.injEq, Body.ints.injEq, SV.ptr.injEq, SV.sl.injEq, Value.string.injEq, Value.bool.injEq, List.map_cons, List.map_nil, forall_const, Nat.reduceLT, Nat.lt_add_one, imp_self, true_and, and_true, and_self, ob_some, get_mk, lk_cons, ↓reduceIte, Nat.reduceEqDiff, ne_eq, not_true_eq_false, not_false_eq_true, Nat.one_ne_zero, Nat.zero_ne_one, Nat.succ_ne_self, Nat.reduceAdd, Bool.false_eq_true, false_implies, implies_true, reduceCtorEq]
      repeat' (first | rfl | apply And.intro)
    · have d1 : c = k := by have := of_decide_eq_false d; omega
      subst d1
      simp -implicitDefEqProofs only [go_sem, d]
      unfold num
      rw [List.take_of_length_le (by rw [nbs_len]; omega)]
      exact sub_val rfl (by decide) (by decide) rfl)) rfl
def endB (q : Pt) : Bool := decide (q.e = 0) && q.begun && decide (q.adds = 0) && decide (q.wait.size = 0)
def gV (q : Pt) (z : Nat) (h : ByteArray) : SV := .agg [.v (.string q.made), .v (.int .i64 q.e), .v (.bool (endB q)), .v (.int .i64 z), .v (.string h)]
theorem byte_num {s : ByteArray} {a : Nat} (h : a < s.size) : (bts s).getD a 0 = (num (s.extract a (a + 1)) : Nat) := by
  have h1 := kind_num (s := s.extract a s.size) (by rw [ex_size]; omega)
  rw [ext_ext (by omega), Nat.add_zero] at h1
  rw [← h1, bts_ext, List.getD_eq_getElem?_getD, List.getD_eq_getElem?_getD, List.getElem?_take, if_pos (by omega), List.getElem?_drop, Nat.add_zero]
/-- In the midst of the instructions, as the document goes. -/
structure Lp (p : Pt) (s : ByteArray) (a : Nat) (r : Pt) : Prop where
  ok : r.ok
  e : r.e = 0
  b : r.begun = true
  ad : r.adds = 0
  ol : r.old = p.old
  sz : r.size = p.size
  hs : r.hash = p.hash
  la : a ≤ s.size
  w : r.wait = s.extract a s.size
  q : runP r = runP p
def gB (m : ByteArray) (e : Int) (b : Bool) (z : Nat) (h : ByteArray) : Body := .sv [.v (.string m), .v (.int .i64 e), .v (.bool b), .v (.int .i64 z), .v (.string h)]
set_option maxHeartbeats 2000000 in
theorem instrW {s : ByteArray} {a0 : Nat} (hp : p.ok) (he : p.e = 0) (hb : p.begun = true) (ha : p.adds = 0) (hm : p.made = ⟨#[]⟩) (hs : s.size ≤ 16384) (ha0 : a0 = 72) (hle : a0 ≤ s.size) (hw : p.wait = s.extract a0 s.size) :
    fnVC CT mrInstr [.agg [.v (.string ⟨#[]⟩), .v (.int .i64 0), .v (.bool false), .v (.int .i64 p.size), .v (.string p.hash)], .v (.string p.old), .v (.string s)] ⟨[], x⟩ 1 fun v H' n' => Sub 1 ⟨[(0, gV (runP p) p.size p.hash)], ⟨[], x⟩, 1⟩ ⟨[(0, v)], H', n'⟩ := by
  unfold mrInstr
  simp -implicitDefEqProofs only [↓fnVC, initTm]
  simp -implicitDefEqProofs only [go_sem]
  subst ha0
  refine loop_fam (fun (t : Nat × Pt) => Lp p s t.1 t.2)
    (fun t => ⟨[(1, .v (.string p.old)), (2, .v (.string s)), (3, .ptr 1 0), (6, .ptr 2 0), (7, .v (.int .i64 t.1))], ⟨[(1, some ⟨true, gB t.2.made 0 false p.size p.hash⟩), (2, some ⟨true, gB ⟨#[]⟩ 0 false 0 ⟨#[]⟩⟩)], x⟩, 3⟩)
    (fun t => s.size - t.1) (72, p) ⟨hp, he, hb, ha, rfl, rfl, rfl, hle, hw, rfl⟩ ?_ ?_
  · unfold gB
    refine sub_mk [] rfl rfl rfl ?_
    simp only [tmSub, hpSub, objSub, eqTm, eqHp, rn, lk, SV.ren, SV.renC, SV.renB, SV.renA, ren_ints, ren_strs, ren_pl, ren_svs, SV.v.injEq, Value.int.injEq, Body.ints.injEq, SV.ptr.injEq, SV.sl.injEq, Value.string.injEq, Value.bool.injEq, List.map_cons, List.map_nil, forall_const, Nat.reduceLT, Nat.lt_add_one, imp_self, true_and, and_true, and_self, ob_some, get_mk, lk_cons, ↓reduceIte, Nat.reduceEqDiff, ne_eq, not_true_eq_false, not_false_eq_true, Nat.one_ne_zero, Nat.zero_ne_one, Nat.succ_ne_self, Nat.reduceAdd, Bool.false_eq_true, false_implies, implies_true, reduceCtorEq]
    rw [hm]
    repeat' (first | rfl | apply And.intro)
  · rintro ⟨a, r⟩ hr
    have ok : r.ok := hr.ok
    have ho := ok.oe hr.e
    have hra : a ≤ s.size := hr.la
    have hrw : r.wait = s.extract a s.size := hr.w
    have hrz : r.wait.size = s.size - a := by rw [hrw, ex_size]; omega
    have hrs : r.size = p.size := hr.sz
    have hro : r.old = p.old := hr.ol
    have hra0 : r.adds = 0 := hr.ad
    have hfr : r.fresh := fun h => by have := hr.b; rw [h] at this; cases this
    have wx : ∀ {i j : Nat}, a + j ≤ s.size → r.wait.extract i j = s.extract (a + i) (a + j) := fun h => by rw [hrw]; exact ext_ext h
    have hq : runP r = runP p := hr.q
    have hre : r.e = 0 := hr.e
    have hrb : r.begun = true := hr.b
    have hrh : r.hash = p.hash := hr.hs
    have hsz : p.size ≤ 8192 := by rw [← hrs]; exact ho.2.1
    have hol : p.old.size ≤ 8192 := by rw [← hro]; exact ho.1
    have hmd : r.made.size ≤ p.size := by have := ho.2.2; rw [hrs] at this; omega
    rw [← hq]
    clear hr hm hw hle
    unfold gB
    simp -implicitDefEqProofs only [go_sem]
    by_cases c0 : a < s.size
    rotate_left
    · have b0 : decide ((a : Int) < s.size) = false := decide_eq_false (by omega)
      have hw0 : r.wait.size = 0 := by omega
      have eb : endB r = true := by unfold endB; rw [decide_eq_true hre, hrb, decide_eq_true hra0, decide_eq_true hw0]; rfl
      have hrun : runP r = r := run_stop (by unfold tkP; rw [if_neg (fun h => h.2 hw0), if_pos (.inr hw0)])
      rw [hrun]
      simp -implicitDefEqProofs only [go_sem, b0]
      unfold gV
      rw [eb, hre]
      refine ⟨by show 5 ≤ 5; decide, ?_⟩
      refine sub_mk [] rfl rfl rfl ?_
      simp only [tmSub, hpSub, objSub, eqTm, eqHp, rn, lk, SV.ren, SV.renC, SV.renB, SV.renA, ren_ints, ren_strs, ren_pl, ren_svs, SV.v.injEq, Value.int.injEq, Body.ints.injEq, SV.ptr.injEq, SV.sl.injEq, Value.string.injEq, Value.bool.injEq, List.map_cons, List.map_nil, forall_const, Nat.reduceLT, Nat.lt_add_one, imp_self, true_and, and_true, and_self, ob_some, get_mk, lk_cons, ↓reduceIte, Nat.reduceEqDiff, ne_eq, not_true_eq_false, not_false_eq_true, Nat.one_ne_zero, Nat.zero_ne_one, Nat.succ_ne_self, Nat.reduceAdd, Bool.false_eq_true, false_implies, implies_true, reduceCtorEq]
      repeat' (first | rfl | apply And.intro)
    have b0 : decide ((a : Int) < s.size) = true := decide_eq_true (by omega)
    have tk : tkP r = if num (s.extract a (a + 1)) ≠ 1 ∧ num (s.extract a (a + 1)) ≠ 2 then (true, { r with e := 3 })
        else if num (s.extract a (a + 1)) = 1 then if r.wait.size < 7 then (false, r) else (true, cpP r (num (r.wait.extract 1 5)) (num (r.wait.extract 5 7)))
        else if r.wait.size < 3 then (false, r) else (true, adP r (num (r.wait.extract 1 3))) := by
      unfold tkP
      rw [if_neg (fun h => by omega), if_neg (by omega), if_neg (by rw [hrb]; simp), wx (i := 0) (j := 1) (by omega), Nat.add_zero]
    have k0 : (bts s).getD a 0 = (num (s.extract a (a + 1)) : Nat) := byte_num c0
    have kb : num (s.extract a (a + 1)) < 256 := num_ltk (k := 1) (by rw [ex_size]; omega)
    generalize num (s.extract a (a + 1)) = kd at tk k0 kb
    have step : ∀ {q : Pt}, tkP r = (true, q) → runP r = runP q := fun h => by have := run_step ok hfr hre (by rw [h]); rw [h] at this; exact this
    have w1 : IntKind.i64.wrap ((s.size : Int) - (a : Int)) = (s.size : Int) - a := wrap_i64 (by omega) (by omega)
    have wm : IntKind.i64.wrap ((p.size : Int) - (r.made.size : Int)) = (p.size : Int) - r.made.size := wrap_i64 (by omega) (by omega)
    simp -implicitDefEqProofs only [go_sem, b0, k0]
    refine ⟨by omega, ?_⟩
    by_cases c1 : kd = 1
    · have d1 : decide ((kd : Int) = 1) = true := decide_eq_true (by omega)
      rw [if_neg (by omega), if_pos c1] at tk
      simp -implicitDefEqProofs only [go_sem, d1, w1]
      by_cases c2 : s.size - a < 7
      · have d2 : decide ((s.size : Int) - a < 7) = true := decide_eq_true (by omega)
        rw [if_pos (by omega)] at tk
        rw [show runP r = r from run_stop (by rw [tk])]
        simp -implicitDefEqProofs only [go_sem, d2]
        unfold gV
        have eb : endB r = false := by unfold endB; rw [show decide (r.wait.size = 0) = false from decide_eq_false (by omega)]; simp
        rw [eb, hre]
        refine ⟨by show 5 ≤ 5; decide, ?_⟩
        refine sub_mk [] rfl rfl rfl ?_
        simp only [tmSub, hpSub, objSub, eqTm, eqHp, rn, lk, SV.ren, SV.renC, SV.renB, SV.renA, ren_ints, ren_strs, ren_pl, ren_svs, SV.v.injEq, Value.int.injEq, Body.ints.injEq, SV.ptr.injEq, SV.sl.injEq, Value.string.injEq, Value.bool.injEq, List.map_cons, List.map_nil, forall_const, Nat.reduceLT, Nat.lt_add_one, imp_self, true_and, and_true, and_self, ob_some, get_mk, lk_cons, ↓reduceIte, Nat.reduceEqDiff, ne_eq, not_true_eq_false, not_false_eq_true, Nat.one_ne_zero, Nat.zero_ne_one, Nat.succ_ne_self, Nat.reduceAdd, Bool.false_eq_true, false_implies, implies_true, reduceCtorEq]
        repeat' (first | rfl | apply And.intro)
      have d2 : decide ((s.size : Int) - a < 7) = false := decide_eq_false (by omega)
      rw [if_neg (by omega), wx (i := 1) (j := 5) (by omega), wx (i := 5) (j := 7) (by omega)] at tk
      have w2 : IntKind.i64.wrap ((a : Int) + 7) = ((a + 7 : Nat) : Int) := by rw [wrap_i64 (by omega) (by omega)]; omega
      have w3 : IntKind.i64.wrap (((a + 7 : Nat) : Int) - 2) = ((a + 5 : Nat) : Int) := by rw [wrap_i64 (by omega) (by omega)]; omega
      have w4 : IntKind.i64.wrap ((a : Int) + 1) = ((a + 1 : Nat) : Int) := by rw [wrap_i64 (by omega) (by omega)]; omega
      simp -implicitDefEqProofs only [go_sem, d2, w2, w3]
      refine at_call trdnum (rdnumS (a := a + 5) (k := 2) (by omega) (by decide) (by omega)) ?_
      simp -implicitDefEqProofs only [go_sem, d1, w4]
      refine at_call trdnum (rdnumS (a := a + 1) (k := 4) (by omega) (by decide) (by omega)) ?_
      rw [show a + 5 + 2 = a + 7 from rfl, show a + 1 + 4 = a + 5 from rfl]
      have k2 : num (s.extract (a + 1) (a + 5)) < 72057594037927936 := num_lt' (by rw [ex_size]; omega)
      have k3 : num (s.extract (a + 5) (a + 7)) < 65536 := num_ltk (k := 2) (by rw [ex_size]; omega)
      generalize num (s.extract (a + 1) (a + 5)) = fr at k2 tk
      generalize num (s.extract (a + 5) (a + 7)) = k at k3 tk
      have hwt : r.wait.extract 7 r.wait.size = s.extract (a + 7) s.size := by
        rw [hrz, wx (i := 7) (j := s.size - a) (by omega), show a + (s.size - a) = s.size by omega]
      simp -implicitDefEqProofs only [go_sem]
      by_cases c6 : k = 0
      · have a6 : decide ((k : Int) = 0) = true := decide_eq_true (by omega)
        rw [show cpP r fr k = { r with wait := r.wait.extract 7 r.wait.size, e := 3 } from if_pos (.inl c6)] at tk
        rw [step tk, run_err (by show ¬(3 : Int) = 0; decide)]
        simp -implicitDefEqProofs only [go_sem, a6]
        unfold gV endB
        refine ⟨by show 5 ≤ 5; decide, ?_⟩
        refine sub_mk [] rfl rfl rfl ?_
        simp only [tmSub, hpSub, objSub, eqTm, eqHp, rn, lk, SV.ren, SV.renC, SV.renB, SV.renA, ren_ints, ren_strs, ren_pl, ren_svs, SV.v.injEq, Value.int.injEq, Body.ints.injEq, SV.ptr.injEq, SV.sl.injEq, Value.string.injEq, Value.bool.injEq, List.map_cons, List.map_nil, forall_const, Nat.reduceLT, Nat.lt_add_one, imp_self, true_and, and_true, and_self, ob_some, get_mk, lk_cons, ↓reduceIte, Nat.reduceEqDiff, ne_eq, not_true_eq_false, not_false_eq_true, Nat.one_ne_zero, Nat.zero_ne_one, Nat.succ_ne_self, Nat.reduceAdd, Bool.false_eq_true, false_implies, implies_true, reduceCtorEq]
        repeat' (first | rfl | apply And.intro)
      have a6 : decide ((k : Int) = 0) = false := decide_eq_false (by omega)
      by_cases c7 : p.old.size < fr
      · have a7 : decide ((fr : Int) > p.old.size) = true := decide_eq_true (by omega)
        rw [show cpP r fr k = { r with wait := r.wait.extract 7 r.wait.size, e := 3 } from if_pos (.inr (.inl (by rw [hro]; exact c7)))] at tk
        rw [step tk, run_err (by show ¬(3 : Int) = 0; decide)]
        simp -implicitDefEqProofs only [go_sem, a6, d1, a7]
        unfold gV endB
        refine ⟨by show 5 ≤ 5; decide, ?_⟩
        refine sub_mk [] rfl rfl rfl ?_
        simp only [tmSub, hpSub, objSub, eqTm, eqHp, rn, lk, SV.ren, SV.renC, SV.renB, SV.renA, ren_ints, ren_strs, ren_pl, ren_svs, SV.v.injEq, Value.int.injEq, Body.ints.injEq, SV.ptr.injEq, SV.sl.injEq, Value.string.injEq, Value.bool.injEq, List.map_cons, List.map_nil, forall_const, Nat.reduceLT, Nat.lt_add_one, imp_self, true_and, and_true, and_self, ob_some, get_mk, lk_cons, ↓reduceIte, Nat.reduceEqDiff, ne_eq, not_true_eq_false, not_false_eq_true, Nat.one_ne_zero, Nat.zero_ne_one, Nat.succ_ne_self, Nat.reduceAdd, Bool.false_eq_true, false_implies, implies_true, reduceCtorEq]
        repeat' (first | rfl | apply And.intro)
      have a7 : decide ((fr : Int) > p.old.size) = false := decide_eq_false (by omega)
      have w5 : IntKind.i64.wrap ((p.old.size : Int) - (fr : Int)) = (p.old.size : Int) - fr := wrap_i64 (by omega) (by omega)
      by_cases c8 : p.old.size < fr + k
      · have a8 : decide ((k : Int) > (p.old.size : Int) - fr) = true := decide_eq_true (by omega)
        rw [show cpP r fr k = { r with wait := r.wait.extract 7 r.wait.size, e := 3 } from if_pos (.inr (.inr (by rw [hro]; exact c8)))] at tk
        rw [step tk, run_err (by show ¬(3 : Int) = 0; decide)]
        simp -implicitDefEqProofs only [go_sem, a6, d1, a7, w5, a8]
        unfold gV endB
        refine ⟨by show 5 ≤ 5; decide, ?_⟩
        refine sub_mk [] rfl rfl rfl ?_
        simp only [tmSub, hpSub, objSub, eqTm, eqHp, rn, lk, SV.ren, SV.renC, SV.renB, SV.renA, ren_ints, ren_strs, ren_pl, ren_svs, SV.v.injEq, Value.int.injEq, Body.ints.injEq, SV.ptr.injEq, SV.sl.injEq, Value.string.injEq, Value.bool.injEq, List.map_cons, List.map_nil, forall_const, Nat.reduceLT, Nat.lt_add_one, imp_self, true_and, and_true, and_self, ob_some, get_mk, lk_cons, ↓reduceIte, Nat.reduceEqDiff, ne_eq, not_true_eq_false, not_false_eq_true, Nat.one_ne_zero, Nat.zero_ne_one, Nat.succ_ne_self, Nat.reduceAdd, Bool.false_eq_true, false_implies, implies_true, reduceCtorEq]
        repeat' (first | rfl | apply And.intro)
      have a8 : decide ((k : Int) > (p.old.size : Int) - fr) = false := decide_eq_false (by omega)
      rw [show cpP r fr k = if r.size < r.made.size + k then { r with wait := r.wait.extract 7 r.wait.size, e := 4 } else { r with wait := r.wait.extract 7 r.wait.size, made := r.made ++ r.old.extract fr (fr + k) } from if_neg (by rw [hro]; omega)] at tk
      simp -implicitDefEqProofs only [go_sem, a6, d1, a7, w5, a8, wm]
      by_cases c9 : p.size < r.made.size + k
      · have a9 : decide ((k : Int) > (p.size : Int) - r.made.size) = true := decide_eq_true (by omega)
        rw [if_pos (by rw [hrs]; exact c9)] at tk
        rw [step tk, run_err (by show ¬(4 : Int) = 0; decide)]
        simp -implicitDefEqProofs only [go_sem, a9]
        unfold gV endB
        refine ⟨by show 5 ≤ 5; decide, ?_⟩
        refine sub_mk [] rfl rfl rfl ?_
        simp only [tmSub, hpSub, objSub, eqTm, eqHp, rn, lk, SV.ren, SV.renC, SV.renB, SV.renA, ren_ints, ren_strs, ren_pl, ren_svs, SV.v.injEq, Value.int.injEq, Body.ints.injEq, SV.ptr.injEq, SV.sl.injEq, Value.string.injEq, Value.bool.injEq, List.map_cons, List.map_nil, forall_const, Nat.reduceLT, Nat.lt_add_one, imp_self, true_and, and_true, and_self, ob_some, get_mk, lk_cons, ↓reduceIte, Nat.reduceEqDiff, ne_eq, not_true_eq_false, not_false_eq_true, Nat.one_ne_zero, Nat.zero_ne_one, Nat.succ_ne_self, Nat.reduceAdd, Bool.false_eq_true, false_implies, implies_true, reduceCtorEq]
        repeat' (first | rfl | apply And.intro)
      have a9 : decide ((k : Int) > (p.size : Int) - r.made.size) = false := decide_eq_false (by omega)
      rw [if_neg (by rw [hrs]; exact c9), hwt, hro] at tk
      have w6 : IntKind.i64.wrap ((fr : Int) + (k : Int)) = ((fr + k : Nat) : Int) := by rw [wrap_i64 (by omega) (by omega)]; omega
      simp -implicitDefEqProofs only [go_sem, a9, w2, d1, w6]
      refine ⟨⟨by omega, by omega⟩, by rw [ex_size]; omega, ?_⟩
      have t := (tk_ok ok hfr hre).1
      rw [tk] at t
      refine kLoop_mk (a + 7, { r with wait := s.extract (a + 7) s.size, made := r.made ++ p.old.extract fr (fr + k) }) ?_ (by show s.size - (a + 7) < s.size - a; omega) ?_
      · have hqq := (step tk).symm.trans hq
        rw [← hro] at t hqq
        exact ⟨by rw [← hro]; exact t.ok, hre, hrb, hra0, hro, hrs, hrh, by show a + 7 ≤ _; omega, rfl, by rw [← hro]; exact hqq⟩
      · refine sub_mk [] rfl rfl rfl ?_
        simp only [tmSub, hpSub, objSub, eqTm, eqHp, rn, lk, SV.ren, SV.renC, SV.renB, SV.renA, ren_ints, ren_strs, ren_pl, ren_svs, SV.v.injEq, Value.int.injEq, Body.ints.injEq, SV.ptr.injEq, SV.sl.injEq, Value.string.injEq, Value.bool.injEq, List.map_cons, List.map_nil, forall_const, Nat.reduceLT, Nat.lt_add_one, imp_self, true_and, and_true, and_self, ob_some, get_mk, lk_cons, ↓reduceIte, Nat.reduceEqDiff, ne_eq, not_true_eq_false, not_false_eq_true, Nat.one_ne_zero, Nat.zero_ne_one, Nat.succ_ne_self, Nat.reduceAdd, Bool.false_eq_true, false_implies, implies_true, reduceCtorEq]
        repeat' (first | rfl | apply And.intro)
    have d1 : decide ((kd : Int) = 1) = false := decide_eq_false (by omega)
    by_cases c3 : kd = 2
    rotate_left
    · have d3 : decide ((kd : Int) = 2) = false := decide_eq_false (by omega)
      rw [if_pos ⟨c1, c3⟩] at tk
      rw [step tk, run_err (by show ¬(3 : Int) = 0; decide)]
      simp -implicitDefEqProofs only [go_sem, d1, d3]
      unfold gV endB
      refine ⟨by show 5 ≤ 5; decide, ?_⟩
      refine sub_mk [] rfl rfl rfl ?_
      simp only [tmSub, hpSub, objSub, eqTm, eqHp, rn, lk, SV.ren, SV.renC, SV.renB, SV.renA, ren_ints, ren_strs, ren_pl, ren_svs, SV.v.injEq, Value.int.injEq, Body.ints.injEq, SV.ptr.injEq, SV.sl.injEq, Value.string.injEq, Value.bool.injEq, List.map_cons, List.map_nil, forall_const, Nat.reduceLT, Nat.lt_add_one, imp_self, true_and, and_true, and_self, ob_some, get_mk, lk_cons, ↓reduceIte, Nat.reduceEqDiff, ne_eq, not_true_eq_false, not_false_eq_true, Nat.one_ne_zero, Nat.zero_ne_one, Nat.succ_ne_self, Nat.reduceAdd, Bool.false_eq_true, false_implies, implies_true, reduceCtorEq]
      repeat' (first | rfl | apply And.intro)
    have d3 : decide ((kd : Int) = 2) = true := decide_eq_true (by omega)
    rw [if_neg (by omega), if_neg c1] at tk
    simp -implicitDefEqProofs only [go_sem, d1, d3, w1]
    by_cases c2 : s.size - a < 3
    · have d2 : decide ((s.size : Int) - a < 3) = true := decide_eq_true (by omega)
      rw [if_pos (by omega)] at tk
      rw [show runP r = r from run_stop (by rw [tk])]
      simp -implicitDefEqProofs only [go_sem, d2]
      unfold gV
      have eb : endB r = false := by unfold endB; rw [show decide (r.wait.size = 0) = false from decide_eq_false (by omega)]; simp
      rw [eb, hre]
      refine ⟨by show 5 ≤ 5; decide, ?_⟩
      refine sub_mk [] rfl rfl rfl ?_
      simp only [tmSub, hpSub, objSub, eqTm, eqHp, rn, lk, SV.ren, SV.renC, SV.renB, SV.renA, ren_ints, ren_strs, ren_pl, ren_svs, SV.v.injEq, Value.int.injEq, Body.ints.injEq, SV.ptr.injEq, SV.sl.injEq, Value.string.injEq, Value.bool.injEq, List.map_cons, List.map_nil, forall_const, Nat.reduceLT, Nat.lt_add_one, imp_self, true_and, and_true, and_self, ob_some, get_mk, lk_cons, ↓reduceIte, Nat.reduceEqDiff, ne_eq, not_true_eq_false, not_false_eq_true, Nat.one_ne_zero, Nat.zero_ne_one, Nat.succ_ne_self, Nat.reduceAdd, Bool.false_eq_true, false_implies, implies_true, reduceCtorEq]
      repeat' (first | rfl | apply And.intro)
    have d2 : decide ((s.size : Int) - a < 3) = false := decide_eq_false (by omega)
    rw [if_neg (by omega), wx (i := 1) (j := 3) (by omega)] at tk
    have w2 : IntKind.i64.wrap ((a : Int) + 3) = ((a + 3 : Nat) : Int) := by rw [wrap_i64 (by omega) (by omega)]; omega
    have w3 : IntKind.i64.wrap (((a + 3 : Nat) : Int) - 2) = ((a + 1 : Nat) : Int) := by rw [wrap_i64 (by omega) (by omega)]; omega
    simp -implicitDefEqProofs only [go_sem, d2, w2, w3]
    refine at_call trdnum (rdnumS (a := a + 1) (k := 2) (by omega) (by decide) (by omega)) ?_
    rw [show a + 1 + 2 = a + 3 from rfl]
    have k3 : num (s.extract (a + 1) (a + 3)) < 65536 := num_ltk (k := 2) (by rw [ex_size]; omega)
    generalize num (s.extract (a + 1) (a + 3)) = k at k3 tk
    have hwt : r.wait.extract 3 r.wait.size = s.extract (a + 3) s.size := by
      rw [hrz, wx (i := 3) (j := s.size - a) (by omega), show a + (s.size - a) = s.size by omega]
    simp -implicitDefEqProofs only [go_sem, d1]
    by_cases c6 : k = 0
    · have a6 : decide ((k : Int) = 0) = true := decide_eq_true (by omega)
      rw [show adP r k = { r with wait := r.wait.extract 3 r.wait.size, e := 3 } from if_pos c6] at tk
      rw [step tk, run_err (by show ¬(3 : Int) = 0; decide)]
      simp -implicitDefEqProofs only [go_sem, a6, d1]
      unfold gV endB
      refine ⟨by show 5 ≤ 5; decide, ?_⟩
      refine sub_mk [] rfl rfl rfl ?_
      simp only [tmSub, hpSub, objSub, eqTm, eqHp, rn, lk, SV.ren, SV.renC, SV.renB, SV.renA, ren_ints, ren_strs, ren_pl, ren_svs, SV.v.injEq, Value.int.injEq, Body.ints.injEq, SV.ptr.injEq, SV.sl.injEq, Value.string.injEq, Value.bool.injEq, List.map_cons, List.map_nil, forall_const, Nat.reduceLT, Nat.lt_add_one, imp_self, true_and, and_true, and_self, ob_some, get_mk, lk_cons, ↓reduceIte, Nat.reduceEqDiff, ne_eq, not_true_eq_false, not_false_eq_true, Nat.one_ne_zero, Nat.zero_ne_one, Nat.succ_ne_self, Nat.reduceAdd, Bool.false_eq_true, false_implies, implies_true, reduceCtorEq]
      repeat' (first | rfl | apply And.intro)
    have a6 : decide ((k : Int) = 0) = false := decide_eq_false (by omega)
    rw [show adP r k = if r.size < r.made.size + k then { r with wait := r.wait.extract 3 r.wait.size, e := 4 } else { r with wait := r.wait.extract 3 r.wait.size, adds := k } from if_neg c6] at tk
    simp -implicitDefEqProofs only [go_sem, a6, d1, wm]
    by_cases c9 : p.size < r.made.size + k
    · have a9 : decide ((k : Int) > (p.size : Int) - r.made.size) = true := decide_eq_true (by omega)
      rw [if_pos (by rw [hrs]; exact c9)] at tk
      rw [step tk, run_err (by show ¬(4 : Int) = 0; decide)]
      simp -implicitDefEqProofs only [go_sem, a9]
      unfold gV endB
      refine ⟨by show 5 ≤ 5; decide, ?_⟩
      refine sub_mk [] rfl rfl rfl ?_
      simp only [tmSub, hpSub, objSub, eqTm, eqHp, rn, lk, SV.ren, SV.renC, SV.renB, SV.renA, ren_ints, ren_strs, ren_pl, ren_svs, SV.v.injEq, Value.int.injEq, Body.ints.injEq, SV.ptr.injEq, SV.sl.injEq, Value.string.injEq, Value.bool.injEq, List.map_cons, List.map_nil, forall_const, Nat.reduceLT, Nat.lt_add_one, imp_self, true_and, and_true, and_self, ob_some, get_mk, lk_cons, ↓reduceIte, Nat.reduceEqDiff, ne_eq, not_true_eq_false, not_false_eq_true, Nat.one_ne_zero, Nat.zero_ne_one, Nat.succ_ne_self, Nat.reduceAdd, Bool.false_eq_true, false_implies, implies_true, reduceCtorEq]
      repeat' (first | rfl | apply And.intro)
    have a9 : decide ((k : Int) > (p.size : Int) - r.made.size) = false := decide_eq_false (by omega)
    rw [if_neg (by rw [hrs]; exact c9), hwt] at tk
    have w6 : IntKind.i64.wrap ((s.size : Int) - ((a + 3 : Nat) : Int)) = (s.size : Int) - ((a + 3 : Nat) : Int) := wrap_i64 (by omega) (by omega)
    have mn : min (k : Int) ((s.size : Int) - ((a + 3 : Nat) : Int)) = ((min k (s.size - (a + 3)) : Nat) : Int) := by omega
    have m1 : min k (s.size - (a + 3)) ≤ k := Nat.min_le_left _ _
    have m2 : min k (s.size - (a + 3)) ≤ s.size - (a + 3) := Nat.min_le_right _ _
    have m3 : min k (s.size - (a + 3)) = k ∨ min k (s.size - (a + 3)) = s.size - (a + 3) := by omega
    have t := tk_ok ok hfr hre
    rw [tk] at t
    obtain ⟨t1, t2⟩ := t
    have hw3 : (s.extract (a + 3) s.size).size = s.size - (a + 3) := by rw [ex_size]; omega
    generalize hm0 : min k (s.size - (a + 3)) = m at mn m1 m2 m3
    have w7 : IntKind.i64.wrap (((a + 3 : Nat) : Int) + (m : Int)) = ((a + 3 + m : Nat) : Int) := by rw [wrap_i64 (by omega) (by omega)]; omega
    have hr2 : runP r = if s.size - (a + 3) = 0 then { r with wait := s.extract (a + 3) s.size, adds := k } else runP { r with wait := s.extract (a + 3 + m) s.size, made := r.made ++ s.extract (a + 3) (a + 3 + m), adds := k - m } := by
      rw [step tk]
      by_cases c : s.size - (a + 3) = 0
      · rw [if_pos c]
        exact run_stop (by unfold tkP; rw [if_neg (fun h => h.2 (by show (s.extract (a + 3) s.size).size = 0; omega)), if_pos (.inr (by show (s.extract (a + 3) s.size).size = 0; omega))])
      · rw [if_neg c]
        have tk2 : tkP { r with wait := s.extract (a + 3) s.size, adds := k } = (true, { r with wait := s.extract (a + 3 + m) s.size, made := r.made ++ s.extract (a + 3) (a + 3 + m), adds := k - m }) := by
          unfold tkP
          rw [if_pos ⟨by show 0 < k; omega, by show ¬(s.extract (a + 3) s.size).size = 0; omega⟩]
          show (true, ({ r with wait := (s.extract (a + 3) s.size).extract (min k (s.extract (a + 3) s.size).size) (s.extract (a + 3) s.size).size, made := r.made ++ (s.extract (a + 3) s.size).extract 0 (min k (s.extract (a + 3) s.size).size), adds := k - min k (s.extract (a + 3) s.size).size } : Pt)) = _
          rw [hw3, hm0, ext_ext (by omega), ext_ext (by omega), show a + 3 + (s.size - (a + 3)) = s.size by omega, Nat.add_zero]
        have := run_step t1.ok t2 hre (by rw [tk2])
        rw [tk2] at this
        exact this
    have hok3 : s.size - (a + 3) ≠ 0 → Pt.ok { r with wait := s.extract (a + 3 + m) s.size, made := r.made ++ s.extract (a + 3) (a + 3 + m), adds := k - m } := by
      intro c
      have ho3 := ok.os
      have hoz := ok.oz
      have e1 : (r.made ++ s.extract (a + 3) (a + 3 + m)).size = r.made.size + m := by rw [ByteArray.size_append, ex_size]; omega
      refine ⟨by show (s.extract _ _).size ≤ _; rw [ex_size]; omega, ho3, hoz, by show (r.made ++ s.extract (a + 3) (a + 3 + m)).size + (k - m) ≤ _; omega, fun _ => ⟨ho.1, ho.2.1, by show (r.made ++ s.extract (a + 3) (a + 3 + m)).size + (k - m) ≤ r.size; omega⟩⟩
    simp -implicitDefEqProofs only [go_sem, a9, w2, d1, w6, mn, w7]
    refine ⟨⟨by omega, by omega⟩, by rw [ex_size]; omega, ?_⟩
    by_cases c10 : m < k
    · have d10 : decide ((m : Int) < k) = true := decide_eq_true (by omega)
      have hms : m = s.size - (a + 3) := by omega
      simp -implicitDefEqProofs only [go_sem, d10]
      by_cases c11 : s.size - (a + 3) = 0
      · rw [hr2, if_pos c11]
        have eb : endB { r with wait := s.extract (a + 3) s.size, adds := k } = false := by
          unfold endB
          rw [show decide (({ r with wait := s.extract (a + 3) s.size, adds := k } : Pt).adds = 0) = false from decide_eq_false c6]
          simp
        have e2 : s.extract (a + 3) (a + 3 + m) = ⟨#[]⟩ := ba_zero (by rw [ex_size]; omega)
        have e3 : r.made ++ (⟨#[]⟩ : ByteArray) = r.made := by apply ByteArray.ext; simp
        unfold gV
        rw [eb, e2, e3]
        refine ⟨by show 5 ≤ 5; decide, ?_⟩
        refine sub_mk [] rfl rfl rfl ?_
        simp only [tmSub, hpSub, objSub, eqTm, eqHp, rn, lk, SV.ren, SV.renC, SV.renB, SV.renA, ren_ints, ren_strs, ren_pl, ren_svs, SV.v.injEq, Value.int.injEq, Body.ints.injEq, SV.ptr.injEq, SV.sl.injEq, Value.string.injEq, Value.bool.injEq, List.map_cons, List.map_nil, forall_const, Nat.reduceLT, Nat.lt_add_one, imp_self, true_and, and_true, and_self, ob_some, get_mk, lk_cons, ↓reduceIte, Nat.reduceEqDiff, ne_eq, not_true_eq_false, not_false_eq_true, Nat.one_ne_zero, Nat.zero_ne_one, Nat.succ_ne_self, Nat.reduceAdd, Bool.false_eq_true, false_implies, implies_true, reduceCtorEq]
        rw [hre]
        repeat' (first | rfl | apply And.intro)
      · rw [hr2, if_neg c11]
        have hw4 : (s.extract (a + 3 + m) s.size).size = 0 := by rw [ex_size]; omega
        rw [run_stop (p := { r with wait := s.extract (a + 3 + m) s.size, made := r.made ++ s.extract (a + 3) (a + 3 + m), adds := k - m }) (by unfold tkP; rw [if_neg (fun h => h.2 hw4), if_pos (.inr hw4)])]
        have eb : endB { r with wait := s.extract (a + 3 + m) s.size, made := r.made ++ s.extract (a + 3) (a + 3 + m), adds := k - m } = false := by
          unfold endB
          rw [show decide (({ r with wait := s.extract (a + 3 + m) s.size, made := r.made ++ s.extract (a + 3) (a + 3 + m), adds := k - m } : Pt).adds = 0) = false from decide_eq_false (by show ¬k - m = 0; omega)]
          simp
        unfold gV
        rw [eb]
        refine ⟨by show 5 ≤ 5; decide, ?_⟩
        refine sub_mk [] rfl rfl rfl ?_
        simp only [tmSub, hpSub, objSub, eqTm, eqHp, rn, lk, SV.ren, SV.renC, SV.renB, SV.renA, ren_ints, ren_strs, ren_pl, ren_svs, SV.v.injEq, Value.int.injEq, Body.ints.injEq, SV.ptr.injEq, SV.sl.injEq, Value.string.injEq, Value.bool.injEq, List.map_cons, List.map_nil, forall_const, Nat.reduceLT, Nat.lt_add_one, imp_self, true_and, and_true, and_self, ob_some, get_mk, lk_cons, ↓reduceIte, Nat.reduceEqDiff, ne_eq, not_true_eq_false, not_false_eq_true, Nat.one_ne_zero, Nat.zero_ne_one, Nat.succ_ne_self, Nat.reduceAdd, Bool.false_eq_true, false_implies, implies_true, reduceCtorEq]
        rw [hre]
        repeat' (first | rfl | apply And.intro)
    · have d10 : decide ((m : Int) < k) = false := decide_eq_false (by omega)
      have hmk : m = k := by omega
      simp -implicitDefEqProofs only [go_sem, d10]
      rw [if_neg (by omega)] at hr2
      refine kLoop_mk (a + 3 + m, { r with wait := s.extract (a + 3 + m) s.size, made := r.made ++ s.extract (a + 3) (a + 3 + m), adds := k - m }) ?_ (by show s.size - (a + 3 + m) < s.size - a; omega) ?_
      · exact ⟨hok3 (by omega), hre, hrb, by show k - m = 0; omega, hro, hrs, hrh, by show a + 3 + m ≤ _; omega, rfl, hr2.symm.trans hq⟩
      · refine sub_mk [] rfl rfl rfl ?_
        simp only [tmSub, hpSub, objSub, eqTm, eqHp, rn, lk, SV.ren, SV.renC, SV.renB, SV.renA, ren_ints, ren_strs, ren_pl, ren_svs, SV.v.injEq, Value.int.injEq, Body.ints.injEq, SV.ptr.injEq, SV.sl.injEq, Value.string.injEq, Value.bool.injEq, List.map_cons, List.map_nil, forall_const, Nat.reduceLT, Nat.lt_add_one, imp_self, true_and, and_true, and_self, ob_some, get_mk, lk_cons, ↓reduceIte, Nat.reduceEqDiff, ne_eq, not_true_eq_false, not_false_eq_true, Nat.one_ne_zero, Nat.zero_ne_one, Nat.succ_ne_self, Nat.reduceAdd, Bool.false_eq_true, false_implies, implies_true, reduceCtorEq]
        repeat' (first | rfl | apply And.intro)
end
section
/- Delta: the document's answers. -/
set_option linter.unusedVariables false
set_option linter.unusedSimpArgs false
set_option maxRecDepth 100000
open Go.Proofs
variable {p q : Pt} {H : Hp} {n : Nat} {x : Nat → Option SO}
theorem instrS {s old h : ByteArray} {z : Nat} (hp : p.ok) (he : p.e = 0) (hb : p.begun = true) (ha : p.adds = 0) (hm : p.made = ⟨#[]⟩) (hs : s.size ≤ 16384) (hle : 72 ≤ s.size) (hw : p.wait = s.extract 72 s.size) (ho : p.old = old) (hz : p.size = z) (hh : p.hash = h) :
    SpecAt Try.prog nrInstr [.agg [.v (.string ⟨#[]⟩), .v (.int .i64 0), .v (.bool false), .v (.int .i64 z), .v (.string h)], .v (.string old), .v (.string s)] H n (gV (runP p) z h) H n := by
  subst ho hz hh
  exact lift_pure (okT.spec trInstr (instrW (x := H.x) hp he hb ha hm hs rfl hle hw)) rfl
/-- What is looked at of a patch. -/
def seenP (s : ByteArray) : ByteArray := s.extract 0 (min s.size 16384)
def sure0 (old s : ByteArray) : Int := if 8192 < num (s.extract 36 40) then 4 else if num (s.extract 0 4) ≠ old.size ∨ s.extract 4 36 ≠ sha (bts old) then 10 else 0
def st1 (old patch : ByteArray) : Pt := { nwP old with seen := patch.size, wait := (seenP patch).extract 72 (seenP patch).size, size := num ((seenP patch).extract 36 40), hash := (seenP patch).extract 40 72, begun := true, e := sure0 old (seenP patch) }
def goQ (old patch : ByteArray) : Pt := (wrP (nwP old) patch).2
def gz (old patch : ByteArray) : Nat × ByteArray := if 8192 < old.size ∨ (seenP patch).size < 72 ∨ sure0 old (seenP patch) ≠ 0 then (0, ⟨#[]⟩) else (num ((seenP patch).extract 36 40), (seenP patch).extract 40 72)
theorem in_nw2 {old s : ByteArray} : inP (nwP old) s = { nwP old with seen := s.size, wait := seenP s } := by
  have e1 : (⟨#[]⟩ : ByteArray) ++ s.extract 0 (min s.size (16384 - 0)) = seenP s := by rw [ba_nil]; rfl
  show ({ nwP old with seen := 0 + s.size, wait := ⟨#[]⟩ ++ s.extract 0 (min s.size (16384 - 0)) } : Pt) = _
  rw [e1, Nat.zero_add]
theorem go_q {old patch : ByteArray} (ho : old.size ≤ 8192) : goQ old patch = outP (runP { nwP old with seen := patch.size, wait := seenP patch }) := by
  unfold goQ wrP
  rw [if_neg (fun h => h (nw_e ho)), if_neg (by show ¬false = true; decide), in_nw2]
theorem go_long {old patch : ByteArray} (ho : 8192 < old.size) : goQ old patch = nwP old := by
  unfold goQ wrP
  rw [if_pos (by show (if 8192 < old.size then (4 : Int) else 0) ≠ 0; rw [if_pos ho]; decide)]
theorem go_short {old patch : ByteArray} (ho : old.size ≤ 8192) (hs : (seenP patch).size < 72) : goQ old patch = outP { nwP old with seen := patch.size, wait := seenP patch } := by
  rw [go_q ho]
  congr 1
  refine run_stop ?_
  unfold tkP
  rw [if_neg (fun h => absurd h.1 (by show ¬0 < 0; decide))]
  split
  · rfl
  · refine (congrArg Prod.fst (if_pos rfl)).trans ?_
    unfold hdP
    rw [if_pos hs]
theorem go_head {old patch : ByteArray} (ho : old.size ≤ 8192) (hs : ¬(seenP patch).size < 72) (hp : patch.size ≤ 1073000000) : goQ old patch = outP (runP (st1 old patch)) ∧ (st1 old patch).ok := by
  have hz : (seenP patch).size ≤ 16384 := by unfold seenP; rw [ex_size]; omega
  have he : (nwP old).e = 0 := nw_e ho
  obtain ⟨i1, i2⟩ := in_ok (nw_good old) he hp
  rw [in_nw2] at i1 i2
  have htk : tkP { nwP old with seen := patch.size, wait := seenP patch } = (true, st1 old patch) := by
    unfold tkP
    rw [if_neg (fun h => absurd h.1 (by show ¬0 < 0; decide)), if_neg (fun h => h.elim (fun h => absurd h (by show ¬0 < 0; decide)) (fun h => hs (by have h : (seenP patch).size = 0 := h; omega)))]
    refine (if_pos rfl).trans ?_
    unfold hdP
    rw [if_neg hs]
    unfold st1 sure0
    rw [show ({ nwP old with seen := patch.size, wait := seenP patch } : Pt).e = 0 from he]
    rfl
  have hst := run_step i1 i2 (by exact he) (by rw [htk])
  have t := (tk_ok i1 i2 (by exact he)).1
  rw [htk] at hst t
  rw [go_q ho, hst]
  exact ⟨rfl, t.ok⟩
theorem spl5 {a b c d e a' b' c' d' e' : SV} : splice [a, b, c, d, e] 0 [a', b', c', d', e'] = [a', b', c', d', e'] := rfl
theorem spl51 {a b c d e b' : SV} : splice [a, b, c, d, e] 1 [b'] = [a, b', c, d, e] := rfl
theorem spl52 {a b c d e b' : SV} : splice [a, b, c, d, e] 2 [b'] = [a, b, b', d, e] := rfl
set_option maxHeartbeats 2000000 in
theorem goW {old patch : ByteArray} (hp : patch.size ≤ 1073000000) :
    fnVC CT mrGo [.v (.string old), .v (.string patch)] ⟨[], x⟩ 1 fun v H' n' => Sub 1 ⟨[(0, gV (goQ old patch) (gz old patch).1 (gz old patch).2)], ⟨[], x⟩, 1⟩ ⟨[(0, v)], H', n'⟩ := by
  unfold mrGo
  simp -implicitDefEqProofs only [↓fnVC, initTm]
  simp -implicitDefEqProofs only [go_sem]
  by_cases c0 : 8192 < old.size
  · have b0 : decide ((old.size : Int) > 8192) = true := decide_eq_true (by omega)
    rw [go_long c0, show gz old patch = (0, ⟨#[]⟩) from if_pos (.inl c0)]
    simp -implicitDefEqProofs only [go_sem, b0]
    have e4 : (nwP old).e = 4 := if_pos c0
    have eb : endB (nwP old) = false := by unfold endB; rw [e4]; rfl
    unfold gV
    rw [eb, e4]
    refine ⟨rfl, rfl, by show 5 ≤ 5; decide, ?_⟩
    refine sub_mk [] rfl rfl rfl ?_
    simp only [tmSub, hpSub, objSub, eqTm, eqHp, rn, lk, SV.ren, SV.renC, SV.renB, SV.renA, ren_ints, ren_strs, ren_pl, ren_svs, SV.v.injEq, Value.int.injEq, Body.ints.injEq, SV.ptr.injEq, SV.sl.injEq, Value.string.injEq, Value.bool.injEq, List.map_cons, List.map_nil, forall_const, Nat.reduceLT, Nat.lt_add_one, imp_self, true_and, and_true, and_self, ob_some, get_mk, lk_cons, ↓reduceIte, Nat.reduceEqDiff, ne_eq, not_true_eq_false, not_false_eq_true, Nat.one_ne_zero, Nat.zero_ne_one, Nat.succ_ne_self, Nat.reduceAdd, Bool.false_eq_true, false_implies, implies_true, reduceCtorEq]
    repeat' (first | rfl | apply And.intro)
  have b0 : decide ((old.size : Int) > 8192) = false := decide_eq_false (by omega)
  have mn : min (patch.size : Int) 16384 = ((min patch.size 16384 : Nat) : Int) := by omega
  have ml : min patch.size 16384 ≤ patch.size := Nat.min_le_left _ _
  simp -implicitDefEqProofs only [go_sem, b0, mn]
  refine ⟨⟨by omega, by omega⟩, ?_⟩
  rw [show patch.extract 0 (min patch.size 16384) = seenP patch from rfl]
  have hz : (seenP patch).size = min patch.size 16384 := by unfold seenP; rw [ex_size]; omega
  have hz2 : (seenP patch).size ≤ 16384 := by omega
  by_cases c1 : (seenP patch).size < 72
  · have b1 : decide (((seenP patch).size : Int) ≥ 72) = false := decide_eq_false (by omega)
    have b2 : decide ((patch.size : Int) > 16384) = false := decide_eq_false (by omega)
    have eo : outP { nwP old with seen := patch.size, wait := seenP patch } = { nwP old with seen := min patch.size 16385, wait := seenP patch } := by
      unfold outP
      rw [if_neg (fun h => by have h : 16384 < patch.size := h.2; omega)]
    rw [go_short (by omega) c1, eo, show gz old patch = (0, ⟨#[]⟩) from if_pos (.inr (.inl c1))]
    simp -implicitDefEqProofs only [go_sem, b1, b2]
    have eb : endB { nwP old with seen := min patch.size 16385, wait := seenP patch } = false := by
      unfold endB
      rw [show ({ nwP old with seen := min patch.size 16385, wait := seenP patch } : Pt).begun = false from rfl, Bool.and_false, Bool.false_and, Bool.false_and]
    unfold gV
    rw [eb, show ({ nwP old with seen := min patch.size 16385, wait := seenP patch } : Pt).e = 0 from nw_e (by omega)]
    refine ⟨by show 5 ≤ 5; decide, ?_⟩
    refine sub_mk [] rfl rfl rfl ?_
    simp only [tmSub, hpSub, objSub, eqTm, eqHp, rn, lk, SV.ren, SV.renC, SV.renB, SV.renA, ren_ints, ren_strs, ren_pl, ren_svs, SV.v.injEq, Value.int.injEq, Body.ints.injEq, SV.ptr.injEq, SV.sl.injEq, Value.string.injEq, Value.bool.injEq, List.map_cons, List.map_nil, forall_const, Nat.reduceLT, Nat.lt_add_one, imp_self, true_and, and_true, and_self, ob_some, get_mk, lk_cons, ↓reduceIte, Nat.reduceEqDiff, ne_eq, not_true_eq_false, not_false_eq_true, Nat.one_ne_zero, Nat.zero_ne_one, Nat.succ_ne_self, Nat.reduceAdd, Bool.false_eq_true, false_implies, implies_true, reduceCtorEq]
    repeat' (first | rfl | apply And.intro)
  have b1 : decide (((seenP patch).size : Int) ≥ 72) = true := decide_eq_true (by omega)
  obtain ⟨g1, g2⟩ := go_head (old := old) (patch := patch) (by omega) c1 hp
  simp -implicitDefEqProofs only [go_sem, b1]
  refine at_call trdnum (rdnumS (a := 36) (k := 4) (by omega) (by decide) (by omega)) ?_
  rw [g1]
  have hsu : (st1 old patch).e = sure0 old (seenP patch) := by simp only [st1]
  have hz1 : (st1 old patch).size = num ((seenP patch).extract 36 40) := by simp only [st1]
  have hh1 : (st1 old patch).hash = (seenP patch).extract 40 72 := by simp only [st1]
  have hw1 : (st1 old patch).wait = (seenP patch).extract 72 (seenP patch).size := by simp only [st1]
  have hb1 : (st1 old patch).begun = true := rfl
  have hm1 : (st1 old patch).made = ⟨#[]⟩ := rfl
  have ha1 : (st1 old patch).adds = 0 := rfl
  have ho1 : (st1 old patch).old = old := rfl
  have hs1 : (st1 old patch).seen = patch.size := rfl
  have hgz : gz old patch = if sure0 old (seenP patch) ≠ 0 then (0, ⟨#[]⟩) else (num ((seenP patch).extract 36 40), (seenP patch).extract 40 72) := by
    unfold gz
    by_cases h : sure0 old (seenP patch) ≠ 0
    · rw [if_pos h, if_pos (.inr (.inr h))]
    · rw [if_neg h, if_neg (fun h2 => h2.elim (fun h2 => c0 h2) (fun h2 => h2.elim (fun h2 => c1 h2) h))]
  rw [hgz]
  clear hgz g1
  have hsu0 : sure0 old (seenP patch) = if 8192 < num ((seenP patch).extract 36 40) then 4 else if num ((seenP patch).extract 0 4) ≠ old.size ∨ (seenP patch).extract 4 36 ≠ sha (bts old) then 10 else 0 := by simp only [sure0]
  generalize st1 old patch = p1 at g2 hsu hz1 hh1 hw1 hb1 hm1 ha1 ho1 hs1 ⊢
  generalize seenP patch = s at *
  have bad : ∀ {X : Int}, sure0 old s = X → X ≠ 0 → gV (outP (runP p1)) 0 ⟨#[]⟩ = .agg [.v (.string ⟨#[]⟩), .v (.int .i64 X), .v (.bool false), .v (.int .i64 (0 : Nat)), .v (.string ⟨#[]⟩)] := by
    intro X hX h0
    have hne : p1.e ≠ 0 := by rw [hsu, hX]; exact h0
    rw [run_err hne]
    have e1 : (outP p1).e = X := by
      show (if p1.e = 0 ∧ 16384 < p1.seen then (4 : Int) else p1.e) = X
      rw [if_neg (fun h => hne h.1), hsu, hX]
    have e2 : endB (outP p1) = false := by unfold endB; rw [e1, decide_eq_false h0]; rfl
    unfold gV
    rw [e1, e2, show (outP p1).made = ⟨#[]⟩ from hm1]
  simp -implicitDefEqProofs only [go_sem]
  refine ⟨by omega, ?_⟩
  simp -implicitDefEqProofs only [go_sem]
  by_cases c2 : 8192 < num (s.extract 36 40)
  · have b2 : decide (((num (s.extract 36 40) : Nat) : Int) > 8192) = true := decide_eq_true (by omega)
    have hX : sure0 old s = 4 := by rw [hsu0, if_pos c2]
    rw [hX, if_pos (by decide), bad hX (by decide)]
    simp -implicitDefEqProofs only [go_sem, b2]
    refine ⟨rfl, rfl, by show 5 ≤ 5; decide, ?_⟩
    refine sub_mk [] rfl rfl rfl ?_
    simp only [tmSub, hpSub, objSub, eqTm, eqHp, rn, lk, SV.ren, SV.renC, SV.renB, SV.renA, ren_ints, ren_strs, ren_pl, ren_svs, SV.v.injEq, Value.int.injEq, Body.ints.injEq, SV.ptr.injEq, SV.sl.injEq, Value.string.injEq, Value.bool.injEq, List.map_cons, List.map_nil, forall_const, Nat.reduceLT, Nat.lt_add_one, imp_self, true_and, and_true, and_self, ob_some, get_mk, lk_cons, ↓reduceIte, Nat.reduceEqDiff, ne_eq, not_true_eq_false, not_false_eq_true, Nat.one_ne_zero, Nat.zero_ne_one, Nat.succ_ne_self, Nat.reduceAdd, Bool.false_eq_true, false_implies, implies_true, reduceCtorEq]
    repeat' (first | rfl | apply And.intro)
  have b2 : decide (((num (s.extract 36 40) : Nat) : Int) > 8192) = false := decide_eq_false (by omega)
  rw [if_neg c2] at hsu0
  simp -implicitDefEqProofs only [go_sem, b2]
  refine at_call trdnum (rdnumS (a := 0) (k := 4) (by omega) (by decide) (by omega)) ?_
  rw [Nat.zero_add]
  simp -implicitDefEqProofs only [go_sem]
  by_cases c3 : num (s.extract 0 4) = old.size
  rotate_left
  · have b3 : decide (((num (s.extract 0 4) : Nat) : Int) = old.size) = false := decide_eq_false (by omega)
    have hX : sure0 old s = 10 := by rw [hsu0, if_pos (.inl c3)]
    rw [hX, if_pos (by decide), bad hX (by decide)]
    simp -implicitDefEqProofs only [go_sem, b3]
    refine ⟨rfl, rfl, by show 5 ≤ 5; decide, ?_⟩
    refine sub_mk [] rfl rfl rfl ?_
    simp only [tmSub, hpSub, objSub, eqTm, eqHp, rn, lk, SV.ren, SV.renC, SV.renB, SV.renA, ren_ints, ren_strs, ren_pl, ren_svs, SV.v.injEq, Value.int.injEq, Body.ints.injEq, SV.ptr.injEq, SV.sl.injEq, Value.string.injEq, Value.bool.injEq, List.map_cons, List.map_nil, forall_const, Nat.reduceLT, Nat.lt_add_one, imp_self, true_and, and_true, and_self, ob_some, get_mk, lk_cons, ↓reduceIte, Nat.reduceEqDiff, ne_eq, not_true_eq_false, not_false_eq_true, Nat.one_ne_zero, Nat.zero_ne_one, Nat.succ_ne_self, Nat.reduceAdd, Bool.false_eq_true, false_implies, implies_true, reduceCtorEq]
    repeat' (first | rfl | apply And.intro)
  have b3 : decide (((num (s.extract 0 4) : Nat) : Int) = old.size) = true := decide_eq_true (by omega)
  simp -implicitDefEqProofs only [go_sem, b3]
  refine ⟨by omega, ?_⟩
  simp -implicitDefEqProofs only [go_sem, b3]
  refine at_call t11 (rsum1S (s := old) (by rfl) (by omega)) ?_
  by_cases c4 : s.extract 4 36 = sha (bts old)
  rotate_left
  · have b4 : seq (s.extract 4 36) (sha (bts old)) = false := seq_ne c4
    have hX : sure0 old s = 10 := by rw [hsu0, if_pos (.inr c4)]
    rw [hX, if_pos (by decide), bad hX (by decide)]
    simp -implicitDefEqProofs only [go_sem, b3, b4]
    refine ⟨rfl, rfl, by show 5 ≤ 5; decide, ?_⟩
    refine sub_mk [] rfl rfl rfl ?_
    simp only [tmSub, hpSub, objSub, eqTm, eqHp, rn, lk, SV.ren, SV.renC, SV.renB, SV.renA, ren_ints, ren_strs, ren_pl, ren_svs, SV.v.injEq, Value.int.injEq, Body.ints.injEq, SV.ptr.injEq, SV.sl.injEq, Value.string.injEq, Value.bool.injEq, List.map_cons, List.map_nil, forall_const, Nat.reduceLT, Nat.lt_add_one, imp_self, true_and, and_true, and_self, ob_some, get_mk, lk_cons, ↓reduceIte, Nat.reduceEqDiff, ne_eq, not_true_eq_false, not_false_eq_true, Nat.one_ne_zero, Nat.zero_ne_one, Nat.succ_ne_self, Nat.reduceAdd, Bool.false_eq_true, false_implies, implies_true, reduceCtorEq]
    repeat' (first | rfl | apply And.intro)
  have b4 : seq (s.extract 4 36) (sha (bts old)) = true := by rw [c4]; exact seq_self _
  have hX : sure0 old s = 0 := by rw [hsu0, if_neg (fun h => h.elim (fun h => h c3) fun h => h c4)]
  rw [hX, if_neg (fun h => h rfl)]
  have he1 : p1.e = 0 := by rw [hsu, hX]
  simp -implicitDefEqProofs only [go_sem, b3, b4]
  refine at_call trInstr (instrS (p := p1) g2 he1 hb1 ha1 hm1 (by omega) (by omega) hw1 ho1 hz1 hh1) ?_
  have rk := run_ok _ (Nat.le_refl _) g2 (fun h => by rw [hb1] at h; cases h)
  have hqs : (runP p1).seen = patch.size := rk.seen.trans hs1
  generalize runP p1 = Q at hqs ⊢
  unfold gV
  simp -implicitDefEqProofs only [go_sem, spl5]
  by_cases e0 : Q.e = 0
  · have d0 : decide (Q.e = 0) = true := decide_eq_true e0
    by_cases e1 : 16384 < patch.size
    · have d1 : decide ((patch.size : Int) > 16384) = true := decide_eq_true (by omega)
      have eo : outP Q = { Q with e := 4, seen := min Q.seen 16385 } := by unfold outP; rw [if_pos ⟨e0, by omega⟩]
      have eb : endB { Q with e := 4, seen := min Q.seen 16385 } = false := rfl
      rw [eo, eb]
      simp -implicitDefEqProofs only [go_sem, d0, d1, spl5, spl51, spl52]
      refine sub_mk [] rfl rfl rfl ?_
      simp only [tmSub, hpSub, objSub, eqTm, eqHp, rn, lk, SV.ren, SV.renC, SV.renB, SV.renA, ren_ints, ren_strs, ren_pl, ren_svs, SV.v.injEq, Value.int.injEq, Body.ints.injEq, SV.ptr.injEq, SV.sl.injEq, Value.string.injEq, Value.bool.injEq, List.map_cons, List.map_nil, forall_const, Nat.reduceLT, Nat.lt_add_one, imp_self, true_and, and_true, and_self, ob_some, get_mk, lk_cons, ↓reduceIte, Nat.reduceEqDiff, ne_eq, not_true_eq_false, not_false_eq_true, Nat.one_ne_zero, Nat.zero_ne_one, Nat.succ_ne_self, Nat.reduceAdd, Bool.false_eq_true, false_implies, implies_true, reduceCtorEq]
      repeat' (first | rfl | apply And.intro)
    · have d1 : decide ((patch.size : Int) > 16384) = false := decide_eq_false (by omega)
      have eo : outP Q = { Q with e := Q.e, seen := min Q.seen 16385 } := by unfold outP; rw [if_neg (fun h => by have := h.2; omega)]
      have eb : endB { Q with e := Q.e, seen := min Q.seen 16385 } = endB Q := rfl
      rw [eo, eb]
      simp -implicitDefEqProofs only [go_sem, d0, d1, spl5, spl51, spl52]
      refine sub_mk [] rfl rfl rfl ?_
      simp only [tmSub, hpSub, objSub, eqTm, eqHp, rn, lk, SV.ren, SV.renC, SV.renB, SV.renA, ren_ints, ren_strs, ren_pl, ren_svs, SV.v.injEq, Value.int.injEq, Body.ints.injEq, SV.ptr.injEq, SV.sl.injEq, Value.string.injEq, Value.bool.injEq, List.map_cons, List.map_nil, forall_const, Nat.reduceLT, Nat.lt_add_one, imp_self, true_and, and_true, and_self, ob_some, get_mk, lk_cons, ↓reduceIte, Nat.reduceEqDiff, ne_eq, not_true_eq_false, not_false_eq_true, Nat.one_ne_zero, Nat.zero_ne_one, Nat.succ_ne_self, Nat.reduceAdd, Bool.false_eq_true, false_implies, implies_true, reduceCtorEq]
      repeat' (first | rfl | apply And.intro)
  · have d0 : decide (Q.e = 0) = false := decide_eq_false e0
    have eo : outP Q = { Q with e := Q.e, seen := min Q.seen 16385 } := by unfold outP; rw [if_neg (fun h => e0 h.1)]
    have eb : endB { Q with e := Q.e, seen := min Q.seen 16385 } = endB Q := rfl
    rw [eo, eb]
    simp -implicitDefEqProofs only [go_sem, d0, spl5]
    refine sub_mk [] rfl rfl rfl ?_
    simp only [tmSub, hpSub, objSub, eqTm, eqHp, rn, lk, SV.ren, SV.renC, SV.renB, SV.renA, ren_ints, ren_strs, ren_pl, ren_svs, SV.v.injEq, Value.int.injEq, Body.ints.injEq, SV.ptr.injEq, SV.sl.injEq, Value.string.injEq, Value.bool.injEq, List.map_cons, List.map_nil, forall_const, Nat.reduceLT, Nat.lt_add_one, imp_self, true_and, and_true, and_self, ob_some, get_mk, lk_cons, ↓reduceIte, Nat.reduceEqDiff, ne_eq, not_true_eq_false, not_false_eq_true, Nat.one_ne_zero, Nat.zero_ne_one, Nat.succ_ne_self, Nat.reduceAdd, Bool.false_eq_true, false_implies, implies_true, reduceCtorEq]
    repeat' (first | rfl | apply And.intro)
theorem goS {old patch : ByteArray} (hp : patch.size ≤ 1073000000) : SpecAt Try.prog nrGo [.v (.string old), .v (.string patch)] H n (gV (goQ old patch) (gz old patch).1 (gz old patch).2) H n :=
  lift_pure (okT.spec trGo (goW (x := H.x) hp)) rfl
theorem tk_keep (hb : p.begun = true) : (tkP p).2.begun = true ∧ (tkP p).2.size = p.size ∧ (tkP p).2.hash = p.hash := by
  unfold tkP
  split
  · exact ⟨hb, rfl, rfl⟩
  split
  · exact ⟨hb, rfl, rfl⟩
  rw [if_neg (by rw [hb]; simp)]
  split
  · exact ⟨hb, rfl, rfl⟩
  split
  · split
    · exact ⟨hb, rfl, rfl⟩
    · unfold cpP
      split
      · exact ⟨hb, rfl, rfl⟩
      split <;> exact ⟨hb, rfl, rfl⟩
  · split
    · exact ⟨hb, rfl, rfl⟩
    · unfold adP
      split
      · exact ⟨hb, rfl, rfl⟩
      split <;> exact ⟨hb, rfl, rfl⟩
theorem rn_keep : ∀ (g : Nat) {p : Pt}, p.begun = true → (rnP g p).begun = true ∧ (rnP g p).size = p.size ∧ (rnP g p).hash = p.hash
  | 0, p, hb => ⟨hb, rfl, rfl⟩
  | g + 1, p, hb => by
    unfold rnP
    split
    · obtain ⟨k1, k2, k3⟩ := tk_keep hb
      obtain ⟨r1, r2, r3⟩ := rn_keep g k1
      exact ⟨r1, r2.trans k2, r3.trans k3⟩
    · exact ⟨hb, rfl, rfl⟩
theorem out_keep (hb : p.begun = true) : (outP (runP p)).size = p.size ∧ (outP (runP p)).hash = p.hash := (rn_keep (muP p) hb).2
theorem out_e {q : Pt} : (outP q).e = if q.e = 0 ∧ 16384 < q.seen then 4 else q.e := rfl
theorem gz_ok {old patch : ByteArray} (hp : patch.size ≤ 1073000000) (he : (goQ old patch).e = 0) (hb : (goQ old patch).begun = true) : gz old patch = ((goQ old patch).size, (goQ old patch).hash) := by
  by_cases c0 : 8192 < old.size
  · rw [go_long c0] at hb
    exact absurd hb (by show ¬false = true; decide)
  by_cases c1 : (seenP patch).size < 72
  · rw [go_short (by omega) c1] at hb
    exact absurd hb (by show ¬false = true; decide)
  obtain ⟨g1, g2⟩ := go_head (old := old) (patch := patch) (by omega) c1 hp
  have hsu : (st1 old patch).e = sure0 old (seenP patch) := by simp only [st1]
  rw [g1] at he hb ⊢
  by_cases c2 : sure0 old (seenP patch) = 0
  · unfold gz
    have hn : ¬(8192 < old.size ∨ (seenP patch).size < 72 ∨ sure0 old (seenP patch) ≠ 0) := by
      rintro (h | h | h)
      · exact c0 h
      · exact c1 h
      · exact h c2
    rw [if_neg hn]
    have hb1 : (st1 old patch).begun = true := by simp only [st1]
    obtain ⟨e1, e2⟩ := out_keep hb1
    rw [e1, e2]
    simp only [st1]
  · rw [run_err (by rw [hsu]; exact c2)] at he
    rw [out_e, hsu, if_neg (fun h => c2 h.1)] at he
    exact absurd he c2
theorem go_md {old patch : ByteArray} (hp : patch.size ≤ 1073000000) : (goQ old patch).made.size ≤ 8192 := by
  have := (wr_good (nw_good old) hp).1.ok.om
  show (wrP (nwP old) patch).2.made.size ≤ _
  omega
theorem rapplyS {old patch : ByteArray} (hp : patch.size ≤ 1073000000) : SpecAt Try.prog nrDApply [.v (.string old), .v (.string patch)] H n (apV old patch) H n := lift_pure (okT.spec trDApply (by
  unfold mrDApply
  simp -implicitDefEqProofs only [↓fnVC, initTm]
  simp -implicitDefEqProofs only [go_sem]
  refine at_call trGo (goS hp) ?_
  rw [show apV old patch = clV (goQ old patch) from rfl]
  have hz := gz_ok (old := old) hp
  have hmd := go_md (old := old) hp
  generalize gz old patch = zh at hz
  obtain ⟨z, h⟩ := zh
  generalize goQ old patch = q at hz hmd
  unfold gV clV
  simp -implicitDefEqProofs only [go_sem, spl5]
  by_cases e0 : q.e = 0
  rotate_left
  · have d0 : decide (q.e = 0) = false := decide_eq_false e0
    rw [show clP q = ((⟨#[]⟩, q.e), { q with closed := true }) from if_pos e0]
    simp -implicitDefEqProofs only [go_sem, d0, spl5]
    refine sub_mk [] rfl rfl rfl ?_
    simp only [tmSub, hpSub, objSub, eqTm, eqHp, rn, lk, SV.ren, SV.renC, SV.renB, SV.renA, ren_ints, ren_strs, ren_pl, ren_svs, SV.v.injEq, Value.int.injEq, Body.ints.injEq, SV.ptr.injEq, SV.sl.injEq, Value.string.injEq, Value.bool.injEq, List.map_cons, List.map_nil, forall_const, Nat.reduceLT, Nat.lt_add_one, imp_self, true_and, and_true, and_self, ob_some, get_mk, lk_cons, ↓reduceIte, Nat.reduceEqDiff, ne_eq, not_true_eq_false, not_false_eq_true, Nat.one_ne_zero, Nat.zero_ne_one, Nat.succ_ne_self, Nat.reduceAdd, Bool.false_eq_true, false_implies, implies_true, reduceCtorEq]
    repeat' (first | rfl | apply And.intro)
  have d0 : decide (q.e = 0) = true := decide_eq_true e0
  simp -implicitDefEqProofs only [go_sem, d0, spl5]
  cases hE : endB q with
  | false =>
    simp -implicitDefEqProofs only [go_sem, spl5]
    have hc : q.begun = false ∨ 0 < q.adds ∨ ¬q.wait.size = 0 ∨ q.made.size < q.size := by
      unfold endB at hE
      rw [decide_eq_true e0, Bool.true_and, Bool.and_eq_false_iff, Bool.and_eq_false_iff] at hE
      rcases hE with (h | h) | h
      · exact .inl h
      · exact .inr (.inl (by have := of_decide_eq_false h; omega))
      · exact .inr (.inr (.inl (of_decide_eq_false h)))
    rw [show clP q = ((⟨#[]⟩, 2), { q with closed := true, e := 2 }) by unfold clP; rw [if_neg (fun h => h e0), if_pos hc]]
    refine sub_mk [] rfl rfl rfl ?_
    simp only [tmSub, hpSub, objSub, eqTm, eqHp, rn, lk, SV.ren, SV.renC, SV.renB, SV.renA, ren_ints, ren_strs, ren_pl, ren_svs, SV.v.injEq, Value.int.injEq, Body.ints.injEq, SV.ptr.injEq, SV.sl.injEq, Value.string.injEq, Value.bool.injEq, List.map_cons, List.map_nil, forall_const, Nat.reduceLT, Nat.lt_add_one, imp_self, true_and, and_true, and_self, ob_some, get_mk, lk_cons, ↓reduceIte, Nat.reduceEqDiff, ne_eq, not_true_eq_false, not_false_eq_true, Nat.one_ne_zero, Nat.zero_ne_one, Nat.succ_ne_self, Nat.reduceAdd, Bool.false_eq_true, false_implies, implies_true, reduceCtorEq]
    repeat' (first | rfl | apply And.intro)
  | true =>
    unfold endB at hE
    rw [decide_eq_true e0, Bool.true_and, Bool.and_eq_true, Bool.and_eq_true] at hE
    obtain ⟨⟨hb, ha⟩, hw⟩ := hE
    have ha := of_decide_eq_true ha
    have hw := of_decide_eq_true hw
    have hzz := hz e0 hb
    have h1 : z = q.size := congrArg Prod.fst hzz
    have h2 : h = q.hash := congrArg Prod.snd hzz
    subst h1 h2
    simp -implicitDefEqProofs only [go_sem, spl5]
    by_cases c1 : q.made.size < q.size
    · have d1 : decide ((q.made.size : Int) < q.size) = true := decide_eq_true (by omega)
      rw [show clP q = ((⟨#[]⟩, 2), { q with closed := true, e := 2 }) by unfold clP; rw [if_neg (fun h => h e0), if_pos (.inr (.inr (.inr c1)))]]
      simp -implicitDefEqProofs only [go_sem, d1, spl5]
      refine sub_mk [] rfl rfl rfl ?_
      simp only [tmSub, hpSub, objSub, eqTm, eqHp, rn, lk, SV.ren, SV.renC, SV.renB, SV.renA, ren_ints, ren_strs, ren_pl, ren_svs, SV.v.injEq, Value.int.injEq, Body.ints.injEq, SV.ptr.injEq, SV.sl.injEq, Value.string.injEq, Value.bool.injEq, List.map_cons, List.map_nil, forall_const, Nat.reduceLT, Nat.lt_add_one, imp_self, true_and, and_true, and_self, ob_some, get_mk, lk_cons, ↓reduceIte, Nat.reduceEqDiff, ne_eq, not_true_eq_false, not_false_eq_true, Nat.one_ne_zero, Nat.zero_ne_one, Nat.succ_ne_self, Nat.reduceAdd, Bool.false_eq_true, false_implies, implies_true, reduceCtorEq]
      repeat' (first | rfl | apply And.intro)
    have d1 : decide ((q.made.size : Int) < q.size) = false := decide_eq_false (by omega)
    simp -implicitDefEqProofs only [go_sem, d1, spl5]
    refine at_call t11 (rsum1S (s := q.made) (by rfl) (by omega)) ?_
    have hn : ¬(q.begun = false ∨ 0 < q.adds ∨ ¬q.wait.size = 0 ∨ q.made.size < q.size) := by
      rintro (h | h | h | h)
      · rw [hb] at h; cases h
      · omega
      · exact h hw
      · exact c1 h
    by_cases c2 : sha (bts q.made) = q.hash
    · have d2 : seq (sha (bts q.made)) q.hash = true := by rw [c2]; exact seq_self _
      rw [show clP q = ((q.made, 0), { q with closed := true }) by unfold clP; rw [if_neg (fun h => h e0), if_neg hn, if_neg (fun h => h c2)]]
      simp -implicitDefEqProofs only [go_sem, d2, spl5]
      refine sub_mk [] rfl rfl rfl ?_
      simp only [tmSub, hpSub, objSub, eqTm, eqHp, rn, lk, SV.ren, SV.renC, SV.renB, SV.renA, ren_ints, ren_strs, ren_pl, ren_svs, SV.v.injEq, Value.int.injEq, Body.ints.injEq, SV.ptr.injEq, SV.sl.injEq, Value.string.injEq, Value.bool.injEq, List.map_cons, List.map_nil, forall_const, Nat.reduceLT, Nat.lt_add_one, imp_self, true_and, and_true, and_self, ob_some, get_mk, lk_cons, ↓reduceIte, Nat.reduceEqDiff, ne_eq, not_true_eq_false, not_false_eq_true, Nat.one_ne_zero, Nat.zero_ne_one, Nat.succ_ne_self, Nat.reduceAdd, Bool.false_eq_true, false_implies, implies_true, reduceCtorEq]
      repeat' (first | rfl | apply And.intro)
    · have d2 : seq (sha (bts q.made)) q.hash = false := seq_ne c2
      rw [show clP q = ((⟨#[]⟩, 10), { q with closed := true, e := 10 }) by unfold clP; rw [if_neg (fun h => h e0), if_neg hn, if_pos c2]]
      simp -implicitDefEqProofs only [go_sem, d2, spl5]
      refine sub_mk [] rfl rfl rfl ?_
      simp only [tmSub, hpSub, objSub, eqTm, eqHp, rn, lk, SV.ren, SV.renC, SV.renB, SV.renA, ren_ints, ren_strs, ren_pl, ren_svs, SV.v.injEq, Value.int.injEq, Body.ints.injEq, SV.ptr.injEq, SV.sl.injEq, Value.string.injEq, Value.bool.injEq, List.map_cons, List.map_nil, forall_const, Nat.reduceLT, Nat.lt_add_one, imp_self, true_and, and_true, and_self, ob_some, get_mk, lk_cons, ↓reduceIte, Nat.reduceEqDiff, ne_eq, not_true_eq_false, not_false_eq_true, Nat.one_ne_zero, Nat.zero_ne_one, Nat.succ_ne_self, Nat.reduceAdd, Bool.false_eq_true, false_implies, implies_true, reduceCtorEq]
      repeat' (first | rfl | apply And.intro))) rfl
end
section
/- Delta: DeltaApplies; DeltaMakes. -/
set_option linter.unusedVariables false
set_option linter.unusedSimpArgs false
set_option maxRecDepth 100000
open Go.Proofs
variable {p q : Pt} {H : Hp} {n : Nat} {x : Nat → Option SO}
end
end Go.Sx