/- Boot: the state. -/
import Derived.Test.YtjjnmdpppcmmfaaGreatDoorBtD
import Derived.Test.YtjjnmdpppcmmfaaGreatDoorRows
import Derived.Lib.LaidTab

set_option linter.unusedVariables false
set_option linter.unusedSimpArgs false
set_option maxRecDepth 100000
namespace Go.Sx
attribute [local go_sem ↓] bind_mk intsB_mk strsB_mk svB_mk fnVC ob_some vc_skip vc_exit vc_ret vc_seq vc_block kSeq_normal kSeq_exit kSeq_ret kBlock_normal kBlock_exit kBlock_ret vc_reg vc_regD vc_cond condK_true condK_false vc_loop kLoop_exit kLoop_ret kRoll_normal kRoll_exit kRoll_ret vcOps_nil vcOps_cons gd_bool gd_undef put_some put_none vcT_fin vcT_pure vcT_act vcT_acts vcT_stop stab_none stab_some stabM_nil stabM_cons stabO_ld stabO_ldn stabO_slP stabO_b2s fldOf_ai fldOf_agg fldOf_ait fldOf_aggt intsOf_nil intsOf_cons strsOf_nil strsOf_cons c_omap ob_if lk_nil lk_cons ev_t ev_k z_mov z_pick z_bin z_binA z_binB z_binP z_un z_r2s z_conv z_s2b z_b2s z_mkM z_luM z_upM z_lenM lenMk_mp lenMk_nil plsOf_v z_delM asM_so plV_v plV_agg mpOf_mp mpOf_nil mpUp_mp asM_mp luV_ok luV_v z_allocT aggOf_mk z_boxT z_alloc z_bld z_bldI z_rowI z_rowS z_ld z_ldn z_st z_stn asN_ptr asN_fn z_nilck z_fld z_fadr z_idxA z_idxP z_idxS z_idxV z_slS z_slL z_slP z_mk z_lenS z_lenL z_app appC_ints appC_pl appC_sv appC_strs isS_strs loose_ints loose_pl loose_sv z_slM z_callv callvK_fn callvK_f callvK_yl vc_rangeF rfEnd_eq rfGo_none rfGo_ret rfGo_exit yGo_mk yEnd_n yEnd_r yEnd_e yRdy_mk yMid_n putPs_nil putPs_cons leaf_v leaf_ptr leaf_sl leaf_yl leaf_mp z_appS z_appST z_appZ z_cpyS z_mkfn reps_int reps_str z_rowV z_slnil nilK_zero z_cpy z_call asT_tup z_extT z_box boxOf_ai boxOf_agg boxOf_int boxOf_str boxOf_bool boxOf_ptr boxOf_sl sbin_int sbin_str sbinA_mk ae_nil ae_int ae_str sbinB_mk sbinP_nn sbinP_pn sbinP_np i_add i_sub i_mul i_quo i_rem i_and i_or i_xor i_andNot i_shl i_shr i_eql i_neq i_lss i_leq i_gtr i_geq st_add st_eql st_neq st_lss st_leq st_gtr st_geq bo_eql bo_neq pt_eql pt_neq un_neg un_xor un_not asI_mk asB_mk asS_mk asP_mk asSl_mk asBy_mk bnd_none bnd_some get_mk hput_mk hdel_mk kill_eq wrOf_eq rowOf_eq rsvs_0 rsvs_1 rsvs_2 rsvs_3 rsv_t rsv_c1 rsv_cn nt_v nt_ptr nt_sl nt_agg nt_ai get_ints get_strs get_pl get_sv getN_ints getN_sv set_ints set_strs set_sv setN_ints setN_sv part_ints part_strs part_sv cat_ints cat_strs cat_sv over_ints over_strs over_sv ones_ints ones_strs evs_nil evs_cons condK_eqt condK_eqf det_callP V_ns V_nn V_gs V_gn obC_mk fresh_ev freshT_ev freshR_ev setN_plagg setN_intsv setN_svai setN_svagg over_intsv set_pl setN_pl setN_plai getN_pl getN_strs part_pl cat_pl over_pl over_plints z_mm
attribute [local go_sem] initTm ne_eq not_true_eq_false not_false_eq_true true_and and_true List.length_cons List.length_nil Int.toNat_natCast Nat.add_zero Nat.zero_add Nat.mul_one List.getElem?_cons_zero List.drop_zero List.take_length List.take_succ_cons List.take_zero List.take_nil List.drop_succ_cons Option.map_some Nat.le_refl implies_true List.getElem?_cons_succ decide_true decide_false Bool.not_true Bool.not_false beq_self_eq_true Nat.succ_ne_self Nat.one_ne_zero Nat.zero_ne_one vk_mk hk_mk nk_mk tok_eq plsOf_map intsOf_map bodyOf_pl bodyOf_ints bodyOf_strs bodyOf_sv part_aggv part_agg part_ai part_int part_str part_bool part_sl part_ptr part_nil numsOf_map u_int u_str u_bool u_pnil u_sl u_ptr u_oci u_ocs evq_nil evq_cons fillS_nil fillS_cons u_ocb ones_pl cells_sv cells_ints cells_strs cells_pl smms_nil smms_cons smm_min smm_max plsOf_nil List.nil_append List.all_cons List.all_nil Bool.and_self Bool.true_and Bool.and_true zws_len zw_len zi_len List.set_cons_zero List.set_cons_succ List.flatMap_cons List.flatMap_nil List.append_nil
attribute [local go_sem_proc] Nat.reduceEqDiff Nat.reduceAdd Nat.reduceMul Nat.reduceLT Nat.reduceLeDiff Nat.reduceSub Int.reduceToNat Int.reduceLE Int.reduceLT reduceCtorEq Int.reduceEq Int.reduceGT Int.reduceGE Int.reduceNeg
attribute [local go_sem_proc ↓] reduceIte
section
open Go.Proofs
variable {H : Hp} {n : Nat} {x : Nat → Option SO} {i D M W a b c : Nat} {d d' : Fd} {C C' : Ce}
structure Sq where
  cf : Int
  tr : Int
  lf : Int
  fl : Int
deriving DecidableEq
def nthQ : Sq := ⟨-1, -1, 0, 0⟩
def sqL (q : Sq) : List SV := [.v (.int .i64 q.cf), .v (.int .i64 q.tr), .v (.int .i64 q.lf), .v (.int .i64 q.fl)]
def sqV (q : Sq) : SV := .agg (sqL q)
def boot4 : ByteArray := ⟨#[98, 111, 111, 116]⟩
def bt (s : ByteArray) (k : Nat) : Int := (bts s).getD k 0
def SndT (s : ByteArray) : Prop := s.size = 4 ∧ bt s 0 ≤ 2 ∧ bt s 1 ≤ 2 ∧ (bt s 0 = 0 ∨ bt s 0 ≠ bt s 1) ∧ bt s 2 ≤ 8 ∧ (bt s 1 ≠ 0 ∨ bt s 2 = 0)
theorem bt_le {s : ByteArray} {k : Nat} : 0 ≤ (bts s).getD k 0 ∧ (bts s).getD k 0 ≤ 255 := by
  rw [List.getD_eq_getElem?_getD]
  cases h : (bts s)[k]? with
  | none => decide
  | some y => exact bts_bytes y (List.mem_of_getElem? h)
instance {s : ByteArray} : Decidable (SndT s) := by unfold SndT; exact inferInstance
def stQ (es : List (Value × Value)) : Sq := if es.length = 1 ∧ SndT (tOf es boot4) then ⟨bt (tOf es boot4) 0 - 1, bt (tOf es boot4) 1 - 1, bt (tOf es boot4) 2, bt (tOf es boot4) 3⟩ else nthQ
def NoX (x : Nat → Option SO) : Prop := x 4001003 = some ⟨false, .sv (sqL nthQ)⟩
theorem soundS {s : ByteArray} : SpecAt Tryz.prog nBsound [.v (.string s)] H n (.v (.bool (decide (SndT s)))) H n := okT.pure tBsound (by
  unfold mBsound
  simp -implicitDefEqProofs only [↓fnVC, initTm]
  simp -implicitDefEqProofs only [go_sem]
  by_cases c1 : s.size = 4
  · have a0 : decide ((s.size : Int) = 4) = true := decide_eq_true (by omega)
    have a1 : (0 : Int) < s.size := by omega
    have a2 : (1 : Int) < s.size := by omega
    have a3 : (2 : Int) < s.size := by omega
    simp -implicitDefEqProofs only [go_sem, a0, a1, a2, a3]
    rw [show decide (SndT s) = (decide ((bts s).getD 0 0 ≤ 2) && (decide ((bts s).getD 1 0 ≤ 2) && ((decide ((bts s).getD 0 0 = 0) || !decide ((bts s).getD 0 0 = (bts s).getD 1 0)) && (decide ((bts s).getD 2 0 ≤ 8) && (!decide ((bts s).getD 1 0 = 0) || decide ((bts s).getD 2 0 = 0)))))) by
      rw [Bool.eq_iff_iff]; simp [SndT, bt, c1]]
    cases e0 : decide ((bts s).getD 0 0 ≤ 2)
    · simp -implicitDefEqProofs only [go_sem, a0, a1, a2, a3, e0]
      rfl
    cases e1 : decide ((bts s).getD 1 0 ≤ 2)
    · simp -implicitDefEqProofs only [go_sem, a0, a1, a2, a3, e0, e1]
      rfl
    cases e2 : decide ((bts s).getD 0 0 = 0) <;> cases e3 : decide ((bts s).getD 0 0 = (bts s).getD 1 0) <;> cases e4 : decide ((bts s).getD 2 0 ≤ 8) <;> cases e5 : decide ((bts s).getD 1 0 = 0) <;> cases e6 : decide ((bts s).getD 2 0 = 0) <;>
      (simp -implicitDefEqProofs only [go_sem, a0, a1, a2, a3, e0, e1, e2, e3, e4, e5, e6]) <;> try rfl
  · have a0 : decide ((s.size : Int) = 4) = false := decide_eq_false (by omega)
    rw [show decide (SndT s) = false from decide_eq_false fun h => c1 h.1]
    simp -implicitDefEqProofs only [go_sem, a0])
structure Bt where
  C : Ce
  d : Fd
  bs : Nat
  r : Nat
  on : Bool
  slot : Int
  ver : Int
def btB (T : Bt) (q s : Nat) : Body := .sv [.ptr q 0, .ptr s 0, .v (.int .i64 T.r), .v (.bool T.on), .v (.int .i64 T.slot), .v (.int .i64 T.ver)]
def btL (T : Bt) (w : Bool) : List (Nat × Option SO) := [(1, some ⟨w, btB T 2 3⟩), (2, some ⟨w, cellB T.C 4 8 9⟩), (3, some ⟨w, Sl.slB 4 T.bs T.r⟩), (4, some ⟨w, devB T.d 5 6 7⟩), (5, some ⟨w, secB T.d.seen⟩), (6, some ⟨w, secB T.d.safe⟩), (7, some ⟨w, .pl (prow T.d.pend)⟩), (8, some ⟨w, .mp (.map T.C.now)⟩), (9, some ⟨w, .mp (.map T.C.was)⟩)]
structure CellRd (H : Hp) (C : Ce) (d : Fd) (i D a b c M W : Nat) : Prop where
  gi : ∃ u, H.get i = some ⟨u, cellB C D M W⟩
  gD : ∃ u, H.get D = some ⟨u, devB d a b c⟩
  ga : ∃ u, H.get a = some ⟨u, secB d.seen⟩
  gb : ∃ u, H.get b = some ⟨u, secB d.safe⟩
  gc : ∃ u, H.get c = some ⟨u, .pl (prow d.pend)⟩
  gM : ∃ u, H.get M = some ⟨u, .mp (.map C.now)⟩
  gW : ∃ u, H.get W = some ⟨u, .mp (.map C.was)⟩
  ne : ([i, D, a, b, c, M, W].all fun k => decide (0 < k)) = true
theorem CellRd.sub_r (h : CellRd H C d i D a b c M W) : hpSub (ceP i D a b c M W) H (ceHr C d x).l := by
  obtain ⟨⟨_, g1⟩, ⟨_, g2⟩, ⟨_, g3⟩, ⟨_, g4⟩, ⟨_, g5⟩, ⟨_, g6⟩, ⟨_, g7⟩, hp⟩ := h
  simp at hp
  exact ⟨sub_ro rfl hp.1 g1 rfl, sub_ro rfl hp.2.1 g2 rfl, sub_ro rfl hp.2.2.1 g3 rfl, sub_ro rfl hp.2.2.2.1 g4 rfl, sub_ro rfl hp.2.2.2.2.1 g5 rfl, sub_ro rfl hp.2.2.2.2.2.1 g6 rfl, sub_ro rfl hp.2.2.2.2.2.2 g7 rfl, trivial⟩
theorem getR {name : ByteArray} (h : CellRd H C d i D a b c M W) (hE : Es C.now) : SpecAt Tryz.prog nCGet [.ptr i 0, .v (.string name)] H n (getV C.now name) H n := by
  have := lift_ro (n := n) (okT.spec tCGet (getW (x := H.x) (d := d) (C := C) (name := name) hE)) (ceP i D a b c M W) rfl rfl rfl (by omega) rfl rfl (h.sub_r (x := H.x)) (by simp [ceHr, apartB, apart1, rn, lk]) (by simp [ceHr, wrNZ, rn, lk]) rfl
  exact this
theorem cNamesR (h : CellRd H C d i D a b c M W) (hE : Es C.now) (hn : n + 1 ≤ 1000) : SpecAt Tryz.prog nCNames [.ptr i 0] H n (.sl n 0 C.now.length 1) ⟨(n, some ⟨true, .strs (srtK C.now)⟩) :: H.l, H.x⟩ (n + 1) := by
  have := lift (n := n) (okT.spec tCNames (cNamesW (x := H.x) (d := d) (C := C) hE)) (ceP i D a b c M W) rfl rfl rfl (by omega) rfl rfl (h.sub_r (x := H.x)) (by simp [ceHr, apartB, apart1, rn, lk]) (by simp [ceHr, wrNZ, rn, lk]) (by omega)
  exact this
theorem stateW {T : Bt} (hE : Es T.C.now) (hx : NoX x) : fnVC CT mBState [.ptr 1 0] ⟨btL T false, x⟩ 10 fun v H' n' => Sub 10 ⟨[(0, sqV (stQ T.C.now))], ⟨[], x⟩, 10⟩ ⟨[(0, v)], H', n'⟩ := by
  have hx' : x 4001003 = some ⟨false, .sv (sqL nthQ)⟩ := hx
  unfold mBState btL btB
  simp -implicitDefEqProofs only [↓fnVC, initTm]
  simp -implicitDefEqProofs only [go_sem]
  refine at_call tCGet (getR (i := 2) (D := 4) (a := 5) (b := 6) (c := 7) (M := 8) (W := 9) (C := T.C) (d := T.d) ⟨⟨_, by rfl⟩, ⟨_, by rfl⟩, ⟨_, by rfl⟩, ⟨_, by rfl⟩, ⟨_, by rfl⟩, ⟨_, by rfl⟩, ⟨_, by rfl⟩, rfl⟩ hE) ?_
  unfold getV
  simp -implicitDefEqProofs only [go_sem]
  refine at_call tCNames (cNamesR (i := 2) (D := 4) (a := 5) (b := 6) (c := 7) (M := 8) (W := 9) (C := T.C) (d := T.d) ⟨⟨_, by rfl⟩, ⟨_, by rfl⟩, ⟨_, by rfl⟩, ⟨_, by rfl⟩, ⟨_, by rfl⟩, ⟨_, by rfl⟩, ⟨_, by rfl⟩, rfl⟩ hE (by decide)) ?_
  simp -implicitDefEqProofs only [go_sem]
  have nth : stQ T.C.now = nthQ → Sub 10 ⟨[(0, sqV (stQ T.C.now))], ⟨[], x⟩, 10⟩ ⟨[(0, sqV nthQ)], ⟨[], x⟩, 10⟩ := fun h => by rw [h]; exact sub_val rfl (by decide) (by decide) rfl
  by_cases c1 : T.C.now.length = 1
  · have a1 : decide ((T.C.now.length : Int) = 1) = true := decide_eq_true (by omega)
    simp -implicitDefEqProofs only [go_sem, a1]
    refine at_call tBsound soundS ?_
    by_cases c2 : SndT (tOf T.C.now boot4)
    · have a2 : decide (SndT (tOf T.C.now ⟨#[98, 111, 111, 116]⟩)) = true := decide_eq_true c2
      have b1 : (0 : Int) < (tOf T.C.now ⟨#[98, 111, 111, 116]⟩).size := by have := c2.1; unfold boot4 at this; omega
      have b2 : (1 : Int) < (tOf T.C.now ⟨#[98, 111, 111, 116]⟩).size := by have := c2.1; unfold boot4 at this; omega
      have b3 : (2 : Int) < (tOf T.C.now ⟨#[98, 111, 111, 116]⟩).size := by have := c2.1; unfold boot4 at this; omega
      have b4 : (3 : Int) < (tOf T.C.now ⟨#[98, 111, 111, 116]⟩).size := by have := c2.1; unfold boot4 at this; omega
      have hb : ∀ k, 0 ≤ (bts (tOf T.C.now ⟨#[98, 111, 111, 116]⟩)).getD k 0 ∧ (bts (tOf T.C.now ⟨#[98, 111, 111, 116]⟩)).getD k 0 ≤ 255 := fun k => bt_le
      have w : ∀ k, IntKind.i64.wrap ((bts (tOf T.C.now ⟨#[98, 111, 111, 116]⟩)).getD k 0) = (bts (tOf T.C.now ⟨#[98, 111, 111, 116]⟩)).getD k 0 := fun k => wrap_i64 (by have := hb k; omega) (by have := hb k; omega)
      have w' : ∀ k, IntKind.i64.wrap ((bts (tOf T.C.now ⟨#[98, 111, 111, 116]⟩)).getD k 0 - 1) = (bts (tOf T.C.now ⟨#[98, 111, 111, 116]⟩)).getD k 0 - 1 := fun k => wrap_i64 (by have := hb k; omega) (by have := hb k; omega)
      simp -implicitDefEqProofs only [go_sem, a1, a2, b1, b2, b3, b4, w, w', splice_zero, splice_succ, List.drop_succ_cons, List.drop_zero, List.drop_nil, List.cons_append, List.nil_append, List.take_succ_cons, List.take_zero, List.length_cons, List.length_nil]
      rw [show stQ T.C.now = ⟨bt (tOf T.C.now boot4) 0 - 1, bt (tOf T.C.now boot4) 1 - 1, bt (tOf T.C.now boot4) 2, bt (tOf T.C.now boot4) 3⟩ from if_pos ⟨c1, c2⟩]
      unfold sqV sqL bt boot4
      refine sub_mk [] rfl rfl rfl ?_
      simp only [tmSub, hpSub, objSub, eqTm, eqHp, rn, lk, SV.ren, SV.renC, SV.renB, SV.renA, ren_ints, ren_strs, ren_pl, ren_svs, SV.v.injEq, Value.int.injEq, Body.ints.injEq, SV.ptr.injEq, SV.sl.injEq, Value.string.injEq, Value.bool.injEq, List.map_cons, List.map_nil, forall_const, Nat.reduceLT, Nat.lt_add_one, imp_self, true_and, and_true, and_self, ob_some, get_mk, lk_cons, ↓reduceIte, Nat.reduceEqDiff, ne_eq, not_true_eq_false, not_false_eq_true, Nat.one_ne_zero, Nat.zero_ne_one, Nat.succ_ne_self, Nat.reduceAdd, Bool.false_eq_true, false_implies, implies_true, reduceCtorEq]
    · have a2 : decide (SndT (tOf T.C.now ⟨#[98, 111, 111, 116]⟩)) = false := decide_eq_false c2
      simp -implicitDefEqProofs only [go_sem, a1, a2, hx', sqL, nthQ, splice_zero, splice_succ, List.drop_succ_cons, List.drop_zero, List.drop_nil, List.cons_append, List.nil_append, List.take_succ_cons, List.take_zero, List.length_cons, List.length_nil]
      rw [show stQ T.C.now = nthQ from if_neg fun h => c2 h.2]
      unfold sqV sqL nthQ
      refine sub_mk [] rfl rfl rfl ?_
      simp only [tmSub, hpSub, objSub, eqTm, eqHp, rn, lk, SV.ren, SV.renC, SV.renB, SV.renA, ren_ints, ren_strs, ren_pl, ren_svs, SV.v.injEq, Value.int.injEq, Body.ints.injEq, SV.ptr.injEq, SV.sl.injEq, Value.string.injEq, Value.bool.injEq, List.map_cons, List.map_nil, forall_const, Nat.reduceLT, Nat.lt_add_one, imp_self, true_and, and_true, and_self, ob_some, get_mk, lk_cons, ↓reduceIte, Nat.reduceEqDiff, ne_eq, not_true_eq_false, not_false_eq_true, Nat.one_ne_zero, Nat.zero_ne_one, Nat.succ_ne_self, Nat.reduceAdd, Bool.false_eq_true, false_implies, implies_true, reduceCtorEq]
  · have a1 : decide ((T.C.now.length : Int) = 1) = false := decide_eq_false (by omega)
    simp -implicitDefEqProofs only [go_sem, a1, hx', sqL, nthQ, splice_zero, splice_succ, List.drop_succ_cons, List.drop_zero, List.drop_nil, List.cons_append, List.nil_append, List.take_succ_cons, List.take_zero, List.length_cons, List.length_nil]
    rw [show stQ T.C.now = nthQ from if_neg fun h => c1 h.1]
    unfold sqV sqL nthQ
    refine sub_mk [] rfl rfl rfl ?_
    simp only [tmSub, hpSub, objSub, eqTm, eqHp, rn, lk, SV.ren, SV.renC, SV.renB, SV.renA, ren_ints, ren_strs, ren_pl, ren_svs, SV.v.injEq, Value.int.injEq, Body.ints.injEq, SV.ptr.injEq, SV.sl.injEq, Value.string.injEq, Value.bool.injEq, List.map_cons, List.map_nil, forall_const, Nat.reduceLT, Nat.lt_add_one, imp_self, true_and, and_true, and_self, ob_some, get_mk, lk_cons, ↓reduceIte, Nat.reduceEqDiff, ne_eq, not_true_eq_false, not_false_eq_true, Nat.one_ne_zero, Nat.zero_ne_one, Nat.succ_ne_self, Nat.reduceAdd, Bool.false_eq_true, false_implies, implies_true, reduceCtorEq]
end
section
/- Boot: keep. -/
set_option linter.unusedVariables false
set_option linter.unusedSimpArgs false
set_option maxRecDepth 100000
open Go.Proofs
variable {H : Hp} {n : Nat} {x : Nat → Option SO} {i D M W a b c : Nat} {d d' : Fd} {C C' : Ce}
def ceU (C : Ce) (d : Fd) : List (Nat × Option SO) := [(1, some ⟨true, cellB { C with now := C.was } 2 8 7⟩), (2, some ⟨true, devB d 3 4 5⟩), (3, some ⟨true, secB d.seen⟩), (4, some ⟨true, secB d.safe⟩), (5, some ⟨true, .pl (prow d.pend)⟩), (6, none), (7, some ⟨true, .mp (.map C.was)⟩), (8, some ⟨true, .mp (.map C.was)⟩)]
theorem undoW : fnVC CT mCUndo [.ptr 1 0] (ceH C d x) 8 fun v H' n' => Sub 8 ⟨[(0, .tup [])], ⟨ceU C d, x⟩, 9⟩ ⟨[(0, v)], H', n'⟩ := by
  unfold mCUndo
  rw [show ceH C d x = ⟨ceL C d, x⟩ from rfl]
  unfold ceL devL cellB
  simp -implicitDefEqProofs only [↓fnVC, initTm]
  simp -implicitDefEqProofs only [go_sem]
  refine at_ext (enters_mk Tryz.func49 rfl rfl) (cloneT (i := 7) (by rfl) rfl (by decide)) ?_
  simp -implicitDefEqProofs only [go_sem]
  refine ⟨rfl, ?_⟩
  unfold ceU cellB
  refine sub_mk [] rfl rfl rfl ?_
  simp only [tmSub, hpSub, objSub, eqTm, eqHp, rn, lk, SV.ren, SV.renC, SV.renB, SV.renA, ren_ints, ren_strs, ren_pl, ren_svs, SV.v.injEq, Value.int.injEq, Body.ints.injEq, SV.ptr.injEq, SV.sl.injEq, Value.string.injEq, Value.bool.injEq, List.map_cons, List.map_nil, forall_const, Nat.reduceLT, Nat.lt_add_one, imp_self, true_and, and_true, and_self, ob_some, get_mk, lk_cons, ↓reduceIte, Nat.reduceEqDiff, ne_eq, not_true_eq_false, not_false_eq_true, Nat.one_ne_zero, Nat.zero_ne_one, Nat.succ_ne_self, Nat.reduceAdd, Bool.false_eq_true, false_implies, implies_true, reduceCtorEq]
  repeat' (first | rfl | apply And.intro)
theorem undoS (h : CellAt H C d i D a b c M W) (hn : n + 1 ≤ 1000) :
    SpecAt Tryz.prog nCUndo [.ptr i 0] H n (.tup []) ⟨(i, some ⟨true, cellB { C with now := C.was } D n W⟩) :: (D, some ⟨true, devB d a b c⟩) :: (a, some ⟨true, secB d.seen⟩) :: (b, some ⟨true, secB d.safe⟩) :: (c, some ⟨true, .pl (prow d.pend)⟩) :: (M, none) :: (W, some ⟨true, .mp (.map C.was)⟩) :: (n, some ⟨true, .mp (.map C.was)⟩) :: H.l, H.x⟩ (n + 1) := by
  have := lift (n := n) (okT.spec tCUndo (undoW (x := H.x) (d := d) (C := C))) (ceP i D a b c M W) rfl rfl rfl (by omega) rfl rfl h.sub h.ap h.nz (by omega)
  exact this
theorem dropS' {name : ByteArray} {es' : List (Value × Value)} (h : CellAt H C d i D a b c M W) (hE : Es C.now) (he : dlS C.now name = es') :
    SpecAt Tryz.prog nCDrop [.ptr i 0, .v (.string name)] H n (.v (.bool (luS C.now name).isSome))
      ⟨(i, some ⟨true, cellB C D M W⟩) :: (D, some ⟨true, devB d a b c⟩) :: (a, some ⟨true, secB d.seen⟩) :: (b, some ⟨true, secB d.safe⟩) :: (c, some ⟨true, .pl (prow d.pend)⟩) :: (M, some ⟨true, .mp (.map es')⟩) :: (W, some ⟨true, .mp (.map C.was)⟩) :: H.l, H.x⟩ n := by
  subst he; exact dropS h hE
def dlN (es : List (Value × Value)) (l : List ByteArray) : List (Value × Value) := l.foldl dlS es
theorem dlN_es {es : List (Value × Value)} (h : Es es) : ∀ l, Es (dlN es l) := by
  intro l
  induction l generalizing es with
  | nil => exact h
  | cons s l ih => exact ih (h.drop s)
theorem dlS_gone {es : List (Value × Value)} {s : ByteArray} (hk : keysS es = true) (hn : (es.map keyB).Nodup) : s.data.toList ∉ (dlS es s).map keyB := by
  induction es with
  | nil => exact List.not_mem_nil
  | cons e es ih =>
    rw [List.map_cons, List.nodup_cons] at hn
    unfold dlS
    have hk' : keysS es = true := by unfold keysS at hk ⊢; rw [List.all_cons, Bool.and_eq_true] at hk; exact hk.2
    split
    · rename_i hc
      have e1 : keyB e = s.data.toList := by
        unfold keyIs at hc
        split at hc
        · rename_i u hu
          unfold keyB
          rw [hu, of_decide_eq_true hc]
        · cases hc
      rw [← e1]; exact hn.1
    · rename_i hc
      rw [List.map_cons, List.mem_cons]
      rintro (h | h)
      · obtain ⟨u, hu⟩ : ∃ u, e.1 = .string u := by
          unfold keysS at hk
          rw [List.all_cons, Bool.and_eq_true] at hk
          have := hk.1
          split at this
          · exact ⟨_, by assumption⟩
          · cases this
        have : u = s := by
          unfold keyB at h
          rw [hu] at h
          exact ByteArray.ext (Array.toList_inj.mp h.symm)
        rw [hu, this] at hc
        exact hc (decide_eq_true rfl)
      · exact ih hk' hn.2 h
theorem dlN_mem {es : List (Value × Value)} : ∀ {l : List ByteArray}, Es es → ∀ e ∈ dlN es l, e ∈ es ∧ ∀ s ∈ l, keyB e ≠ s.data.toList := by
  intro l
  induction l generalizing es with
  | nil => exact fun _ e he => ⟨he, fun _ h => absurd h List.not_mem_nil⟩
  | cons s l ih =>
    intro h e he
    obtain ⟨h1, h2⟩ := ih (h.drop s) e he
    refine ⟨dl_mem.subset h1, fun t ht => ?_⟩
    rcases List.mem_cons.mp ht with rfl | ht
    · intro hc
      obtain ⟨e', g1, g2⟩ : ∃ e' ∈ dlS es t, keyB e' = t.data.toList := ⟨e, h1, hc⟩
      exact dlS_gone h.keys h.nd (List.mem_map.mpr ⟨e', g1, g2⟩)
    · exact h2 t ht
theorem dlN_all {es : List (Value × Value)} (h : Es es) : dlN es (srtK es) = [] := by
  rw [List.eq_nil_iff_forall_not_mem]
  intro e he
  obtain ⟨h1, h2⟩ := dlN_mem h e he
  exact h2 ⟨(keyB e).toArray⟩ (srtK_mem' (List.mem_map_of_mem h1)) rfl
theorem dlN_succ {es : List (Value × Value)} {j : Nat} (hj : j < es.length) : dlS (dlN es ((srtK es).take j)) ((srtK es).getD j .empty) = dlN es ((srtK es).take (j + 1)) := by
  have hl : j < (srtK es).length := by rw [srtK_len]; exact hj
  unfold dlN
  rw [List.take_add_one, List.foldl_append, List.getD_eq_getElem?_getD, List.getElem?_eq_getElem hl]
  rfl
def st4L (q : Sq) : List Int := [IntKind.u8.wrap (IntKind.i64.wrap (q.cf + 1)), IntKind.u8.wrap (IntKind.i64.wrap (q.tr + 1)), IntKind.u8.wrap q.lf, IntKind.u8.wrap q.fl]
def st4 (q : Sq) : ByteArray := tx (st4L q)
def kpC (q : Sq) (C : Ce) : Ce := { C with now := kv boot4 (st4 q) }
def kpF (p : Int × Ce × Fd) (T : Bt) : Int × Bt := (p.1, { T with C := if p.1 = 0 then p.2.1 else { p.2.1 with now := p.2.1.was }, d := p.2.2 })
def kpR (q : Sq) (T : Bt) : Int × Bt := kpF (coR (kpC q T.C) T.d) T
def btN (T : Bt) : List (Nat × Option SO) := [(1, some ⟨true, btB T 2 3⟩), (2, some ⟨true, cellB T.C 4 13 14⟩), (3, some ⟨true, Sl.slB 4 T.bs T.r⟩), (4, some ⟨true, devB T.d 10 11 12⟩), (5, none), (6, none), (7, none), (8, none), (9, none), (10, some ⟨true, secB T.d.seen⟩), (11, some ⟨true, secB T.d.safe⟩), (12, some ⟨true, .pl (prow T.d.pend)⟩), (13, some ⟨true, .mp (.map T.C.now)⟩), (14, some ⟨true, .mp (.map T.C.was)⟩)]
theorem st4_size {q : Sq} : (st4 q).size = 4 := by unfold st4 st4L; rw [tx_sz]; rfl
theorem kv4_es {t : ByteArray} (h : t.size ≤ 65535) : Es (kv boot4 t) := kv_es (by decide) (by decide) h
set_option maxHeartbeats 2000000 in
theorem keepW {T : Bt} {q : Sq} {m t : Nat} (hC : T.C.ok) (hP : Pl T.d m t) (ht : t + 1000 < 1000000) (hx : NoX x) : fnVC CT mBkeep [.ptr 1 0, sqV q] ⟨btL T true, x⟩ 10 fun v H' n' => Sub 10 ⟨[(0, .v (.int .i64 (kpR q T).1))], ⟨btN (kpR q T).2, x⟩, 15⟩ ⟨[(0, v)], H', n'⟩ := by
  have hE := hC.now
  have hlen := hE.len
  unfold mBkeep btL btB sqV sqL
  simp -implicitDefEqProofs only [↓fnVC, initTm]
  simp -implicitDefEqProofs only [go_sem]
  refine at_call tCNames (cNamesR (i := 2) (D := 4) (a := 5) (b := 6) (c := 7) (M := 8) (W := 9) (C := T.C) (d := T.d) ⟨⟨_, by rfl⟩, ⟨_, by rfl⟩, ⟨_, by rfl⟩, ⟨_, by rfl⟩, ⟨_, by rfl⟩, ⟨_, by rfl⟩, ⟨_, by rfl⟩, rfl⟩ hE (by decide)) ?_
  simp -implicitDefEqProofs only [go_sem]
  refine loop_fam (fun (j : Nat) => j ≤ T.C.now.length) (fun j => ⟨[(0, .ptr 1 0), (3, .ptr 10 0), (12, .sl 11 0 T.C.now.length 1), (13, .v (.int .i64 T.C.now.length)), (14, .v (.int .i64 j))], ⟨[(1, some ⟨true, .sv [.ptr 2 0, .ptr 3 0, .v (.int .i64 T.r), .v (.bool T.on), .v (.int .i64 T.slot), .v (.int .i64 T.ver)]⟩), (2, some ⟨true, cellB T.C 4 8 9⟩), (3, some ⟨true, Sl.slB 4 T.bs T.r⟩), (4, some ⟨true, devB T.d 5 6 7⟩), (5, some ⟨true, secB T.d.seen⟩), (6, some ⟨true, secB T.d.safe⟩), (7, some ⟨true, .pl (prow T.d.pend)⟩), (8, some ⟨true, .mp (.map (dlN T.C.now ((srtK T.C.now).take j)))⟩), (9, some ⟨true, .mp (.map T.C.was)⟩), (10, some ⟨true, .sv [.v (.int .i64 q.cf), .v (.int .i64 q.tr), .v (.int .i64 q.lf), .v (.int .i64 q.fl)]⟩), (11, some ⟨true, .strs (srtK T.C.now)⟩)], x⟩, 12⟩) (fun j => T.C.now.length - j) 0 (Nat.zero_le _) ?_ ?_
  · refine sub_mk [] rfl rfl rfl ?_
    simp only [tmSub, hpSub, objSub, eqTm, eqHp, rn, lk, SV.ren, SV.renC, SV.renB, SV.renA, ren_ints, ren_strs, ren_pl, ren_svs, SV.v.injEq, Value.int.injEq, Body.ints.injEq, SV.ptr.injEq, SV.sl.injEq, Value.string.injEq, Value.bool.injEq, List.map_cons, List.map_nil, forall_const, Nat.reduceLT, Nat.lt_add_one, imp_self, true_and, and_true, and_self, ob_some, get_mk, lk_cons, ↓reduceIte, Nat.reduceEqDiff, ne_eq, not_true_eq_false, not_false_eq_true, Nat.one_ne_zero, Nat.zero_ne_one, Nat.succ_ne_self, Nat.reduceAdd, Bool.false_eq_true, false_implies, implies_true, reduceCtorEq]
    repeat' (first | rfl | apply And.intro)
  · intro j hj
    simp -implicitDefEqProofs only [go_sem]
    refine condK_bb (fun e => ?_) (fun e => ?_)
    · have c1 : j < T.C.now.length := by have := of_decide_eq_true e; omega
      have w2 : IntKind.i64.wrap ((j : Int) + 1) = ((j + 1 : Nat) : Int) := by rw [wrap_i64 (by omega) (by omega)]; omega
      have hsl : j < (srtK T.C.now).length := by rw [srtK_len]; exact c1
      simp -implicitDefEqProofs only [go_sem, e]
      refine ⟨⟨by omega, by omega⟩, hsl, ?_⟩
      refine at_call tCDrop (dropS' (i := 2) (D := 4) (a := 5) (b := 6) (c := 7) (M := 8) (W := 9) (C := { T.C with now := dlN T.C.now ((srtK T.C.now).take j) }) (d := T.d) ⟨by rfl, by rfl, by rfl, by rfl, by rfl, by rfl, by rfl, by decide, by rfl, by rfl⟩ (dlN_es hE _) (dlN_succ c1)) ?_
      simp -implicitDefEqProofs only [go_sem, w2]
      refine kLoop_mk (j + 1) (by omega) (by omega) ?_
      refine sub_mk [] rfl rfl rfl ?_
      simp only [tmSub, hpSub, objSub, eqTm, eqHp, rn, lk, SV.ren, SV.renC, SV.renB, SV.renA, ren_ints, ren_strs, ren_pl, ren_svs, SV.v.injEq, Value.int.injEq, Body.ints.injEq, SV.ptr.injEq, SV.sl.injEq, Value.string.injEq, Value.bool.injEq, List.map_cons, List.map_nil, forall_const, Nat.reduceLT, Nat.lt_add_one, imp_self, true_and, and_true, and_self, ob_some, get_mk, lk_cons, ↓reduceIte, Nat.reduceEqDiff, ne_eq, not_true_eq_false, not_false_eq_true, Nat.one_ne_zero, Nat.zero_ne_one, Nat.succ_ne_self, Nat.reduceAdd, Bool.false_eq_true, false_implies, implies_true, reduceCtorEq]
      repeat' (first | rfl | apply And.intro)
    · have c1 : j = T.C.now.length := by have := of_decide_eq_false e; omega
      subst c1
      have g0 : dlN T.C.now ((srtK T.C.now).take T.C.now.length) = [] := by
        rw [← srtK_len (es := T.C.now), List.take_length]; exact dlN_all hE
      rw [g0]
      simp -implicitDefEqProofs only [go_sem, e]
      have pe : putE [] boot4 (st4 q) = 0 := putE_ok (by decide) (by decide) (by rw [st4_size]; decide) (by decide)
      refine at_call tCPut (putS' (i := 2) (D := 4) (a := 5) (b := 6) (c := 7) (M := 8) (W := 9) (C := { T.C with now := [] }) (d := T.d) (name := boot4) (text := st4 q) (es' := kv boot4 (st4 q)) ⟨by rfl, by rfl, by rfl, by rfl, by rfl, by rfl, by rfl, by decide, by rfl, by rfl⟩ Es.nil pe (by unfold putEs; rw [if_pos pe]; rfl)) ?_
      simp -implicitDefEqProofs only [go_sem]
      have hC' : (kpC q T.C).ok := ⟨kv4_es (by rw [st4_size]; decide), hC.was, hC.half, hC.base, hC.last, hC.num⟩
      obtain ⟨⟨e, C', d'⟩, hq⟩ : ∃ p, coR (kpC q T.C) T.d = p := ⟨_, rfl⟩
      refine at_call tCCommit (commitS (i := 2) (D := 4) (a := 5) (b := 6) (c := 7) (M := 8) (W := 9) (C := kpC q T.C) (d := T.d) ⟨by rfl, by rfl, by rfl, by rfl, by rfl, by rfl, by rfl, by decide, by rfl, by rfl⟩ hC' hP ht (by decide) hq) ?_
      simp -implicitDefEqProofs only [go_sem]
      have hk : kpR q T = kpF (e, C', d') T := by unfold kpR; rw [hq]
      rw [hk]
      by_cases c3 : e = 0
      · have b1 : decide (e = 0) = true := decide_eq_true c3
        simp -implicitDefEqProofs only [go_sem, b1]
        unfold kpF
        simp only [if_pos c3]
        unfold btN btB
        trace_state
        refine sub_mk [(10, 13), (11, 14), (12, 15), (13, 8), (14, 16)] rfl rfl rfl ?_
        simp only [tmSub, hpSub, objSub, eqTm, eqHp, rn, lk, SV.ren, SV.renC, SV.renB, SV.renA, ren_ints, ren_strs, ren_pl, ren_svs, SV.v.injEq, Value.int.injEq, Body.ints.injEq, SV.ptr.injEq, SV.sl.injEq, Value.string.injEq, Value.bool.injEq, List.map_cons, List.map_nil, forall_const, Nat.reduceLT, Nat.lt_add_one, imp_self, true_and, and_true, and_self, ob_some, get_mk, lk_cons, ↓reduceIte, Nat.reduceEqDiff, ne_eq, not_true_eq_false, not_false_eq_true, Nat.one_ne_zero, Nat.zero_ne_one, Nat.succ_ne_self, Nat.reduceAdd, Bool.false_eq_true, false_implies, implies_true, reduceCtorEq]
        repeat' (first | rfl | apply And.intro)
      · have b1 : decide (e = 0) = false := decide_eq_false c3
        simp -implicitDefEqProofs only [go_sem, b1]
        refine at_call tCUndo (undoS (i := 2) (D := 4) (a := 13) (b := 14) (c := 15) (M := 8) (W := 16) (C := C') (d := d') ⟨by rfl, by rfl, by rfl, by rfl, by rfl, by rfl, by rfl, by decide, by rfl, by rfl⟩ (by decide)) ?_
        simp -implicitDefEqProofs only [go_sem]
        unfold kpF
        simp only [if_neg c3]
        unfold btN btB
        refine sub_mk [(10, 13), (11, 14), (12, 15), (13, 17), (14, 16)] rfl rfl rfl ?_
        simp only [tmSub, hpSub, objSub, eqTm, eqHp, rn, lk, SV.ren, SV.renC, SV.renB, SV.renA, ren_ints, ren_strs, ren_pl, ren_svs, SV.v.injEq, Value.int.injEq, Body.ints.injEq, SV.ptr.injEq, SV.sl.injEq, Value.string.injEq, Value.bool.injEq, List.map_cons, List.map_nil, forall_const, Nat.reduceLT, Nat.lt_add_one, imp_self, true_and, and_true, and_self, ob_some, get_mk, lk_cons, ↓reduceIte, Nat.reduceEqDiff, ne_eq, not_true_eq_false, not_false_eq_true, Nat.one_ne_zero, Nat.zero_ne_one, Nat.succ_ne_self, Nat.reduceAdd, Bool.false_eq_true, false_implies, implies_true, reduceCtorEq]
        repeat' (first | rfl | apply And.intro)
end
section
/- Boot: at any heap; Provision. -/
set_option linter.unusedVariables false
set_option linter.unusedSimpArgs false
set_option maxRecDepth 100000
open Go.Proofs
variable {H : Hp} {n : Nat} {x : Nat → Option SO} {i q s D M W a b c : Nat} {d d' : Fd} {C C' : Ce} {T : Bt}
def btP (i q s D a b c M W : Nat) : List (Nat × Nat) := [(1, i), (2, q), (3, s), (4, D), (5, a), (6, b), (7, c), (8, M), (9, W)]
structure BtAt (H : Hp) (T : Bt) (i q s D a b c M W : Nat) : Prop where
  gi : H.get i = some ⟨true, btB T q s⟩
  gq : H.get q = some ⟨true, cellB T.C D M W⟩
  gs : H.get s = some ⟨true, Sl.slB D T.bs T.r⟩
  gD : H.get D = some ⟨true, devB T.d a b c⟩
  ga : H.get a = some ⟨true, secB T.d.seen⟩
  gb : H.get b = some ⟨true, secB T.d.safe⟩
  gc : H.get c = some ⟨true, .pl (prow T.d.pend)⟩
  gM : H.get M = some ⟨true, .mp (.map T.C.now)⟩
  gW : H.get W = some ⟨true, .mp (.map T.C.was)⟩
  ne : ([i, q, s, D, a, b, c, M, W].all fun k => decide (0 < k ∧ k < 1000)) = true
  ap : apartB (btP i q s D a b c M W) (btL T true) (btL T true) = true
  nz : wrNZ (btP i q s D a b c M W) (btL T true) = true
theorem BtAt.sub {w : Bool} (h : BtAt H T i q s D a b c M W) : hpSub (btP i q s D a b c M W) H (btL T w) := by
  obtain ⟨g1, g2, g3, g4, g5, g6, g7, g8, g9, hp, _, _⟩ := h
  simp at hp
  cases w with
  | true => exact ⟨sub_wr rfl hp.1.1 hp.1.2 g1 rfl, sub_wr rfl hp.2.1.1 hp.2.1.2 g2 rfl, sub_wr rfl hp.2.2.1.1 hp.2.2.1.2 g3 rfl, sub_wr rfl hp.2.2.2.1.1 hp.2.2.2.1.2 g4 rfl, sub_wr rfl hp.2.2.2.2.1.1 hp.2.2.2.2.1.2 g5 rfl, sub_wr rfl hp.2.2.2.2.2.1.1 hp.2.2.2.2.2.1.2 g6 rfl, sub_wr rfl hp.2.2.2.2.2.2.1.1 hp.2.2.2.2.2.2.1.2 g7 rfl, sub_wr rfl hp.2.2.2.2.2.2.2.1.1 hp.2.2.2.2.2.2.2.1.2 g8 rfl, sub_wr rfl hp.2.2.2.2.2.2.2.2.1 hp.2.2.2.2.2.2.2.2.2 g9 rfl, trivial⟩
  | false => exact ⟨sub_ro rfl hp.1.1 g1 rfl, sub_ro rfl hp.2.1.1 g2 rfl, sub_ro rfl hp.2.2.1.1 g3 rfl, sub_ro rfl hp.2.2.2.1.1 g4 rfl, sub_ro rfl hp.2.2.2.2.1.1 g5 rfl, sub_ro rfl hp.2.2.2.2.2.1.1 g6 rfl, sub_ro rfl hp.2.2.2.2.2.2.1.1 g7 rfl, sub_ro rfl hp.2.2.2.2.2.2.2.1.1 g8 rfl, sub_ro rfl hp.2.2.2.2.2.2.2.2.1 g9 rfl, trivial⟩
theorem stateS (h : BtAt H T i q s D a b c M W) (hE : Es T.C.now) (hx : NoX H.x) : SpecAt Tryz.prog nBState [.ptr i 0] H n (sqV (stQ T.C.now)) H n := by
  have := lift_ro (n := n) (okT.spec tBState (stateW (x := H.x) (T := T) hE hx)) (btP i q s D a b c M W) rfl rfl rfl (by omega) rfl rfl (h.sub (w := false)) (by simp [btL, apartB, apart1, rn, lk]) (by simp [btL, wrNZ, rn, lk]) rfl
  exact this
def btF (T : Bt) (i q s D a b c M W n : Nat) (l : List (Nat × Option SO)) : List (Nat × Option SO) := (i, some ⟨true, btB T q s⟩) :: (q, some ⟨true, cellB T.C D (n + 3) (n + 4)⟩) :: (s, some ⟨true, Sl.slB D T.bs T.r⟩) :: (D, some ⟨true, devB T.d n (n + 1) (n + 2)⟩) :: (a, none) :: (b, none) :: (c, none) :: (M, none) :: (W, none) :: (n, some ⟨true, secB T.d.seen⟩) :: (n + 1, some ⟨true, secB T.d.safe⟩) :: (n + 2, some ⟨true, .pl (prow T.d.pend)⟩) :: (n + 3, some ⟨true, .mp (.map T.C.now)⟩) :: (n + 4, some ⟨true, .mp (.map T.C.was)⟩) :: l
theorem btF_eq {l : List (Nat × Option SO)} : btF T i q s D a b c M W n l = (i, some ⟨true, btB T q s⟩) :: (q, some ⟨true, cellB T.C D (n + 3) (n + 4)⟩) :: (s, some ⟨true, Sl.slB D T.bs T.r⟩) :: (D, some ⟨true, devB T.d n (n + 1) (n + 2)⟩) :: (a, none) :: (b, none) :: (c, none) :: (M, none) :: (W, none) :: (n, some ⟨true, secB T.d.seen⟩) :: (n + 1, some ⟨true, secB T.d.safe⟩) :: (n + 2, some ⟨true, .pl (prow T.d.pend)⟩) :: (n + 3, some ⟨true, .mp (.map T.C.now)⟩) :: (n + 4, some ⟨true, .mp (.map T.C.was)⟩) :: l := rfl
structure BtK (T : Bt) (m t : Nat) : Prop where
  C : T.C.ok
  P : Pl T.d m t
  t : t + 1000 < 1000000
  bs : T.bs ≤ 4096
  r : T.r ≤ 128
  len : T.bs + 2 * (1 + T.r) ≤ m
  clen : T.C.base + 2 * T.C.half ≤ m
theorem keepS {k : Sq} {m t : Nat} (h : BtAt H T i q s D a b c M W) (hK : BtK T m t) (hx : NoX H.x) (hn : n + 5 ≤ 1000) {e : Int} {T' : Bt} (hq : kpR k T = (e, T')) : SpecAt Tryz.prog nBkeep [.ptr i 0, sqV k] H n (.v (.int .i64 e)) ⟨btF T' i q s D a b c M W n H.l, H.x⟩ (n + 5) := by
  have e1 : (kpR k T).1 = e := by rw [hq]
  have e2 : (kpR k T).2 = T' := by rw [hq]
  subst e1; subst e2
  have := lift (n := n) (okT.spec tBkeep (keepW (x := H.x) (T := T) (q := k) hK.C hK.P hK.t hx)) (btP i q s D a b c M W) rfl rfl rfl (by omega) rfl rfl h.sub h.ap h.nz (by omega)
  exact this
theorem settledS {k : Sq} (hx : NoX H.x) : SpecAt Tryz.prog nBsettled [sqV k] H n (sqV { k with tr := -1, lf := 0 }) H n := lift_pure (okT.spec tBsettled (by
  have hx' : H.x 4001003 = some ⟨false, .sv (sqL nthQ)⟩ := hx
  unfold mBsettled sqV sqL
  simp -implicitDefEqProofs only [↓fnVC, initTm]
  simp -implicitDefEqProofs only [go_sem, hx', sqL, nthQ, splice_zero, splice_succ, List.drop_succ_cons, List.drop_zero, List.drop_nil, List.cons_append, List.nil_append, List.take_succ_cons, List.take_zero, List.length_cons, List.length_nil]
  refine sub_mk [] rfl rfl rfl ?_
  simp only [tmSub, hpSub, objSub, eqTm, eqHp, rn, lk, SV.ren, SV.renC, SV.renB, SV.renA, ren_ints, ren_strs, ren_pl, ren_svs, SV.v.injEq, Value.int.injEq, Body.ints.injEq, SV.ptr.injEq, SV.sl.injEq, Value.string.injEq, Value.bool.injEq, List.map_cons, List.map_nil, forall_const, Nat.reduceLT, Nat.lt_add_one, imp_self, true_and, and_true, and_self, ob_some, get_mk, lk_cons, ↓reduceIte, Nat.reduceEqDiff, ne_eq, not_true_eq_false, not_false_eq_true, Nat.one_ne_zero, Nat.zero_ne_one, Nat.succ_ne_self, Nat.reduceAdd, Bool.false_eq_true, false_implies, implies_true, reduceCtorEq])) rfl
def sdQ (k : Sq) : Sq := { k with tr := -1, lf := 0 }
def wtB (slot ver : Int) (I : ByteArray) (T : Bt) : Int × Bt := let p := Sl.swR T.bs T.r slot ver I T.d; (p.1, { T with d := p.2 })
def prR (ver : Int) (I : ByteArray) (T : Bt) : Int × Bt :=
  if 0 ≤ (stQ T.C.now).cf then (12, T) else if (wtB 0 ver I T).1 ≠ 0 then wtB 0 ver I T else kpR ⟨0, -1, 0, ver⟩ (wtB 0 ver I T).2
theorem wtB_k {slot ver : Int} {I : ByteArray} {m t : Nat} (h : BtK T m t) (ht : t + 1133 < 1000000) : BtK (wtB slot ver I T).2 m (t + 133) := ⟨h.C, Sl.swR_pl h.P h.t, ht, h.bs, h.r, h.len, h.clen⟩
set_option maxHeartbeats 2000000 in
theorem provW {ver : Int} {I : ByteArray} {m t : Nat} (hK : BtK T m t) (ht : t + 1133 < 1000000) (hx : NoX x) : fnVC CT mBProvision [.ptr 1 0, .v (.int .i64 ver), .v (.string I)] ⟨btL T true, x⟩ 10 fun v H' n' => Sub 10 ⟨[(0, .v (.int .i64 (prR ver I T).1))], ⟨btN (prR ver I T).2, x⟩, 15⟩ ⟨[(0, v)], H', n'⟩ := by
  have hx' : x 4001003 = some ⟨false, .sv (sqL nthQ)⟩ := hx
  unfold mBProvision btL btB
  simp -implicitDefEqProofs only [↓fnVC, initTm]
  simp -implicitDefEqProofs only [go_sem]
  refine at_call tBState (stateS (T := T) (i := 1) (q := 2) (s := 3) (D := 4) (a := 5) (b := 6) (c := 7) (M := 8) (W := 9) ⟨by rfl, by rfl, by rfl, by rfl, by rfl, by rfl, by rfl, by rfl, by rfl, by decide, by rfl, by rfl⟩ hK.C.now hx) ?_
  unfold sqV sqL
  simp -implicitDefEqProofs only [go_sem]
  by_cases c1 : 0 ≤ (stQ T.C.now).cf
  · have a1 : decide ((stQ T.C.now).cf ≥ 0) = true := decide_eq_true c1
    rw [show prR ver I T = (12, T) from if_pos c1]
    simp -implicitDefEqProofs only [go_sem, a1]
    unfold btN btB
    refine sub_mk [(10, 5), (11, 6), (12, 7), (13, 8), (14, 9)] rfl rfl rfl ?_
    simp only [tmSub, hpSub, objSub, eqTm, eqHp, rn, lk, SV.ren, SV.renC, SV.renB, SV.renA, ren_ints, ren_strs, ren_pl, ren_svs, SV.v.injEq, Value.int.injEq, Body.ints.injEq, SV.ptr.injEq, SV.sl.injEq, Value.string.injEq, Value.bool.injEq, List.map_cons, List.map_nil, forall_const, Nat.reduceLT, Nat.lt_add_one, imp_self, true_and, and_true, and_self, ob_some, get_mk, lk_cons, ↓reduceIte, Nat.reduceEqDiff, ne_eq, not_true_eq_false, not_false_eq_true, Nat.one_ne_zero, Nat.zero_ne_one, Nat.succ_ne_self, Nat.reduceAdd, Bool.false_eq_true, false_implies, implies_true, reduceCtorEq]
    repeat' (first | rfl | apply And.intro)
  have a1 : decide ((stQ T.C.now).cf ≥ 0) = false := decide_eq_false c1
  simp -implicitDefEqProofs only [go_sem, a1]
  obtain ⟨⟨e, d1⟩, hq⟩ : ∃ p, Sl.swR T.bs T.r 0 ver I T.d = p := ⟨_, rfl⟩
  have hw : wtB 0 ver I T = (e, { T with d := d1 }) := by unfold wtB; rw [hq]
  have hK1 : BtK { T with d := d1 } m (t + 133) := by have := wtB_k (slot := 0) (ver := ver) (I := I) hK ht; rw [hw] at this; exact this
  refine at_call tSWrite (Sl.swriteS (q := 3) (i := 4) (a := 5) (b := 6) (c := 7) (d := T.d) hK.bs hK.r (by rfl) ⟨by rfl, by rfl, by rfl, by rfl, by decide⟩ (by decide) hK.P hK.t (by decide) hq) ?_
  rw [Sl.devN_eq]
  simp -implicitDefEqProofs only [go_sem]
  by_cases c2 : e = 0
  · have a2 : decide (e = 0) = true := decide_eq_true c2
    simp -implicitDefEqProofs only [go_sem, a2, hx', sqL, nthQ, splice_zero, splice_succ, List.drop_succ_cons, List.drop_zero, List.drop_nil, List.cons_append, List.nil_append, List.take_succ_cons, List.take_zero, List.length_cons, List.length_nil]
    have hp : prR ver I T = kpR ⟨0, -1, 0, ver⟩ { T with d := d1 } := by unfold prR; rw [if_neg c1, hw, if_neg (by simp [c2])]
    rw [hp]
    obtain ⟨⟨e2, T2⟩, hk⟩ : ∃ p, kpR ⟨0, -1, 0, ver⟩ { T with d := d1 } = p := ⟨_, rfl⟩
    rw [hk]
    refine at_call tBkeep (keepS (T := { T with d := d1 }) (k := ⟨0, -1, 0, ver⟩) (i := 1) (q := 2) (s := 3) (D := 4) (a := 10) (b := 11) (c := 12) (M := 8) (W := 9) ⟨by rfl, by rfl, by rfl, by rfl, by rfl, by rfl, by rfl, by rfl, by rfl, by decide, by rfl, by rfl⟩ hK1 hx (by decide) hk) ?_
    rw [btF_eq]
    simp -implicitDefEqProofs only [go_sem]
    unfold btN btB
    refine sub_mk [(10, 14), (11, 15), (12, 16), (13, 17), (14, 18)] rfl rfl rfl ?_
    simp only [tmSub, hpSub, objSub, eqTm, eqHp, rn, lk, SV.ren, SV.renC, SV.renB, SV.renA, ren_ints, ren_strs, ren_pl, ren_svs, SV.v.injEq, Value.int.injEq, Body.ints.injEq, SV.ptr.injEq, SV.sl.injEq, Value.string.injEq, Value.bool.injEq, List.map_cons, List.map_nil, forall_const, Nat.reduceLT, Nat.lt_add_one, imp_self, true_and, and_true, and_self, ob_some, get_mk, lk_cons, ↓reduceIte, Nat.reduceEqDiff, ne_eq, not_true_eq_false, not_false_eq_true, Nat.one_ne_zero, Nat.zero_ne_one, Nat.succ_ne_self, Nat.reduceAdd, Bool.false_eq_true, false_implies, implies_true, reduceCtorEq]
    repeat' (first | rfl | apply And.intro)
  · have a2 : decide (e = 0) = false := decide_eq_false c2
    rw [show prR ver I T = (e, { T with d := d1 }) by unfold prR; rw [if_neg c1, hw, if_pos c2]]
    simp -implicitDefEqProofs only [go_sem, a2]
    unfold btN btB
    refine sub_mk [(13, 8), (14, 9)] rfl rfl rfl ?_
    simp only [tmSub, hpSub, objSub, eqTm, eqHp, rn, lk, SV.ren, SV.renC, SV.renB, SV.renA, ren_ints, ren_strs, ren_pl, ren_svs, SV.v.injEq, Value.int.injEq, Body.ints.injEq, SV.ptr.injEq, SV.sl.injEq, Value.string.injEq, Value.bool.injEq, List.map_cons, List.map_nil, forall_const, Nat.reduceLT, Nat.lt_add_one, imp_self, true_and, and_true, and_self, ob_some, get_mk, lk_cons, ↓reduceIte, Nat.reduceEqDiff, ne_eq, not_true_eq_false, not_false_eq_true, Nat.one_ne_zero, Nat.zero_ne_one, Nat.succ_ne_self, Nat.reduceAdd, Bool.false_eq_true, false_implies, implies_true, reduceCtorEq]
    repeat' (first | rfl | apply And.intro)
theorem provS {ver : Int} {I : ByteArray} {m t : Nat} (h : BtAt H T i q s D a b c M W) (hK : BtK T m t) (ht : t + 1133 < 1000000) (hx : NoX H.x) (hn : n + 5 ≤ 1000) {e : Int} {T' : Bt} (hq : prR ver I T = (e, T')) : SpecAt Tryz.prog nBProvision [.ptr i 0, .v (.int .i64 ver), .v (.string I)] H n (.v (.int .i64 e)) ⟨btF T' i q s D a b c M W n H.l, H.x⟩ (n + 5) := by
  have e1 : (prR ver I T).1 = e := by rw [hq]
  have e2 : (prR ver I T).2 = T' := by rw [hq]
  subst e1; subst e2
  have := lift (n := n) (okT.spec tBProvision (provW (x := H.x) (T := T) (ver := ver) (I := I) hK ht hx)) (btP i q s D a b c M W) rfl rfl rfl (by omega) rfl rfl h.sub h.ap h.nz (by omega)
  exact this
end
section
/- Boot: Boot. -/
set_option linter.unusedVariables false
set_option linter.unusedSimpArgs false
set_option maxRecDepth 100000
open Go.Proofs
variable {H : Hp} {n : Nat} {x : Nat → Option SO} {i q s D M W a b c : Nat} {d d' : Fd} {C C' : Ce} {T : Bt}
def stopT (T : Bt) : Bt := { T with on := false, slot := 0, ver := 0 }
def runT (slot : Int) (ver : Nat) (T : Bt) : Bt := { T with on := true, slot := slot, ver := ver }
abbrev RdV := Nat × ByteArray × Int
def finR (k : Sq) (T : Bt) : RdV × Bt :=
  let p := Sl.srT T.bs T.r k.cf T.d
  if p.2.2 ≠ 0 then ((0, ⟨#[]⟩, p.2.2), T) else if (p.1 : Int) < k.fl then ((0, ⟨#[]⟩, 12), T) else (p, runT k.cf p.1 T)
def fineB (k : Sq) (p : RdV) : Bool := decide (k.lf > 0) && decide (p.2.2 = 0) && decide ((p.1 : Int) ≥ k.fl)
def nxQ (k : Sq) (p : RdV) : Sq := if fineB k p then { k with lf := k.lf - 1 } else sdQ k
def tryR (k : Sq) (T : Bt) : RdV × Bt :=
  let p := Sl.srT T.bs T.r k.tr T.d
  let z := kpR (nxQ k p) T
  if z.1 ≠ 0 then ((0, ⟨#[]⟩, z.1), z.2) else if fineB k p then ((p.1, p.2.1, 0), runT k.tr p.1 z.2) else finR k z.2
def boR (T : Bt) : RdV × Bt :=
  if (stQ T.C.now).cf < 0 then ((0, ⟨#[]⟩, 5), stopT T) else if 0 ≤ (stQ T.C.now).tr then tryR (stQ T.C.now) (stopT T) else finR (stQ T.C.now) (stopT T)
theorem stQ_lf {es : List (Value × Value)} : 0 ≤ (stQ es).lf ∧ (stQ es).lf ≤ 255 := by
  unfold stQ
  split
  · exact bt_le
  · decide
theorem stQ_cf {es : List (Value × Value)} : -1 ≤ (stQ es).cf ∧ (stQ es).cf ≤ 254 := by
  unfold stQ
  split
  · have := @bt_le (tOf es boot4) 0
    unfold bt; simp only; omega
  · decide
theorem kpR_k {k : Sq} {m t : Nat} (h : BtK T m t) (ht : t + 1133 < 1000000) (hn : T.C.num + 1 < 1000000000000) : BtK (kpR k T).2 m (t + 133) ∧ (kpR k T).2.C.num ≤ T.C.num + 1 ∧ (kpR k T).2.bs = T.bs ∧ (kpR k T).2.r = T.r := by
  have hC := h.C
  have hk : Es (kv boot4 (st4 k)) := kv4_es (by rw [st4_size]; decide)
  have hP : Pl (kpR k T).2.d m (t + 133) := coR_pl h.P h.t hC.half.2
  have hc : ∀ p, coR (kpC k T.C) T.d = p → (p.2.1.num ≤ T.C.num + 1 ∧ p.2.1.base = T.C.base ∧ p.2.1.half = T.C.half ∧ p.2.1.last ≤ 1 ∧ p.2.1.now = kv boot4 (st4 k) ∧ (p.2.1.was = T.C.was ∨ p.2.1.was = kv boot4 (st4 k))) := by
    intro p hp
    subst hp
    have hl := hC.last
    unfold coR
    split
    · exact ⟨Nat.le_succ _, rfl, rfl, hl, rfl, .inl rfl⟩
    split
    · exact ⟨Nat.le_succ _, rfl, rfl, hl, rfl, .inl rfl⟩
    split
    · exact ⟨Nat.le_succ _, rfl, rfl, hl, rfl, .inl rfl⟩
    · exact ⟨Nat.le_refl _, rfl, rfl, Nat.sub_le _ _, rfl, .inr rfl⟩
  obtain ⟨h1, h2, h3, h4, h5, h6⟩ := hc _ rfl
  have hW : Es (coR (kpC k T.C) T.d).2.1.was := by rcases h6 with h | h <;> rw [h]; exact hC.was; exact hk
  unfold kpR kpF at *
  simp only at *
  by_cases c1 : (coR (kpC k T.C) T.d).1 = 0
  · simp only [if_pos c1]
    exact ⟨⟨⟨by rw [h5]; exact hk, hW, by rw [h3]; exact hC.half, by rw [h2]; exact hC.base, h4, Nat.lt_of_le_of_lt h1 hn⟩, hP, ht, h.bs, h.r, h.len, by rw [h2, h3]; exact h.clen⟩, h1, trivial, trivial⟩
  · simp only [if_neg c1]
    exact ⟨⟨⟨hW, hW, by simp only [h3]; exact hC.half, by simp only [h2]; exact hC.base, h4, Nat.lt_of_le_of_lt h1 hn⟩, hP, ht, h.bs, h.r, h.len, by simp only [h2, h3]; exact h.clen⟩, h1, trivial, trivial⟩
set_option maxHeartbeats 4000000 in
theorem bootW {m t : Nat} (hK : BtK T m t) (ht : t + 1133 < 1000000) (hnum : T.C.num + 1 < 1000000000000) (hx : NoX x) : fnVC CT mBBoot [.ptr 1 0] ⟨btL T true, x⟩ 10 fun v H' n' => Sub 10 ⟨[(0, Sl.rV (boR T).1)], ⟨btN (boR T).2, x⟩, 15⟩ ⟨[(0, v)], H', n'⟩ := by
  have hx' : x 4001003 = some ⟨false, .sv (sqL nthQ)⟩ := hx
  have hKs : BtK (stopT T) m t := ⟨hK.C, hK.P, hK.t, hK.bs, hK.r, hK.len, hK.clen⟩
  unfold mBBoot btL btB
  simp -implicitDefEqProofs only [↓fnVC, initTm]
  simp -implicitDefEqProofs only [go_sem]
  refine at_call tBState (stateS (T := T) (i := 1) (q := 2) (s := 3) (D := 4) (a := 5) (b := 6) (c := 7) (M := 8) (W := 9) ⟨by rfl, by rfl, by rfl, by rfl, by rfl, by rfl, by rfl, by rfl, by rfl, by decide, by rfl, by rfl⟩ hK.C.now hx) ?_
  unfold sqV sqL
  simp -implicitDefEqProofs only [go_sem, splice_zero, splice_succ, List.drop_succ_cons, List.drop_zero, List.drop_nil, List.cons_append, List.nil_append, List.take_succ_cons, List.take_zero, List.length_cons, List.length_nil]
  by_cases c1 : (stQ T.C.now).cf < 0
  · have a1 : decide ((stQ T.C.now).cf < 0) = true := decide_eq_true c1
    rw [show boR T = ((0, ⟨#[]⟩, 5), stopT T) from if_pos c1]
    simp -implicitDefEqProofs only [go_sem, a1]
    refine in_call mixT tBstop ?_
    unfold mBstop
    simp -implicitDefEqProofs only [↓fnVC, initTm]
    simp -implicitDefEqProofs only [go_sem, splice_zero, splice_succ, List.drop_succ_cons, List.drop_zero, List.drop_nil, List.cons_append, List.nil_append, List.take_succ_cons, List.take_zero, List.length_cons, List.length_nil]
    unfold btN btB stopT Sl.rV
    refine sub_mk [(10, 5), (11, 6), (12, 7), (13, 8), (14, 9)] rfl rfl rfl ?_
    simp only [tmSub, hpSub, objSub, eqTm, eqHp, rn, lk, SV.ren, SV.renC, SV.renB, SV.renA, ren_ints, ren_strs, ren_pl, ren_svs, SV.v.injEq, Value.int.injEq, Body.ints.injEq, SV.ptr.injEq, SV.sl.injEq, Value.string.injEq, Value.bool.injEq, List.map_cons, List.map_nil, forall_const, Nat.reduceLT, Nat.lt_add_one, imp_self, true_and, and_true, and_self, ob_some, get_mk, lk_cons, ↓reduceIte, Nat.reduceEqDiff, ne_eq, not_true_eq_false, not_false_eq_true, Nat.one_ne_zero, Nat.zero_ne_one, Nat.succ_ne_self, Nat.reduceAdd, Bool.false_eq_true, false_implies, implies_true, reduceCtorEq]
    repeat' (first | rfl | apply And.intro)
  have a1 : decide ((stQ T.C.now).cf < 0) = false := decide_eq_false c1
  simp -implicitDefEqProofs only [go_sem, a1]
  refine in_call mixT tBstop ?_
  unfold mBstop
  simp -implicitDefEqProofs only [↓fnVC, initTm]
  simp -implicitDefEqProofs only [go_sem, splice_zero, splice_succ, List.drop_succ_cons, List.drop_zero, List.drop_nil, List.cons_append, List.nil_append, List.take_succ_cons, List.take_zero, List.length_cons, List.length_nil]
  by_cases c2 : 0 ≤ (stQ T.C.now).tr
  · have a2 : decide ((stQ T.C.now).tr ≥ 0) = true := decide_eq_true c2
    simp -implicitDefEqProofs only [go_sem, a2]
    obtain ⟨⟨v1, I1, e1⟩, hr1⟩ : ∃ p, Sl.srT T.bs T.r (stQ T.C.now).tr T.d = p := ⟨_, rfl⟩
    refine at_call tSRead (Sl.sreadS (q := 3) (i := 4) (a := 5) (b := 6) (c := 7) (d := T.d) hK.bs hK.r (by rfl) ⟨by rfl, by rfl, by rfl, by rfl, by decide⟩ (by decide) hK.P.ok (by rw [hK.P.len]; exact hK.len) hr1) ?_
    unfold Sl.rV
    simp -implicitDefEqProofs only [go_sem]
    have hr3 : Sl.srT (stopT T).bs (stopT T).r (stQ T.C.now).tr (stopT T).d = (v1, I1, e1) := hr1
    cases p1 : decide ((stQ T.C.now).lf > 0) with
    | false =>
      have hf : fineB (stQ T.C.now) (v1, I1, e1) = false := by unfold fineB; simp only [p1]; rfl
      have hnx : nxQ (stQ T.C.now) (v1, I1, e1) = sdQ (stQ T.C.now) := by unfold nxQ; rw [hf]; rfl
      simp -implicitDefEqProofs only [go_sem, p1]
      refine at_call tBsettled (settledS (k := stQ T.C.now) hx) ?_
      unfold sqV sqL
      simp -implicitDefEqProofs only [go_sem, p1, splice_zero, splice_succ, List.drop_succ_cons, List.drop_zero, List.drop_nil, List.cons_append, List.nil_append, List.take_succ_cons, List.take_zero, List.length_cons, List.length_nil]
      obtain ⟨⟨e, T1⟩, hk⟩ : ∃ p, kpR (sdQ (stQ T.C.now)) (stopT T) = p := ⟨_, rfl⟩
      have hkk := kpR_k (k := (sdQ (stQ T.C.now))) hKs ht hnum
      rw [hk] at hkk
      obtain ⟨hK1, _, hb1, hb2⟩ := hkk
      have hT : boR T = if e ≠ 0 then ((0, ⟨#[]⟩, e), T1) else if fineB (stQ T.C.now) (v1, I1, e1) then ((v1, I1, 0), runT (stQ T.C.now).tr v1 T1) else finR (stQ T.C.now) T1 := by
        unfold boR; rw [if_neg c1, if_pos c2]; unfold tryR; simp only [hr3]; rw [hnx, hk]
      refine at_call tBkeep (keepS (T := stopT T) (k := sdQ (stQ T.C.now)) (i := 1) (q := 2) (s := 3) (D := 4) (a := 5) (b := 6) (c := 7) (M := 8) (W := 9) ⟨by rfl, by rfl, by rfl, by rfl, by rfl, by rfl, by rfl, by rfl, by rfl, by decide, by rfl, by rfl⟩ hKs hx (by decide) hk) ?_
      rw [btF_eq]
      unfold btB
      simp -implicitDefEqProofs only [go_sem]
      by_cases d1 : e = 0
      case neg =>
        have k1 : decide (e = 0) = false := decide_eq_false d1
        simp -implicitDefEqProofs only [go_sem, k1, p1]
        rw [hT, if_pos d1]
        unfold btN btB
        refine sub_mk [(10, 12), (11, 13), (12, 14), (13, 15), (14, 16)] rfl rfl rfl ?_
        simp only [tmSub, hpSub, objSub, eqTm, eqHp, rn, lk, SV.ren, SV.renC, SV.renB, SV.renA, ren_ints, ren_strs, ren_pl, ren_svs, SV.v.injEq, Value.int.injEq, Body.ints.injEq, SV.ptr.injEq, SV.sl.injEq, Value.string.injEq, Value.bool.injEq, List.map_cons, List.map_nil, forall_const, Nat.reduceLT, Nat.lt_add_one, imp_self, true_and, and_true, and_self, ob_some, get_mk, lk_cons, ↓reduceIte, Nat.reduceEqDiff, ne_eq, not_true_eq_false, not_false_eq_true, Nat.one_ne_zero, Nat.zero_ne_one, Nat.succ_ne_self, Nat.reduceAdd, Bool.false_eq_true, false_implies, implies_true, reduceCtorEq, stopT]
        repeat' (first | rfl | apply And.intro)
      have k1 : decide (e = 0) = true := decide_eq_true d1
      simp -implicitDefEqProofs only [go_sem, k1, p1]
      obtain ⟨⟨v2, I2, e2⟩, hr2⟩ : ∃ p, Sl.srT T1.bs T1.r (stQ T.C.now).cf T1.d = p := ⟨_, rfl⟩
      have hr3 : Sl.srT T1.bs T1.r (stQ T.C.now).cf T1.d = (v2, I2, e2) := by exact hr2
      refine at_call tSRead (Sl.sreadS (q := 3) (i := 4) (a := 12) (b := 13) (c := 14) (d := T1.d) hK1.bs hK1.r (by rfl) ⟨by rfl, by rfl, by rfl, by rfl, by decide⟩ (by decide) hK1.P.ok (by rw [hK1.P.len]; exact hK1.len) hr2) ?_
      unfold Sl.rV
      simp -implicitDefEqProofs only [go_sem]
      by_cases g1 : e2 = 0
      · have b1 : decide (e2 = 0) = true := decide_eq_true g1
        simp -implicitDefEqProofs only [go_sem, b1]
        by_cases g2 : (v2 : Int) < (stQ T.C.now).fl
        · have b2 : decide ((v2 : Int) < (stQ T.C.now).fl) = true := decide_eq_true g2
          simp -implicitDefEqProofs only [go_sem, b2]
          rw [show boR T = ((0, ⟨#[]⟩, 12), T1) by rw [hT, if_neg (by simp [d1]), hf, if_neg Bool.false_ne_true]; unfold finR; simp only [hr3]; rw [if_neg (by simp [g1]), if_pos g2]]
          unfold btN btB
          refine sub_mk [(10, 12), (11, 13), (12, 14), (13, 15), (14, 16)] rfl rfl rfl ?_
          simp only [tmSub, hpSub, objSub, eqTm, eqHp, rn, lk, SV.ren, SV.renC, SV.renB, SV.renA, ren_ints, ren_strs, ren_pl, ren_svs, SV.v.injEq, Value.int.injEq, Body.ints.injEq, SV.ptr.injEq, SV.sl.injEq, Value.string.injEq, Value.bool.injEq, List.map_cons, List.map_nil, forall_const, Nat.reduceLT, Nat.lt_add_one, imp_self, true_and, and_true, and_self, ob_some, get_mk, lk_cons, ↓reduceIte, Nat.reduceEqDiff, ne_eq, not_true_eq_false, not_false_eq_true, Nat.one_ne_zero, Nat.zero_ne_one, Nat.succ_ne_self, Nat.reduceAdd, Bool.false_eq_true, false_implies, implies_true, reduceCtorEq, stopT]
          repeat' (first | rfl | apply And.intro)
        · have b2 : decide ((v2 : Int) < (stQ T.C.now).fl) = false := decide_eq_false g2
          simp -implicitDefEqProofs only [go_sem, b2]
          refine in_call mixT tBstart ?_
          unfold mBstart
          simp -implicitDefEqProofs only [↓fnVC, initTm]
          simp -implicitDefEqProofs only [go_sem, splice_zero, splice_succ, List.drop_succ_cons, List.drop_zero, List.drop_nil, List.cons_append, List.nil_append, List.take_succ_cons, List.take_zero, List.length_cons, List.length_nil]
          rw [show boR T = ((v2, I2, e2), runT (stQ T.C.now).cf v2 T1) by rw [hT, if_neg (by simp [d1]), hf, if_neg Bool.false_ne_true]; unfold finR; simp only [hr3]; rw [if_neg (by simp [g1]), if_neg g2]]
          rw [g1]
          unfold btN btB runT
          refine sub_mk [(10, 12), (11, 13), (12, 14), (13, 15), (14, 16)] rfl rfl rfl ?_
          simp only [tmSub, hpSub, objSub, eqTm, eqHp, rn, lk, SV.ren, SV.renC, SV.renB, SV.renA, ren_ints, ren_strs, ren_pl, ren_svs, SV.v.injEq, Value.int.injEq, Body.ints.injEq, SV.ptr.injEq, SV.sl.injEq, Value.string.injEq, Value.bool.injEq, List.map_cons, List.map_nil, forall_const, Nat.reduceLT, Nat.lt_add_one, imp_self, true_and, and_true, and_self, ob_some, get_mk, lk_cons, ↓reduceIte, Nat.reduceEqDiff, ne_eq, not_true_eq_false, not_false_eq_true, Nat.one_ne_zero, Nat.zero_ne_one, Nat.succ_ne_self, Nat.reduceAdd, Bool.false_eq_true, false_implies, implies_true, reduceCtorEq, stopT]
          repeat' (first | rfl | apply And.intro)
      · have b1 : decide (e2 = 0) = false := decide_eq_false g1
        simp -implicitDefEqProofs only [go_sem, b1]
        rw [show boR T = ((0, ⟨#[]⟩, e2), T1) by rw [hT, if_neg (by simp [d1]), hf, if_neg Bool.false_ne_true]; unfold finR; simp only [hr3]; rw [if_pos g1]]
        unfold btN btB
        refine sub_mk [(10, 12), (11, 13), (12, 14), (13, 15), (14, 16)] rfl rfl rfl ?_
        simp only [tmSub, hpSub, objSub, eqTm, eqHp, rn, lk, SV.ren, SV.renC, SV.renB, SV.renA, ren_ints, ren_strs, ren_pl, ren_svs, SV.v.injEq, Value.int.injEq, Body.ints.injEq, SV.ptr.injEq, SV.sl.injEq, Value.string.injEq, Value.bool.injEq, List.map_cons, List.map_nil, forall_const, Nat.reduceLT, Nat.lt_add_one, imp_self, true_and, and_true, and_self, ob_some, get_mk, lk_cons, ↓reduceIte, Nat.reduceEqDiff, ne_eq, not_true_eq_false, not_false_eq_true, Nat.one_ne_zero, Nat.zero_ne_one, Nat.succ_ne_self, Nat.reduceAdd, Bool.false_eq_true, false_implies, implies_true, reduceCtorEq, stopT]
        repeat' (first | rfl | apply And.intro)
    | true =>
      cases p2 : decide (e1 = 0) with
      | false =>
        have hf : fineB (stQ T.C.now) (v1, I1, e1) = false := by unfold fineB; simp only [p1, p2]; rfl
        have hnx : nxQ (stQ T.C.now) (v1, I1, e1) = sdQ (stQ T.C.now) := by unfold nxQ; rw [hf]; rfl
        simp -implicitDefEqProofs only [go_sem, p1, p2]
        refine at_call tBsettled (settledS (k := stQ T.C.now) hx) ?_
        unfold sqV sqL
        simp -implicitDefEqProofs only [go_sem, p1, p2, splice_zero, splice_succ, List.drop_succ_cons, List.drop_zero, List.drop_nil, List.cons_append, List.nil_append, List.take_succ_cons, List.take_zero, List.length_cons, List.length_nil]
        obtain ⟨⟨e, T1⟩, hk⟩ : ∃ p, kpR (sdQ (stQ T.C.now)) (stopT T) = p := ⟨_, rfl⟩
        have hkk := kpR_k (k := (sdQ (stQ T.C.now))) hKs ht hnum
        rw [hk] at hkk
        obtain ⟨hK1, _, hb1, hb2⟩ := hkk
        have hT : boR T = if e ≠ 0 then ((0, ⟨#[]⟩, e), T1) else if fineB (stQ T.C.now) (v1, I1, e1) then ((v1, I1, 0), runT (stQ T.C.now).tr v1 T1) else finR (stQ T.C.now) T1 := by
          unfold boR; rw [if_neg c1, if_pos c2]; unfold tryR; simp only [hr3]; rw [hnx, hk]
        refine at_call tBkeep (keepS (T := stopT T) (k := sdQ (stQ T.C.now)) (i := 1) (q := 2) (s := 3) (D := 4) (a := 5) (b := 6) (c := 7) (M := 8) (W := 9) ⟨by rfl, by rfl, by rfl, by rfl, by rfl, by rfl, by rfl, by rfl, by rfl, by decide, by rfl, by rfl⟩ hKs hx (by decide) hk) ?_
        rw [btF_eq]
        unfold btB
        simp -implicitDefEqProofs only [go_sem]
        by_cases d1 : e = 0
        case neg =>
          have k1 : decide (e = 0) = false := decide_eq_false d1
          simp -implicitDefEqProofs only [go_sem, k1, p1, p2]
          rw [hT, if_pos d1]
          unfold btN btB
          refine sub_mk [(10, 12), (11, 13), (12, 14), (13, 15), (14, 16)] rfl rfl rfl ?_
          simp only [tmSub, hpSub, objSub, eqTm, eqHp, rn, lk, SV.ren, SV.renC, SV.renB, SV.renA, ren_ints, ren_strs, ren_pl, ren_svs, SV.v.injEq, Value.int.injEq, Body.ints.injEq, SV.ptr.injEq, SV.sl.injEq, Value.string.injEq, Value.bool.injEq, List.map_cons, List.map_nil, forall_const, Nat.reduceLT, Nat.lt_add_one, imp_self, true_and, and_true, and_self, ob_some, get_mk, lk_cons, ↓reduceIte, Nat.reduceEqDiff, ne_eq, not_true_eq_false, not_false_eq_true, Nat.one_ne_zero, Nat.zero_ne_one, Nat.succ_ne_self, Nat.reduceAdd, Bool.false_eq_true, false_implies, implies_true, reduceCtorEq, stopT]
          repeat' (first | rfl | apply And.intro)
        have k1 : decide (e = 0) = true := decide_eq_true d1
        simp -implicitDefEqProofs only [go_sem, k1, p1, p2]
        obtain ⟨⟨v2, I2, e2⟩, hr2⟩ : ∃ p, Sl.srT T1.bs T1.r (stQ T.C.now).cf T1.d = p := ⟨_, rfl⟩
        have hr3 : Sl.srT T1.bs T1.r (stQ T.C.now).cf T1.d = (v2, I2, e2) := by exact hr2
        refine at_call tSRead (Sl.sreadS (q := 3) (i := 4) (a := 12) (b := 13) (c := 14) (d := T1.d) hK1.bs hK1.r (by rfl) ⟨by rfl, by rfl, by rfl, by rfl, by decide⟩ (by decide) hK1.P.ok (by rw [hK1.P.len]; exact hK1.len) hr2) ?_
        unfold Sl.rV
        simp -implicitDefEqProofs only [go_sem]
        by_cases g1 : e2 = 0
        · have b1 : decide (e2 = 0) = true := decide_eq_true g1
          simp -implicitDefEqProofs only [go_sem, b1]
          by_cases g2 : (v2 : Int) < (stQ T.C.now).fl
          · have b2 : decide ((v2 : Int) < (stQ T.C.now).fl) = true := decide_eq_true g2
            simp -implicitDefEqProofs only [go_sem, b2]
            rw [show boR T = ((0, ⟨#[]⟩, 12), T1) by rw [hT, if_neg (by simp [d1]), hf, if_neg Bool.false_ne_true]; unfold finR; simp only [hr3]; rw [if_neg (by simp [g1]), if_pos g2]]
            unfold btN btB
            refine sub_mk [(10, 12), (11, 13), (12, 14), (13, 15), (14, 16)] rfl rfl rfl ?_
            simp only [tmSub, hpSub, objSub, eqTm, eqHp, rn, lk, SV.ren, SV.renC, SV.renB, SV.renA, ren_ints, ren_strs, ren_pl, ren_svs, SV.v.injEq, Value.int.injEq, Body.ints.injEq, SV.ptr.injEq, SV.sl.injEq, Value.string.injEq, Value.bool.injEq, List.map_cons, List.map_nil, forall_const, Nat.reduceLT, Nat.lt_add_one, imp_self, true_and, and_true, and_self, ob_some, get_mk, lk_cons, ↓reduceIte, Nat.reduceEqDiff, ne_eq, not_true_eq_false, not_false_eq_true, Nat.one_ne_zero, Nat.zero_ne_one, Nat.succ_ne_self, Nat.reduceAdd, Bool.false_eq_true, false_implies, implies_true, reduceCtorEq, stopT]
            repeat' (first | rfl | apply And.intro)
          · have b2 : decide ((v2 : Int) < (stQ T.C.now).fl) = false := decide_eq_false g2
            simp -implicitDefEqProofs only [go_sem, b2]
            refine in_call mixT tBstart ?_
            unfold mBstart
            simp -implicitDefEqProofs only [↓fnVC, initTm]
            simp -implicitDefEqProofs only [go_sem, splice_zero, splice_succ, List.drop_succ_cons, List.drop_zero, List.drop_nil, List.cons_append, List.nil_append, List.take_succ_cons, List.take_zero, List.length_cons, List.length_nil]
            rw [show boR T = ((v2, I2, e2), runT (stQ T.C.now).cf v2 T1) by rw [hT, if_neg (by simp [d1]), hf, if_neg Bool.false_ne_true]; unfold finR; simp only [hr3]; rw [if_neg (by simp [g1]), if_neg g2]]
            rw [g1]
            unfold btN btB runT
            refine sub_mk [(10, 12), (11, 13), (12, 14), (13, 15), (14, 16)] rfl rfl rfl ?_
            simp only [tmSub, hpSub, objSub, eqTm, eqHp, rn, lk, SV.ren, SV.renC, SV.renB, SV.renA, ren_ints, ren_strs, ren_pl, ren_svs, SV.v.injEq, Value.int.injEq, Body.ints.injEq, SV.ptr.injEq, SV.sl.injEq, Value.string.injEq, Value.bool.injEq, List.map_cons, List.map_nil, forall_const, Nat.reduceLT, Nat.lt_add_one, imp_self, true_and, and_true, and_self, ob_some, get_mk, lk_cons, ↓reduceIte, Nat.reduceEqDiff, ne_eq, not_true_eq_false, not_false_eq_true, Nat.one_ne_zero, Nat.zero_ne_one, Nat.succ_ne_self, Nat.reduceAdd, Bool.false_eq_true, false_implies, implies_true, reduceCtorEq, stopT]
            repeat' (first | rfl | apply And.intro)
        · have b1 : decide (e2 = 0) = false := decide_eq_false g1
          simp -implicitDefEqProofs only [go_sem, b1]
          rw [show boR T = ((0, ⟨#[]⟩, e2), T1) by rw [hT, if_neg (by simp [d1]), hf, if_neg Bool.false_ne_true]; unfold finR; simp only [hr3]; rw [if_pos g1]]
          unfold btN btB
          refine sub_mk [(10, 12), (11, 13), (12, 14), (13, 15), (14, 16)] rfl rfl rfl ?_
          simp only [tmSub, hpSub, objSub, eqTm, eqHp, rn, lk, SV.ren, SV.renC, SV.renB, SV.renA, ren_ints, ren_strs, ren_pl, ren_svs, SV.v.injEq, Value.int.injEq, Body.ints.injEq, SV.ptr.injEq, SV.sl.injEq, Value.string.injEq, Value.bool.injEq, List.map_cons, List.map_nil, forall_const, Nat.reduceLT, Nat.lt_add_one, imp_self, true_and, and_true, and_self, ob_some, get_mk, lk_cons, ↓reduceIte, Nat.reduceEqDiff, ne_eq, not_true_eq_false, not_false_eq_true, Nat.one_ne_zero, Nat.zero_ne_one, Nat.succ_ne_self, Nat.reduceAdd, Bool.false_eq_true, false_implies, implies_true, reduceCtorEq, stopT]
          repeat' (first | rfl | apply And.intro)
      | true =>
        cases p3 : decide ((v1 : Int) ≥ (stQ T.C.now).fl) with
        | false =>
          have hf : fineB (stQ T.C.now) (v1, I1, e1) = false := by unfold fineB; simp only [p1, p2, p3]; rfl
          have hnx : nxQ (stQ T.C.now) (v1, I1, e1) = sdQ (stQ T.C.now) := by unfold nxQ; rw [hf]; rfl
          simp -implicitDefEqProofs only [go_sem, p1, p2, p3]
          refine at_call tBsettled (settledS (k := stQ T.C.now) hx) ?_
          unfold sqV sqL
          simp -implicitDefEqProofs only [go_sem, p1, p2, p3, splice_zero, splice_succ, List.drop_succ_cons, List.drop_zero, List.drop_nil, List.cons_append, List.nil_append, List.take_succ_cons, List.take_zero, List.length_cons, List.length_nil]
          obtain ⟨⟨e, T1⟩, hk⟩ : ∃ p, kpR (sdQ (stQ T.C.now)) (stopT T) = p := ⟨_, rfl⟩
          have hkk := kpR_k (k := (sdQ (stQ T.C.now))) hKs ht hnum
          rw [hk] at hkk
          obtain ⟨hK1, _, hb1, hb2⟩ := hkk
          have hT : boR T = if e ≠ 0 then ((0, ⟨#[]⟩, e), T1) else if fineB (stQ T.C.now) (v1, I1, e1) then ((v1, I1, 0), runT (stQ T.C.now).tr v1 T1) else finR (stQ T.C.now) T1 := by
            unfold boR; rw [if_neg c1, if_pos c2]; unfold tryR; simp only [hr3]; rw [hnx, hk]
          refine at_call tBkeep (keepS (T := stopT T) (k := sdQ (stQ T.C.now)) (i := 1) (q := 2) (s := 3) (D := 4) (a := 5) (b := 6) (c := 7) (M := 8) (W := 9) ⟨by rfl, by rfl, by rfl, by rfl, by rfl, by rfl, by rfl, by rfl, by rfl, by decide, by rfl, by rfl⟩ hKs hx (by decide) hk) ?_
          rw [btF_eq]
          unfold btB
          simp -implicitDefEqProofs only [go_sem]
          by_cases d1 : e = 0
          case neg =>
            have k1 : decide (e = 0) = false := decide_eq_false d1
            simp -implicitDefEqProofs only [go_sem, k1, p1, p2, p3]
            rw [hT, if_pos d1]
            unfold btN btB
            refine sub_mk [(10, 12), (11, 13), (12, 14), (13, 15), (14, 16)] rfl rfl rfl ?_
            simp only [tmSub, hpSub, objSub, eqTm, eqHp, rn, lk, SV.ren, SV.renC, SV.renB, SV.renA, ren_ints, ren_strs, ren_pl, ren_svs, SV.v.injEq, Value.int.injEq, Body.ints.injEq, SV.ptr.injEq, SV.sl.injEq, Value.string.injEq, Value.bool.injEq, List.map_cons, List.map_nil, forall_const, Nat.reduceLT, Nat.lt_add_one, imp_self, true_and, and_true, and_self, ob_some, get_mk, lk_cons, ↓reduceIte, Nat.reduceEqDiff, ne_eq, not_true_eq_false, not_false_eq_true, Nat.one_ne_zero, Nat.zero_ne_one, Nat.succ_ne_self, Nat.reduceAdd, Bool.false_eq_true, false_implies, implies_true, reduceCtorEq, stopT]
            repeat' (first | rfl | apply And.intro)
          have k1 : decide (e = 0) = true := decide_eq_true d1
          simp -implicitDefEqProofs only [go_sem, k1, p1, p2, p3]
          obtain ⟨⟨v2, I2, e2⟩, hr2⟩ : ∃ p, Sl.srT T1.bs T1.r (stQ T.C.now).cf T1.d = p := ⟨_, rfl⟩
          have hr3 : Sl.srT T1.bs T1.r (stQ T.C.now).cf T1.d = (v2, I2, e2) := by exact hr2
          refine at_call tSRead (Sl.sreadS (q := 3) (i := 4) (a := 12) (b := 13) (c := 14) (d := T1.d) hK1.bs hK1.r (by rfl) ⟨by rfl, by rfl, by rfl, by rfl, by decide⟩ (by decide) hK1.P.ok (by rw [hK1.P.len]; exact hK1.len) hr2) ?_
          unfold Sl.rV
          simp -implicitDefEqProofs only [go_sem]
          by_cases g1 : e2 = 0
          · have b1 : decide (e2 = 0) = true := decide_eq_true g1
            simp -implicitDefEqProofs only [go_sem, b1]
            by_cases g2 : (v2 : Int) < (stQ T.C.now).fl
            · have b2 : decide ((v2 : Int) < (stQ T.C.now).fl) = true := decide_eq_true g2
              simp -implicitDefEqProofs only [go_sem, b2]
              rw [show boR T = ((0, ⟨#[]⟩, 12), T1) by rw [hT, if_neg (by simp [d1]), hf, if_neg Bool.false_ne_true]; unfold finR; simp only [hr3]; rw [if_neg (by simp [g1]), if_pos g2]]
              unfold btN btB
              refine sub_mk [(10, 12), (11, 13), (12, 14), (13, 15), (14, 16)] rfl rfl rfl ?_
              simp only [tmSub, hpSub, objSub, eqTm, eqHp, rn, lk, SV.ren, SV.renC, SV.renB, SV.renA, ren_ints, ren_strs, ren_pl, ren_svs, SV.v.injEq, Value.int.injEq, Body.ints.injEq, SV.ptr.injEq, SV.sl.injEq, Value.string.injEq, Value.bool.injEq, List.map_cons, List.map_nil, forall_const, Nat.reduceLT, Nat.lt_add_one, imp_self, true_and, and_true, and_self, ob_some, get_mk, lk_cons, ↓reduceIte, Nat.reduceEqDiff, ne_eq, not_true_eq_false, not_false_eq_true, Nat.one_ne_zero, Nat.zero_ne_one, Nat.succ_ne_self, Nat.reduceAdd, Bool.false_eq_true, false_implies, implies_true, reduceCtorEq, stopT]
              repeat' (first | rfl | apply And.intro)
            · have b2 : decide ((v2 : Int) < (stQ T.C.now).fl) = false := decide_eq_false g2
              simp -implicitDefEqProofs only [go_sem, b2]
              refine in_call mixT tBstart ?_
              unfold mBstart
              simp -implicitDefEqProofs only [↓fnVC, initTm]
              simp -implicitDefEqProofs only [go_sem, splice_zero, splice_succ, List.drop_succ_cons, List.drop_zero, List.drop_nil, List.cons_append, List.nil_append, List.take_succ_cons, List.take_zero, List.length_cons, List.length_nil]
              rw [show boR T = ((v2, I2, e2), runT (stQ T.C.now).cf v2 T1) by rw [hT, if_neg (by simp [d1]), hf, if_neg Bool.false_ne_true]; unfold finR; simp only [hr3]; rw [if_neg (by simp [g1]), if_neg g2]]
              rw [g1]
              unfold btN btB runT
              refine sub_mk [(10, 12), (11, 13), (12, 14), (13, 15), (14, 16)] rfl rfl rfl ?_
              simp only [tmSub, hpSub, objSub, eqTm, eqHp, rn, lk, SV.ren, SV.renC, SV.renB, SV.renA, ren_ints, ren_strs, ren_pl, ren_svs, SV.v.injEq, Value.int.injEq, Body.ints.injEq, SV.ptr.injEq, SV.sl.injEq, Value.string.injEq, Value.bool.injEq, List.map_cons, List.map_nil, forall_const, Nat.reduceLT, Nat.lt_add_one, imp_self, true_and, and_true, and_self, ob_some, get_mk, lk_cons, ↓reduceIte, Nat.reduceEqDiff, ne_eq, not_true_eq_false, not_false_eq_true, Nat.one_ne_zero, Nat.zero_ne_one, Nat.succ_ne_self, Nat.reduceAdd, Bool.false_eq_true, false_implies, implies_true, reduceCtorEq, stopT]
              repeat' (first | rfl | apply And.intro)
          · have b1 : decide (e2 = 0) = false := decide_eq_false g1
            simp -implicitDefEqProofs only [go_sem, b1]
            rw [show boR T = ((0, ⟨#[]⟩, e2), T1) by rw [hT, if_neg (by simp [d1]), hf, if_neg Bool.false_ne_true]; unfold finR; simp only [hr3]; rw [if_pos g1]]
            unfold btN btB
            refine sub_mk [(10, 12), (11, 13), (12, 14), (13, 15), (14, 16)] rfl rfl rfl ?_
            simp only [tmSub, hpSub, objSub, eqTm, eqHp, rn, lk, SV.ren, SV.renC, SV.renB, SV.renA, ren_ints, ren_strs, ren_pl, ren_svs, SV.v.injEq, Value.int.injEq, Body.ints.injEq, SV.ptr.injEq, SV.sl.injEq, Value.string.injEq, Value.bool.injEq, List.map_cons, List.map_nil, forall_const, Nat.reduceLT, Nat.lt_add_one, imp_self, true_and, and_true, and_self, ob_some, get_mk, lk_cons, ↓reduceIte, Nat.reduceEqDiff, ne_eq, not_true_eq_false, not_false_eq_true, Nat.one_ne_zero, Nat.zero_ne_one, Nat.succ_ne_self, Nat.reduceAdd, Bool.false_eq_true, false_implies, implies_true, reduceCtorEq, stopT]
            repeat' (first | rfl | apply And.intro)
        | true =>
          have hf : fineB (stQ T.C.now) (v1, I1, e1) = true := by unfold fineB; simp only [p1, p2, p3]; rfl
          have hnx : nxQ (stQ T.C.now) (v1, I1, e1) = { stQ T.C.now with lf := (stQ T.C.now).lf - 1 } := by unfold nxQ; rw [hf]; rfl
          have w1 : IntKind.i64.wrap ((stQ T.C.now).lf - 1) = (stQ T.C.now).lf - 1 := by have := @stQ_lf T.C.now; exact wrap_i64 (by omega) (by omega)
          simp -implicitDefEqProofs only [go_sem, p1, p2, p3]
          refine at_call tBsettled (settledS (k := stQ T.C.now) hx) ?_
          unfold sqV sqL
          simp -implicitDefEqProofs only [go_sem, w1, p1, p2, p3, splice_zero, splice_succ, List.drop_succ_cons, List.drop_zero, List.drop_nil, List.cons_append, List.nil_append, List.take_succ_cons, List.take_zero, List.length_cons, List.length_nil]
          obtain ⟨⟨e, T1⟩, hk⟩ : ∃ p, kpR { stQ T.C.now with lf := (stQ T.C.now).lf - 1 } (stopT T) = p := ⟨_, rfl⟩
          have hkk := kpR_k (k := { stQ T.C.now with lf := (stQ T.C.now).lf - 1 }) hKs ht hnum
          rw [hk] at hkk
          obtain ⟨hK1, _, hb1, hb2⟩ := hkk
          have hT : boR T = if e ≠ 0 then ((0, ⟨#[]⟩, e), T1) else if fineB (stQ T.C.now) (v1, I1, e1) then ((v1, I1, 0), runT (stQ T.C.now).tr v1 T1) else finR (stQ T.C.now) T1 := by
            unfold boR; rw [if_neg c1, if_pos c2]; unfold tryR; simp only [hr3]; rw [hnx, hk]
          refine at_call tBkeep (keepS (T := stopT T) (k := { stQ T.C.now with lf := (stQ T.C.now).lf - 1 }) (i := 1) (q := 2) (s := 3) (D := 4) (a := 5) (b := 6) (c := 7) (M := 8) (W := 9) ⟨by rfl, by rfl, by rfl, by rfl, by rfl, by rfl, by rfl, by rfl, by rfl, by decide, by rfl, by rfl⟩ hKs hx (by decide) hk) ?_
          rw [btF_eq]
          unfold btB
          simp -implicitDefEqProofs only [go_sem]
          by_cases d1 : e = 0
          case neg =>
            have k1 : decide (e = 0) = false := decide_eq_false d1
            simp -implicitDefEqProofs only [go_sem, k1, p1, p2, p3]
            rw [hT, if_pos d1]
            unfold btN btB
            refine sub_mk [(10, 12), (11, 13), (12, 14), (13, 15), (14, 16)] rfl rfl rfl ?_
            simp only [tmSub, hpSub, objSub, eqTm, eqHp, rn, lk, SV.ren, SV.renC, SV.renB, SV.renA, ren_ints, ren_strs, ren_pl, ren_svs, SV.v.injEq, Value.int.injEq, Body.ints.injEq, SV.ptr.injEq, SV.sl.injEq, Value.string.injEq, Value.bool.injEq, List.map_cons, List.map_nil, forall_const, Nat.reduceLT, Nat.lt_add_one, imp_self, true_and, and_true, and_self, ob_some, get_mk, lk_cons, ↓reduceIte, Nat.reduceEqDiff, ne_eq, not_true_eq_false, not_false_eq_true, Nat.one_ne_zero, Nat.zero_ne_one, Nat.succ_ne_self, Nat.reduceAdd, Bool.false_eq_true, false_implies, implies_true, reduceCtorEq, stopT]
            repeat' (first | rfl | apply And.intro)
          have k1 : decide (e = 0) = true := decide_eq_true d1
          simp -implicitDefEqProofs only [go_sem, k1, p1, p2, p3]
          refine in_call mixT tBstart ?_
          unfold mBstart
          simp -implicitDefEqProofs only [↓fnVC, initTm]
          simp -implicitDefEqProofs only [go_sem, splice_zero, splice_succ, List.drop_succ_cons, List.drop_zero, List.drop_nil, List.cons_append, List.nil_append, List.take_succ_cons, List.take_zero, List.length_cons, List.length_nil]
          rw [hT, if_neg (by simp [d1]), hf, if_pos rfl]
          unfold btN btB runT
          refine sub_mk [(10, 12), (11, 13), (12, 14), (13, 15), (14, 16)] rfl rfl rfl ?_
          simp only [tmSub, hpSub, objSub, eqTm, eqHp, rn, lk, SV.ren, SV.renC, SV.renB, SV.renA, ren_ints, ren_strs, ren_pl, ren_svs, SV.v.injEq, Value.int.injEq, Body.ints.injEq, SV.ptr.injEq, SV.sl.injEq, Value.string.injEq, Value.bool.injEq, List.map_cons, List.map_nil, forall_const, Nat.reduceLT, Nat.lt_add_one, imp_self, true_and, and_true, and_self, ob_some, get_mk, lk_cons, ↓reduceIte, Nat.reduceEqDiff, ne_eq, not_true_eq_false, not_false_eq_true, Nat.one_ne_zero, Nat.zero_ne_one, Nat.succ_ne_self, Nat.reduceAdd, Bool.false_eq_true, false_implies, implies_true, reduceCtorEq, stopT]
          repeat' (first | rfl | apply And.intro)
  have a2 : decide ((stQ T.C.now).tr ≥ 0) = false := decide_eq_false c2
  simp -implicitDefEqProofs only [go_sem, a2]
  obtain ⟨⟨v2, I2, e2⟩, hr2⟩ : ∃ p, Sl.srT T.bs T.r (stQ T.C.now).cf (stopT T).d = p := ⟨_, rfl⟩
  have hr3 : Sl.srT (stopT T).bs (stopT T).r (stQ T.C.now).cf (stopT T).d = (v2, I2, e2) := by exact hr2
  refine at_call tSRead (Sl.sreadS (q := 3) (i := 4) (a := 5) (b := 6) (c := 7) (d := (stopT T).d) hKs.bs hKs.r (by rfl) ⟨by rfl, by rfl, by rfl, by rfl, by decide⟩ (by decide) hKs.P.ok (by rw [hKs.P.len]; exact hKs.len) hr2) ?_
  unfold Sl.rV
  simp -implicitDefEqProofs only [go_sem]
  by_cases g1 : e2 = 0
  · have b1 : decide (e2 = 0) = true := decide_eq_true g1
    simp -implicitDefEqProofs only [go_sem, b1]
    by_cases g2 : (v2 : Int) < (stQ T.C.now).fl
    · have b2 : decide ((v2 : Int) < (stQ T.C.now).fl) = true := decide_eq_true g2
      simp -implicitDefEqProofs only [go_sem, b2]
      rw [show boR T = ((0, ⟨#[]⟩, 12), (stopT T)) by unfold boR; rw [if_neg c1, if_neg c2]; unfold finR; simp only [hr3]; rw [if_neg (by simp [g1]), if_pos g2]]
      unfold btN btB
      refine sub_mk [(10, 5), (11, 6), (12, 7), (13, 8), (14, 9)] rfl rfl rfl ?_
      simp only [tmSub, hpSub, objSub, eqTm, eqHp, rn, lk, SV.ren, SV.renC, SV.renB, SV.renA, ren_ints, ren_strs, ren_pl, ren_svs, SV.v.injEq, Value.int.injEq, Body.ints.injEq, SV.ptr.injEq, SV.sl.injEq, Value.string.injEq, Value.bool.injEq, List.map_cons, List.map_nil, forall_const, Nat.reduceLT, Nat.lt_add_one, imp_self, true_and, and_true, and_self, ob_some, get_mk, lk_cons, ↓reduceIte, Nat.reduceEqDiff, ne_eq, not_true_eq_false, not_false_eq_true, Nat.one_ne_zero, Nat.zero_ne_one, Nat.succ_ne_self, Nat.reduceAdd, Bool.false_eq_true, false_implies, implies_true, reduceCtorEq, stopT]
      repeat' (first | rfl | apply And.intro)
    · have b2 : decide ((v2 : Int) < (stQ T.C.now).fl) = false := decide_eq_false g2
      simp -implicitDefEqProofs only [go_sem, b2]
      refine in_call mixT tBstart ?_
      unfold mBstart
      simp -implicitDefEqProofs only [↓fnVC, initTm]
      simp -implicitDefEqProofs only [go_sem, splice_zero, splice_succ, List.drop_succ_cons, List.drop_zero, List.drop_nil, List.cons_append, List.nil_append, List.take_succ_cons, List.take_zero, List.length_cons, List.length_nil]
      rw [show boR T = ((v2, I2, e2), runT (stQ T.C.now).cf v2 (stopT T)) by unfold boR; rw [if_neg c1, if_neg c2]; unfold finR; simp only [hr3]; rw [if_neg (by simp [g1]), if_neg g2]]
      rw [g1]
      unfold btN btB runT
      refine sub_mk [(10, 5), (11, 6), (12, 7), (13, 8), (14, 9)] rfl rfl rfl ?_
      simp only [tmSub, hpSub, objSub, eqTm, eqHp, rn, lk, SV.ren, SV.renC, SV.renB, SV.renA, ren_ints, ren_strs, ren_pl, ren_svs, SV.v.injEq, Value.int.injEq, Body.ints.injEq, SV.ptr.injEq, SV.sl.injEq, Value.string.injEq, Value.bool.injEq, List.map_cons, List.map_nil, forall_const, Nat.reduceLT, Nat.lt_add_one, imp_self, true_and, and_true, and_self, ob_some, get_mk, lk_cons, ↓reduceIte, Nat.reduceEqDiff, ne_eq, not_true_eq_false, not_false_eq_true, Nat.one_ne_zero, Nat.zero_ne_one, Nat.succ_ne_self, Nat.reduceAdd, Bool.false_eq_true, false_implies, implies_true, reduceCtorEq, stopT]
      repeat' (first | rfl | apply And.intro)
  · have b1 : decide (e2 = 0) = false := decide_eq_false g1
    simp -implicitDefEqProofs only [go_sem, b1]
    rw [show boR T = ((0, ⟨#[]⟩, e2), (stopT T)) by unfold boR; rw [if_neg c1, if_neg c2]; unfold finR; simp only [hr3]; rw [if_pos g1]]
    unfold btN btB
    refine sub_mk [(10, 5), (11, 6), (12, 7), (13, 8), (14, 9)] rfl rfl rfl ?_
    simp only [tmSub, hpSub, objSub, eqTm, eqHp, rn, lk, SV.ren, SV.renC, SV.renB, SV.renA, ren_ints, ren_strs, ren_pl, ren_svs, SV.v.injEq, Value.int.injEq, Body.ints.injEq, SV.ptr.injEq, SV.sl.injEq, Value.string.injEq, Value.bool.injEq, List.map_cons, List.map_nil, forall_const, Nat.reduceLT, Nat.lt_add_one, imp_self, true_and, and_true, and_self, ob_some, get_mk, lk_cons, ↓reduceIte, Nat.reduceEqDiff, ne_eq, not_true_eq_false, not_false_eq_true, Nat.one_ne_zero, Nat.zero_ne_one, Nat.succ_ne_self, Nat.reduceAdd, Bool.false_eq_true, false_implies, implies_true, reduceCtorEq, stopT]
    repeat' (first | rfl | apply And.intro)
end
section
/- Boot: Confirm. -/
set_option linter.unusedVariables false
set_option linter.unusedSimpArgs false
set_option maxRecDepth 100000
open Go.Proofs
variable {H : Hp} {n : Nat} {x : Nat → Option SO} {i q s D M W a b c : Nat} {d d' : Fd} {C C' : Ce} {T : Bt}
theorem bootS {m t : Nat} (h : BtAt H T i q s D a b c M W) (hK : BtK T m t) (ht : t + 1133 < 1000000) (hnum : T.C.num + 1 < 1000000000000) (hx : NoX H.x) (hn : n + 5 ≤ 1000) {e : RdV} {T' : Bt} (hq : boR T = (e, T')) : SpecAt Tryz.prog nBBoot [.ptr i 0] H n (Sl.rV e) ⟨btF T' i q s D a b c M W n H.l, H.x⟩ (n + 5) := by
  have e1 : (boR T).1 = e := by rw [hq]
  have e2 : (boR T).2 = T' := by rw [hq]
  subst e1; subst e2
  have := lift (n := n) (okT.spec tBBoot (bootW (x := H.x) (T := T) hK ht hnum hx)) (btP i q s D a b c M W) rfl rfl rfl (by omega) rfl rfl h.sub h.ap h.nz (by omega)
  exact this
def cfR (T : Bt) : Int × Bt := if T.on = false then (5, T) else if T.slot ≠ (stQ T.C.now).tr then (0, T) else kpR ⟨T.slot, -1, 0, T.ver⟩ T
set_option maxHeartbeats 2000000 in
theorem confW {m t : Nat} (hK : BtK T m t) (hx : NoX x) : fnVC CT mBConfirm [.ptr 1 0] ⟨btL T true, x⟩ 10 fun v H' n' => Sub 10 ⟨[(0, .v (.int .i64 (cfR T).1))], ⟨btN (cfR T).2, x⟩, 15⟩ ⟨[(0, v)], H', n'⟩ := by
  unfold mBConfirm btL btB
  simp -implicitDefEqProofs only [↓fnVC, initTm]
  simp -implicitDefEqProofs only [go_sem]
  refine in_call mixT tBRunning ?_
  unfold mBRunning
  simp -implicitDefEqProofs only [↓fnVC, initTm]
  simp -implicitDefEqProofs only [go_sem]
  by_cases c1 : T.on = false
  · simp -implicitDefEqProofs only [go_sem, c1]
    refine at_call tBState (stateS (T := T) (i := 1) (q := 2) (s := 3) (D := 4) (a := 5) (b := 6) (c := 7) (M := 8) (W := 9) ⟨by unfold btB; rw [c1]; rfl, by rfl, by rfl, by rfl, by rfl, by rfl, by rfl, by rfl, by rfl, by decide, by rfl, by rfl⟩ hK.C.now hx) ?_
    unfold sqV sqL
    simp -implicitDefEqProofs only [go_sem, splice_zero, splice_succ, List.drop_succ_cons, List.drop_zero, List.drop_nil, List.cons_append, List.nil_append, List.take_succ_cons, List.take_zero, List.length_cons, List.length_nil]
    rw [show cfR T = (5, T) from if_pos c1]
    unfold btN btB
    rw [c1]
    refine sub_mk [(10, 5), (11, 6), (12, 7), (13, 8), (14, 9)] rfl rfl rfl ?_
    simp only [tmSub, hpSub, objSub, eqTm, eqHp, rn, lk, SV.ren, SV.renC, SV.renB, SV.renA, ren_ints, ren_strs, ren_pl, ren_svs, SV.v.injEq, Value.int.injEq, Body.ints.injEq, SV.ptr.injEq, SV.sl.injEq, Value.string.injEq, Value.bool.injEq, List.map_cons, List.map_nil, forall_const, Nat.reduceLT, Nat.lt_add_one, imp_self, true_and, and_true, and_self, ob_some, get_mk, lk_cons, ↓reduceIte, Nat.reduceEqDiff, ne_eq, not_true_eq_false, not_false_eq_true, Nat.one_ne_zero, Nat.zero_ne_one, Nat.succ_ne_self, Nat.reduceAdd, Bool.false_eq_true, false_implies, implies_true, reduceCtorEq]
    repeat' (first | rfl | apply And.intro)
  have c1' : T.on = true := by simpa using c1
  simp -implicitDefEqProofs only [go_sem, c1']
  refine at_call tBState (stateS (T := T) (i := 1) (q := 2) (s := 3) (D := 4) (a := 5) (b := 6) (c := 7) (M := 8) (W := 9) ⟨by unfold btB; rw [c1']; rfl, by rfl, by rfl, by rfl, by rfl, by rfl, by rfl, by rfl, by rfl, by decide, by rfl, by rfl⟩ hK.C.now hx) ?_
  unfold sqV sqL
  simp -implicitDefEqProofs only [go_sem, splice_zero, splice_succ, List.drop_succ_cons, List.drop_zero, List.drop_nil, List.cons_append, List.nil_append, List.take_succ_cons, List.take_zero, List.length_cons, List.length_nil]
  by_cases c2 : T.slot = (stQ T.C.now).tr
  · have a2 : decide (T.slot = (stQ T.C.now).tr) = true := decide_eq_true c2
    have hp : cfR T = kpR ⟨T.slot, -1, 0, T.ver⟩ T := by unfold cfR; rw [if_neg c1, if_neg (by simp [c2])]
    rw [hp]
    simp -implicitDefEqProofs only [go_sem, a2]
    refine at_call tBsettled (settledS (k := stQ T.C.now) hx) ?_
    unfold sqV sqL
    simp -implicitDefEqProofs only [go_sem, splice_zero, splice_succ, List.drop_succ_cons, List.drop_zero, List.drop_nil, List.cons_append, List.nil_append, List.take_succ_cons, List.take_zero, List.length_cons, List.length_nil]
    obtain ⟨⟨e, T1⟩, hk⟩ : ∃ p, kpR ⟨T.slot, -1, 0, T.ver⟩ T = p := ⟨_, rfl⟩
    rw [hk]
    refine at_call tBkeep (keepS (T := T) (k := ⟨T.slot, -1, 0, T.ver⟩) (i := 1) (q := 2) (s := 3) (D := 4) (a := 5) (b := 6) (c := 7) (M := 8) (W := 9) ⟨by unfold btB; rw [c1']; rfl, by rfl, by rfl, by rfl, by rfl, by rfl, by rfl, by rfl, by rfl, by decide, by rfl, by rfl⟩ hK hx (by decide) hk) ?_
    rw [btF_eq]
    unfold btB
    simp -implicitDefEqProofs only [go_sem]
    unfold btN btB
    refine sub_mk [(10, 12), (11, 13), (12, 14), (13, 15), (14, 16)] rfl rfl rfl ?_
    simp only [tmSub, hpSub, objSub, eqTm, eqHp, rn, lk, SV.ren, SV.renC, SV.renB, SV.renA, ren_ints, ren_strs, ren_pl, ren_svs, SV.v.injEq, Value.int.injEq, Body.ints.injEq, SV.ptr.injEq, SV.sl.injEq, Value.string.injEq, Value.bool.injEq, List.map_cons, List.map_nil, forall_const, Nat.reduceLT, Nat.lt_add_one, imp_self, true_and, and_true, and_self, ob_some, get_mk, lk_cons, ↓reduceIte, Nat.reduceEqDiff, ne_eq, not_true_eq_false, not_false_eq_true, Nat.one_ne_zero, Nat.zero_ne_one, Nat.succ_ne_self, Nat.reduceAdd, Bool.false_eq_true, false_implies, implies_true, reduceCtorEq]
    repeat' (first | rfl | apply And.intro)
  · have a2 : decide (T.slot = (stQ T.C.now).tr) = false := decide_eq_false c2
    rw [show cfR T = (0, T) by unfold cfR; rw [if_neg c1, if_pos c2]]
    simp -implicitDefEqProofs only [go_sem, a2]
    unfold btN btB
    rw [c1']
    refine sub_mk [(10, 5), (11, 6), (12, 7), (13, 8), (14, 9)] rfl rfl rfl ?_
    simp only [tmSub, hpSub, objSub, eqTm, eqHp, rn, lk, SV.ren, SV.renC, SV.renB, SV.renA, ren_ints, ren_strs, ren_pl, ren_svs, SV.v.injEq, Value.int.injEq, Body.ints.injEq, SV.ptr.injEq, SV.sl.injEq, Value.string.injEq, Value.bool.injEq, List.map_cons, List.map_nil, forall_const, Nat.reduceLT, Nat.lt_add_one, imp_self, true_and, and_true, and_self, ob_some, get_mk, lk_cons, ↓reduceIte, Nat.reduceEqDiff, ne_eq, not_true_eq_false, not_false_eq_true, Nat.one_ne_zero, Nat.zero_ne_one, Nat.succ_ne_self, Nat.reduceAdd, Bool.false_eq_true, false_implies, implies_true, reduceCtorEq]
    repeat' (first | rfl | apply And.intro)
theorem confS {m t : Nat} (h : BtAt H T i q s D a b c M W) (hK : BtK T m t) (hx : NoX H.x) (hn : n + 5 ≤ 1000) {e : Int} {T' : Bt} (hq : cfR T = (e, T')) : SpecAt Tryz.prog nBConfirm [.ptr i 0] H n (.v (.int .i64 e)) ⟨btF T' i q s D a b c M W n H.l, H.x⟩ (n + 5) := by
  have e1 : (cfR T).1 = e := by rw [hq]
  have e2 : (cfR T).2 = T' := by rw [hq]
  subst e1; subst e2
  have := lift (n := n) (okT.spec tBConfirm (confW (x := H.x) (T := T) hK hx)) (btP i q s D a b c M W) rfl rfl rfl (by omega) rfl rfl h.sub h.ap h.nz (by omega)
  exact this
end
section
/- Boot: Install. -/
set_option linter.unusedVariables false
set_option linter.unusedSimpArgs false
set_option maxRecDepth 100000
open Go.Proofs
variable {H : Hp} {n : Nat} {x : Nat → Option SO} {i q s D M W a b c : Nat} {d d' : Fd} {C C' : Ce} {T : Bt}
def itE (k : Sq) (ver : Int) (I : ByteArray) (tries : Int) (r : Nat) : Int :=
  if k.cf < 0 then 5 else if tries < 1 ∨ 8 < tries then 1 else if k.fl = 255 then 8 else if ver ≤ k.fl then 12 else if 255 < ver ∨ seq I ⟨#[]⟩ = true then 1 else if min 8192 ((r : Int) * 64) < I.size then 4 else 0
def tlR (k : Sq) (ver : Int) (I : ByteArray) (tries : Int) (T : Bt) : Int × Bt :=
  let w := wtB (1 - k.cf) ver I T
  if w.1 ≠ 0 then w else kpR ⟨k.cf, 1 - k.cf, tries, k.fl⟩ w.2
def haltT (o : Int) (T : Bt) : Bt := if T.on = true ∧ T.slot = o then stopT T else T
def inR (ver : Int) (I : ByteArray) (tries : Int) (T : Bt) : Int × Bt :=
  if itE (stQ T.C.now) ver I tries T.r ≠ 0 then (itE (stQ T.C.now) ver I tries T.r, T) else
  let T0 := haltT (1 - (stQ T.C.now).cf) T
  if (stQ T.C.now).tr = -1 ∧ (stQ T.C.now).lf = 0 then tlR (stQ T.C.now) ver I tries T0 else
  let z := kpR (sdQ (stQ T.C.now)) T0
  if z.1 ≠ 0 then z else tlR (stQ T.C.now) ver I tries z.2
set_option maxHeartbeats 8000000 in
theorem instW {ver tries : Int} {I : ByteArray} {m t : Nat} (hK : BtK T m t) (ht : t + 1266 < 1000000) (hnum : T.C.num + 1 < 1000000000000) (hx : NoX x) : fnVC CT mBInstall [.ptr 1 0, .v (.int .i64 ver), .v (.string I), .v (.int .i64 tries)] ⟨btL T true, x⟩ 10 fun v H' n' => Sub 10 ⟨[(0, .v (.int .i64 (inR ver I tries T).1))], ⟨btN (inR ver I tries T).2, x⟩, 15⟩ ⟨[(0, v)], H', n'⟩ := by
  have hx' : x 4001003 = some ⟨false, .sv (sqL nthQ)⟩ := hx
  have hKs : BtK (stopT T) m t := ⟨hK.C, hK.P, hK.t, hK.bs, hK.r, hK.len, hK.clen⟩
  have hcf := @stQ_cf T.C.now
  have hr := hK.r
  have hz : ∀ {e : Int}, itE (stQ T.C.now) ver I tries T.r = e → e ≠ 0 → inR ver I tries T = (e, T) := fun h1 h2 => by unfold inR; rw [h1, if_pos h2]
  unfold mBInstall btL btB
  simp -implicitDefEqProofs only [↓fnVC, initTm]
  simp -implicitDefEqProofs only [go_sem]
  refine at_call tBState (stateS (T := T) (i := 1) (q := 2) (s := 3) (D := 4) (a := 5) (b := 6) (c := 7) (M := 8) (W := 9) ⟨by rfl, by rfl, by rfl, by rfl, by rfl, by rfl, by rfl, by rfl, by rfl, by decide, by rfl, by rfl⟩ hK.C.now hx) ?_
  unfold sqV sqL
  simp -implicitDefEqProofs only [go_sem, hx', sqL, nthQ, splice_zero, splice_succ, List.drop_succ_cons, List.drop_zero, List.drop_nil, List.cons_append, List.nil_append, List.take_succ_cons, List.take_zero, List.length_cons, List.length_nil]
  by_cases c1 : (stQ T.C.now).cf < 0
  · have a1 : decide ((stQ T.C.now).cf < 0) = true := decide_eq_true c1
    cases a0 : (decide ((stQ T.C.now).cf = -1) && (decide ((stQ T.C.now).tr = -1) && (decide ((stQ T.C.now).lf = 0) && decide ((stQ T.C.now).fl = 0)))) with
    | true =>
      simp -implicitDefEqProofs only [go_sem, a0, splice_zero, splice_succ, List.drop_succ_cons, List.drop_zero, List.drop_nil, List.cons_append, List.nil_append, List.take_succ_cons, List.take_zero, List.length_cons, List.length_nil]
      rw [hz (e := 5) (by unfold itE; rw [if_pos c1]) (by decide)]
      unfold btN btB
      refine sub_mk [(10, 5), (11, 6), (12, 7), (13, 8), (14, 9)] rfl rfl rfl ?_
      simp only [tmSub, hpSub, objSub, eqTm, eqHp, rn, lk, SV.ren, SV.renC, SV.renB, SV.renA, ren_ints, ren_strs, ren_pl, ren_svs, SV.v.injEq, Value.int.injEq, Body.ints.injEq, SV.ptr.injEq, SV.sl.injEq, Value.string.injEq, Value.bool.injEq, List.map_cons, List.map_nil, forall_const, Nat.reduceLT, Nat.lt_add_one, imp_self, true_and, and_true, and_self, ob_some, get_mk, lk_cons, ↓reduceIte, Nat.reduceEqDiff, ne_eq, not_true_eq_false, not_false_eq_true, Nat.one_ne_zero, Nat.zero_ne_one, Nat.succ_ne_self, Nat.reduceAdd, Bool.false_eq_true, false_implies, implies_true, reduceCtorEq]
      repeat' (first | rfl | apply And.intro)
    | false =>
      simp -implicitDefEqProofs only [go_sem, a0, a1, splice_zero, splice_succ, List.drop_succ_cons, List.drop_zero, List.drop_nil, List.cons_append, List.nil_append, List.take_succ_cons, List.take_zero, List.length_cons, List.length_nil]
      rw [hz (e := 5) (by unfold itE; rw [if_pos c1]) (by decide)]
      unfold btN btB
      refine sub_mk [(10, 5), (11, 6), (12, 7), (13, 8), (14, 9)] rfl rfl rfl ?_
      simp only [tmSub, hpSub, objSub, eqTm, eqHp, rn, lk, SV.ren, SV.renC, SV.renB, SV.renA, ren_ints, ren_strs, ren_pl, ren_svs, SV.v.injEq, Value.int.injEq, Body.ints.injEq, SV.ptr.injEq, SV.sl.injEq, Value.string.injEq, Value.bool.injEq, List.map_cons, List.map_nil, forall_const, Nat.reduceLT, Nat.lt_add_one, imp_self, true_and, and_true, and_self, ob_some, get_mk, lk_cons, ↓reduceIte, Nat.reduceEqDiff, ne_eq, not_true_eq_false, not_false_eq_true, Nat.one_ne_zero, Nat.zero_ne_one, Nat.succ_ne_self, Nat.reduceAdd, Bool.false_eq_true, false_implies, implies_true, reduceCtorEq]
      repeat' (first | rfl | apply And.intro)
  have a0 : decide ((stQ T.C.now).cf = -1) = false := decide_eq_false (by omega)
  have a1 : decide ((stQ T.C.now).cf < 0) = false := decide_eq_false c1
  simp -implicitDefEqProofs only [go_sem, a0, a1, Bool.false_and, splice_zero, splice_succ, List.drop_succ_cons, List.drop_zero, List.drop_nil, List.cons_append, List.nil_append, List.take_succ_cons, List.take_zero, List.length_cons, List.length_nil]
  by_cases c2 : tries < 1
  · have a2 : decide (tries < 1) = true := decide_eq_true c2
    simp -implicitDefEqProofs only [go_sem, a2, splice_zero, splice_succ, List.drop_succ_cons, List.drop_zero, List.drop_nil, List.cons_append, List.nil_append, List.take_succ_cons, List.take_zero, List.length_cons, List.length_nil]
    rw [hz (e := 1) (by unfold itE; rw [if_neg c1, if_pos (.inl c2)]) (by decide)]
    unfold btN btB
    refine sub_mk [(10, 5), (11, 6), (12, 7), (13, 8), (14, 9)] rfl rfl rfl ?_
    simp only [tmSub, hpSub, objSub, eqTm, eqHp, rn, lk, SV.ren, SV.renC, SV.renB, SV.renA, ren_ints, ren_strs, ren_pl, ren_svs, SV.v.injEq, Value.int.injEq, Body.ints.injEq, SV.ptr.injEq, SV.sl.injEq, Value.string.injEq, Value.bool.injEq, List.map_cons, List.map_nil, forall_const, Nat.reduceLT, Nat.lt_add_one, imp_self, true_and, and_true, and_self, ob_some, get_mk, lk_cons, ↓reduceIte, Nat.reduceEqDiff, ne_eq, not_true_eq_false, not_false_eq_true, Nat.one_ne_zero, Nat.zero_ne_one, Nat.succ_ne_self, Nat.reduceAdd, Bool.false_eq_true, false_implies, implies_true, reduceCtorEq]
    repeat' (first | rfl | apply And.intro)
  have a2 : decide (tries < 1) = false := decide_eq_false c2
  simp -implicitDefEqProofs only [go_sem, a2, splice_zero, splice_succ, List.drop_succ_cons, List.drop_zero, List.drop_nil, List.cons_append, List.nil_append, List.take_succ_cons, List.take_zero, List.length_cons, List.length_nil]
  by_cases c3 : tries > 8
  · have a3 : decide (tries > 8) = true := decide_eq_true c3
    simp -implicitDefEqProofs only [go_sem, a3, splice_zero, splice_succ, List.drop_succ_cons, List.drop_zero, List.drop_nil, List.cons_append, List.nil_append, List.take_succ_cons, List.take_zero, List.length_cons, List.length_nil]
    rw [hz (e := 1) (by unfold itE; rw [if_neg c1, if_pos (.inr c3)]) (by decide)]
    unfold btN btB
    refine sub_mk [(10, 5), (11, 6), (12, 7), (13, 8), (14, 9)] rfl rfl rfl ?_
    simp only [tmSub, hpSub, objSub, eqTm, eqHp, rn, lk, SV.ren, SV.renC, SV.renB, SV.renA, ren_ints, ren_strs, ren_pl, ren_svs, SV.v.injEq, Value.int.injEq, Body.ints.injEq, SV.ptr.injEq, SV.sl.injEq, Value.string.injEq, Value.bool.injEq, List.map_cons, List.map_nil, forall_const, Nat.reduceLT, Nat.lt_add_one, imp_self, true_and, and_true, and_self, ob_some, get_mk, lk_cons, ↓reduceIte, Nat.reduceEqDiff, ne_eq, not_true_eq_false, not_false_eq_true, Nat.one_ne_zero, Nat.zero_ne_one, Nat.succ_ne_self, Nat.reduceAdd, Bool.false_eq_true, false_implies, implies_true, reduceCtorEq]
    repeat' (first | rfl | apply And.intro)
  have a3 : decide (tries > 8) = false := decide_eq_false c3
  simp -implicitDefEqProofs only [go_sem, a3, splice_zero, splice_succ, List.drop_succ_cons, List.drop_zero, List.drop_nil, List.cons_append, List.nil_append, List.take_succ_cons, List.take_zero, List.length_cons, List.length_nil]
  have c23 : ¬ (tries < 1 ∨ 8 < tries) := by omega
  by_cases c4 : (stQ T.C.now).fl = 255
  · have a4 : decide ((stQ T.C.now).fl = 255) = true := decide_eq_true c4
    simp -implicitDefEqProofs only [go_sem, a4, splice_zero, splice_succ, List.drop_succ_cons, List.drop_zero, List.drop_nil, List.cons_append, List.nil_append, List.take_succ_cons, List.take_zero, List.length_cons, List.length_nil]
    rw [hz (e := 8) (by unfold itE; rw [if_neg c1, if_neg c23, if_pos c4]) (by decide)]
    unfold btN btB
    refine sub_mk [(10, 5), (11, 6), (12, 7), (13, 8), (14, 9)] rfl rfl rfl ?_
    simp only [tmSub, hpSub, objSub, eqTm, eqHp, rn, lk, SV.ren, SV.renC, SV.renB, SV.renA, ren_ints, ren_strs, ren_pl, ren_svs, SV.v.injEq, Value.int.injEq, Body.ints.injEq, SV.ptr.injEq, SV.sl.injEq, Value.string.injEq, Value.bool.injEq, List.map_cons, List.map_nil, forall_const, Nat.reduceLT, Nat.lt_add_one, imp_self, true_and, and_true, and_self, ob_some, get_mk, lk_cons, ↓reduceIte, Nat.reduceEqDiff, ne_eq, not_true_eq_false, not_false_eq_true, Nat.one_ne_zero, Nat.zero_ne_one, Nat.succ_ne_self, Nat.reduceAdd, Bool.false_eq_true, false_implies, implies_true, reduceCtorEq]
    repeat' (first | rfl | apply And.intro)
  have a4 : decide ((stQ T.C.now).fl = 255) = false := decide_eq_false c4
  simp -implicitDefEqProofs only [go_sem, a4, splice_zero, splice_succ, List.drop_succ_cons, List.drop_zero, List.drop_nil, List.cons_append, List.nil_append, List.take_succ_cons, List.take_zero, List.length_cons, List.length_nil]
  by_cases c5 : ver ≤ (stQ T.C.now).fl
  · have a5 : decide (ver ≤ (stQ T.C.now).fl) = true := decide_eq_true c5
    simp -implicitDefEqProofs only [go_sem, a5, splice_zero, splice_succ, List.drop_succ_cons, List.drop_zero, List.drop_nil, List.cons_append, List.nil_append, List.take_succ_cons, List.take_zero, List.length_cons, List.length_nil]
    rw [hz (e := 12) (by unfold itE; rw [if_neg c1, if_neg c23, if_neg c4, if_pos c5]) (by decide)]
    unfold btN btB
    refine sub_mk [(10, 5), (11, 6), (12, 7), (13, 8), (14, 9)] rfl rfl rfl ?_
    simp only [tmSub, hpSub, objSub, eqTm, eqHp, rn, lk, SV.ren, SV.renC, SV.renB, SV.renA, ren_ints, ren_strs, ren_pl, ren_svs, SV.v.injEq, Value.int.injEq, Body.ints.injEq, SV.ptr.injEq, SV.sl.injEq, Value.string.injEq, Value.bool.injEq, List.map_cons, List.map_nil, forall_const, Nat.reduceLT, Nat.lt_add_one, imp_self, true_and, and_true, and_self, ob_some, get_mk, lk_cons, ↓reduceIte, Nat.reduceEqDiff, ne_eq, not_true_eq_false, not_false_eq_true, Nat.one_ne_zero, Nat.zero_ne_one, Nat.succ_ne_self, Nat.reduceAdd, Bool.false_eq_true, false_implies, implies_true, reduceCtorEq]
    repeat' (first | rfl | apply And.intro)
  have a5 : decide (ver ≤ (stQ T.C.now).fl) = false := decide_eq_false c5
  simp -implicitDefEqProofs only [go_sem, a5, splice_zero, splice_succ, List.drop_succ_cons, List.drop_zero, List.drop_nil, List.cons_append, List.nil_append, List.take_succ_cons, List.take_zero, List.length_cons, List.length_nil]
  by_cases c6 : ver > 255
  · have a6 : decide (ver > 255) = true := decide_eq_true c6
    simp -implicitDefEqProofs only [go_sem, a6, splice_zero, splice_succ, List.drop_succ_cons, List.drop_zero, List.drop_nil, List.cons_append, List.nil_append, List.take_succ_cons, List.take_zero, List.length_cons, List.length_nil]
    rw [hz (e := 1) (by unfold itE; rw [if_neg c1, if_neg c23, if_neg c4, if_neg c5, if_pos (.inl c6)]) (by decide)]
    unfold btN btB
    refine sub_mk [(10, 5), (11, 6), (12, 7), (13, 8), (14, 9)] rfl rfl rfl ?_
    simp only [tmSub, hpSub, objSub, eqTm, eqHp, rn, lk, SV.ren, SV.renC, SV.renB, SV.renA, ren_ints, ren_strs, ren_pl, ren_svs, SV.v.injEq, Value.int.injEq, Body.ints.injEq, SV.ptr.injEq, SV.sl.injEq, Value.string.injEq, Value.bool.injEq, List.map_cons, List.map_nil, forall_const, Nat.reduceLT, Nat.lt_add_one, imp_self, true_and, and_true, and_self, ob_some, get_mk, lk_cons, ↓reduceIte, Nat.reduceEqDiff, ne_eq, not_true_eq_false, not_false_eq_true, Nat.one_ne_zero, Nat.zero_ne_one, Nat.succ_ne_self, Nat.reduceAdd, Bool.false_eq_true, false_implies, implies_true, reduceCtorEq]
    repeat' (first | rfl | apply And.intro)
  have a6 : decide (ver > 255) = false := decide_eq_false c6
  simp -implicitDefEqProofs only [go_sem, a6, splice_zero, splice_succ, List.drop_succ_cons, List.drop_zero, List.drop_nil, List.cons_append, List.nil_append, List.take_succ_cons, List.take_zero, List.length_cons, List.length_nil]
  cases c7 : seq I ⟨#[]⟩ with
  | true =>
    simp -implicitDefEqProofs only [go_sem, c7, splice_zero, splice_succ, List.drop_succ_cons, List.drop_zero, List.drop_nil, List.cons_append, List.nil_append, List.take_succ_cons, List.take_zero, List.length_cons, List.length_nil]
    rw [hz (e := 1) (by unfold itE; rw [if_neg c1, if_neg c23, if_neg c4, if_neg c5, if_pos (.inr c7)]) (by decide)]
    unfold btN btB
    refine sub_mk [(10, 5), (11, 6), (12, 7), (13, 8), (14, 9)] rfl rfl rfl ?_
    simp only [tmSub, hpSub, objSub, eqTm, eqHp, rn, lk, SV.ren, SV.renC, SV.renB, SV.renA, ren_ints, ren_strs, ren_pl, ren_svs, SV.v.injEq, Value.int.injEq, Body.ints.injEq, SV.ptr.injEq, SV.sl.injEq, Value.string.injEq, Value.bool.injEq, List.map_cons, List.map_nil, forall_const, Nat.reduceLT, Nat.lt_add_one, imp_self, true_and, and_true, and_self, ob_some, get_mk, lk_cons, ↓reduceIte, Nat.reduceEqDiff, ne_eq, not_true_eq_false, not_false_eq_true, Nat.one_ne_zero, Nat.zero_ne_one, Nat.succ_ne_self, Nat.reduceAdd, Bool.false_eq_true, false_implies, implies_true, reduceCtorEq]
    repeat' (first | rfl | apply And.intro)
  | false =>
  have c67 : ¬ (255 < ver ∨ seq I ⟨#[]⟩ = true) := by rw [c7]; simp; omega
  have w1 : IntKind.i64.wrap ((T.r : Int) * 64) = (T.r : Int) * 64 := wrap_i64 (by omega) (by omega)
  simp -implicitDefEqProofs only [go_sem, c7, w1, splice_zero, splice_succ, List.drop_succ_cons, List.drop_zero, List.drop_nil, List.cons_append, List.nil_append, List.take_succ_cons, List.take_zero, List.length_cons, List.length_nil]
  by_cases c8 : (I.size : Int) > min 8192 ((T.r : Int) * 64)
  · have a8 : decide ((I.size : Int) > min 8192 ((T.r : Int) * 64)) = true := decide_eq_true c8
    simp -implicitDefEqProofs only [go_sem, a8, splice_zero, splice_succ, List.drop_succ_cons, List.drop_zero, List.drop_nil, List.cons_append, List.nil_append, List.take_succ_cons, List.take_zero, List.length_cons, List.length_nil]
    rw [hz (e := 4) (by unfold itE; rw [if_neg c1, if_neg c23, if_neg c4, if_neg c5, if_neg c67, if_pos c8]) (by decide)]
    unfold btN btB
    refine sub_mk [(10, 5), (11, 6), (12, 7), (13, 8), (14, 9)] rfl rfl rfl ?_
    simp only [tmSub, hpSub, objSub, eqTm, eqHp, rn, lk, SV.ren, SV.renC, SV.renB, SV.renA, ren_ints, ren_strs, ren_pl, ren_svs, SV.v.injEq, Value.int.injEq, Body.ints.injEq, SV.ptr.injEq, SV.sl.injEq, Value.string.injEq, Value.bool.injEq, List.map_cons, List.map_nil, forall_const, Nat.reduceLT, Nat.lt_add_one, imp_self, true_and, and_true, and_self, ob_some, get_mk, lk_cons, ↓reduceIte, Nat.reduceEqDiff, ne_eq, not_true_eq_false, not_false_eq_true, Nat.one_ne_zero, Nat.zero_ne_one, Nat.succ_ne_self, Nat.reduceAdd, Bool.false_eq_true, false_implies, implies_true, reduceCtorEq]
    repeat' (first | rfl | apply And.intro)
  have a8 : decide ((I.size : Int) > min 8192 ((T.r : Int) * 64)) = false := decide_eq_false c8
  simp -implicitDefEqProofs only [go_sem, a8, splice_zero, splice_succ, List.drop_succ_cons, List.drop_zero, List.drop_nil, List.cons_append, List.nil_append, List.take_succ_cons, List.take_zero, List.length_cons, List.length_nil]
  have hE : itE (stQ T.C.now) ver I tries T.r = 0 := by unfold itE; rw [if_neg c1, if_neg c23, if_neg c4, if_neg c5, if_neg c67, if_neg c8]
  have w2 : IntKind.i64.wrap (1 - (stQ T.C.now).cf) = 1 - (stQ T.C.now).cf := wrap_i64 (by omega) (by omega)
  simp -implicitDefEqProofs only [go_sem, w2, splice_zero, splice_succ, List.drop_succ_cons, List.drop_zero, List.drop_nil, List.cons_append, List.nil_append, List.take_succ_cons, List.take_zero, List.length_cons, List.length_nil]
  refine in_call mixT tBRunning ?_
  unfold mBRunning
  simp -implicitDefEqProofs only [↓fnVC, initTm]
  simp -implicitDefEqProofs only [go_sem]
  by_cases o1 : T.on = true
  · simp -implicitDefEqProofs only [go_sem, o1]
    by_cases o2 : T.slot = 1 - (stQ T.C.now).cf
    · have o3 : decide (T.slot = 1 - (stQ T.C.now).cf) = true := decide_eq_true o2
      simp -implicitDefEqProofs only [go_sem, w2, o3]
      refine in_call mixT tBstop ?_
      unfold mBstop
      simp -implicitDefEqProofs only [↓fnVC, initTm]
      simp -implicitDefEqProofs only [go_sem, splice_zero, splice_succ, List.drop_succ_cons, List.drop_zero, List.drop_nil, List.cons_append, List.nil_append, List.take_succ_cons, List.take_zero, List.length_cons, List.length_nil]
      have hH : haltT (1 - (stQ T.C.now).cf) T = stopT T := if_pos ⟨o1, o2⟩
      refine at_call tBsettled (settledS (k := stQ T.C.now) hx) ?_
      unfold sqV sqL
      simp -implicitDefEqProofs only [go_sem, splice_zero, splice_succ, List.drop_succ_cons, List.drop_zero, List.drop_nil, List.cons_append, List.nil_append, List.take_succ_cons, List.take_zero, List.length_cons, List.length_nil]
      by_cases k1 : (stQ T.C.now).tr = -1 ∧ (stQ T.C.now).lf = 0
      · have u1 : decide ((stQ T.C.now).tr = -1) = true := decide_eq_true k1.1
        have u2 : decide ((stQ T.C.now).lf = 0) = true := decide_eq_true k1.2
        have u3 : decide ((stQ T.C.now).cf = (stQ T.C.now).cf) = true := decide_eq_true rfl
        have u4 : decide ((stQ T.C.now).fl = (stQ T.C.now).fl) = true := decide_eq_true rfl
        simp -implicitDefEqProofs only [go_sem, u1, u2, u3, u4, w2, splice_zero, splice_succ, List.drop_succ_cons, List.drop_zero, List.drop_nil, List.cons_append, List.nil_append, List.take_succ_cons, List.take_zero, List.length_cons, List.length_nil]
        have hT : inR ver I tries T = tlR (stQ T.C.now) ver I tries (stopT T) := by unfold inR; rw [if_neg (by simp [hE])]; simp only [if_pos k1]; rw [hH]
        obtain ⟨⟨e1, d1⟩, hq⟩ : ∃ p, Sl.swR (stopT T).bs (stopT T).r (1 - (stQ T.C.now).cf) ver I (stopT T).d = p := ⟨_, rfl⟩
        have hw : wtB (1 - (stQ T.C.now).cf) ver I (stopT T) = (e1, { (stopT T) with d := d1 }) := by unfold wtB; simp only [hq]
        have hKw : BtK { (stopT T) with d := d1 } m (t + 133) := by have := wtB_k (slot := 1 - (stQ T.C.now).cf) (ver := ver) (I := I) hKs (by omega); rw [hw] at this; exact this
        refine at_call tSWrite (Sl.swriteS (q := 3) (i := 4) (a := 5) (b := 6) (c := 7) (d := (stopT T).d) hKs.bs hKs.r (by rfl) ⟨by rfl, by rfl, by rfl, by rfl, by decide⟩ (by decide) hKs.P hKs.t (by decide) hq) ?_
        rw [Sl.devN_eq]
        simp -implicitDefEqProofs only [go_sem]
        by_cases g1 : e1 = 0
        · have b1 : decide (e1 = 0) = true := decide_eq_true g1
          simp -implicitDefEqProofs only [go_sem, b1, w2, splice_zero, splice_succ, List.drop_succ_cons, List.drop_zero, List.drop_nil, List.cons_append, List.nil_append, List.take_succ_cons, List.take_zero, List.length_cons, List.length_nil]
          rw [show inR ver I tries T = kpR ⟨(stQ T.C.now).cf, 1 - (stQ T.C.now).cf, tries, (stQ T.C.now).fl⟩ { (stopT T) with d := d1 } by rw [hT]; unfold tlR; rw [hw, if_neg (by simp [g1])]]
          obtain ⟨⟨e2, T2⟩, hk2⟩ : ∃ p, kpR ⟨(stQ T.C.now).cf, 1 - (stQ T.C.now).cf, tries, (stQ T.C.now).fl⟩ { (stopT T) with d := d1 } = p := ⟨_, rfl⟩
          rw [hk2]
          refine at_call tBkeep (keepS (T := { (stopT T) with d := d1 }) (k := ⟨(stQ T.C.now).cf, 1 - (stQ T.C.now).cf, tries, (stQ T.C.now).fl⟩) (i := 1) (q := 2) (s := 3) (D := 4) (a := 11) (b := 12) (c := 13) (M := 8) (W := 9) ⟨by rfl, by rfl, by rfl, by rfl, by rfl, by rfl, by rfl, by rfl, by rfl, by decide, by rfl, by rfl⟩ hKw hx (by decide) hk2) ?_
          rw [btF_eq]
          unfold btB
          simp -implicitDefEqProofs only [go_sem]
          unfold btN btB
          refine sub_mk [(10, 14), (11, 15), (12, 16), (13, 17), (14, 18)] rfl rfl rfl ?_
          simp only [tmSub, hpSub, objSub, eqTm, eqHp, rn, lk, SV.ren, SV.renC, SV.renB, SV.renA, ren_ints, ren_strs, ren_pl, ren_svs, SV.v.injEq, Value.int.injEq, Body.ints.injEq, SV.ptr.injEq, SV.sl.injEq, Value.string.injEq, Value.bool.injEq, List.map_cons, List.map_nil, forall_const, Nat.reduceLT, Nat.lt_add_one, imp_self, true_and, and_true, and_self, ob_some, get_mk, lk_cons, ↓reduceIte, Nat.reduceEqDiff, ne_eq, not_true_eq_false, not_false_eq_true, Nat.one_ne_zero, Nat.zero_ne_one, Nat.succ_ne_self, Nat.reduceAdd, Bool.false_eq_true, false_implies, implies_true, reduceCtorEq, stopT]
          repeat' (first | rfl | apply And.intro)
        · have b1 : decide (e1 = 0) = false := decide_eq_false g1
          rw [show inR ver I tries T = (e1, { (stopT T) with d := d1 }) by rw [hT]; unfold tlR; rw [hw, if_pos g1]]
          simp -implicitDefEqProofs only [go_sem, b1]
          unfold btN btB
          refine sub_mk [(10, 11), (11, 12), (12, 13), (13, 8), (14, 9)] rfl rfl rfl ?_
          simp only [tmSub, hpSub, objSub, eqTm, eqHp, rn, lk, SV.ren, SV.renC, SV.renB, SV.renA, ren_ints, ren_strs, ren_pl, ren_svs, SV.v.injEq, Value.int.injEq, Body.ints.injEq, SV.ptr.injEq, SV.sl.injEq, Value.string.injEq, Value.bool.injEq, List.map_cons, List.map_nil, forall_const, Nat.reduceLT, Nat.lt_add_one, imp_self, true_and, and_true, and_self, ob_some, get_mk, lk_cons, ↓reduceIte, Nat.reduceEqDiff, ne_eq, not_true_eq_false, not_false_eq_true, Nat.one_ne_zero, Nat.zero_ne_one, Nat.succ_ne_self, Nat.reduceAdd, Bool.false_eq_true, false_implies, implies_true, reduceCtorEq, stopT]
          repeat' (first | rfl | apply And.intro)
      · have u1 : (decide ((stQ T.C.now).tr = -1) && decide ((stQ T.C.now).lf = 0)) = false := by
          rw [Bool.eq_false_iff]; intro h; simp only [Bool.and_eq_true, decide_eq_true_eq] at h; exact k1 h
        simp -implicitDefEqProofs only [go_sem, u1, splice_zero, splice_succ, List.drop_succ_cons, List.drop_zero, List.drop_nil, List.cons_append, List.nil_append, List.take_succ_cons, List.take_zero, List.length_cons, List.length_nil]
        refine at_call tBsettled (settledS (k := stQ T.C.now) hx) ?_
        unfold sqV sqL
        simp -implicitDefEqProofs only [go_sem, splice_zero, splice_succ, List.drop_succ_cons, List.drop_zero, List.drop_nil, List.cons_append, List.nil_append, List.take_succ_cons, List.take_zero, List.length_cons, List.length_nil]
        obtain ⟨⟨e, T1⟩, hk⟩ : ∃ p, kpR (sdQ (stQ T.C.now)) (stopT T) = p := ⟨_, rfl⟩
        have hkk := kpR_k (k := sdQ (stQ T.C.now)) hKs (by omega) hnum
        rw [hk] at hkk
        obtain ⟨hK1, _, hb1, hb2⟩ := hkk
        have hT : inR ver I tries T = if e ≠ 0 then (e, T1) else tlR (stQ T.C.now) ver I tries T1 := by unfold inR; rw [if_neg (by simp [hE])]; simp only [if_neg k1]; rw [hH]; rw [hk]
        refine at_call tBkeep (keepS (T := (stopT T)) (k := sdQ (stQ T.C.now)) (i := 1) (q := 2) (s := 3) (D := 4) (a := 5) (b := 6) (c := 7) (M := 8) (W := 9) ⟨by rfl, by rfl, by rfl, by rfl, by rfl, by rfl, by rfl, by rfl, by rfl, by decide, by rfl, by rfl⟩ hKs hx (by decide) hk) ?_
        rw [btF_eq]
        unfold btB
        simp -implicitDefEqProofs only [go_sem]
        by_cases d1 : e = 0
        case neg =>
          have k1 : decide (e = 0) = false := decide_eq_false d1
          simp -implicitDefEqProofs only [go_sem, k1]
          rw [hT, if_pos d1]
          unfold btN btB
          refine sub_mk [(10, 11), (11, 12), (12, 13), (13, 14), (14, 15)] rfl rfl rfl ?_
          simp only [tmSub, hpSub, objSub, eqTm, eqHp, rn, lk, SV.ren, SV.renC, SV.renB, SV.renA, ren_ints, ren_strs, ren_pl, ren_svs, SV.v.injEq, Value.int.injEq, Body.ints.injEq, SV.ptr.injEq, SV.sl.injEq, Value.string.injEq, Value.bool.injEq, List.map_cons, List.map_nil, forall_const, Nat.reduceLT, Nat.lt_add_one, imp_self, true_and, and_true, and_self, ob_some, get_mk, lk_cons, ↓reduceIte, Nat.reduceEqDiff, ne_eq, not_true_eq_false, not_false_eq_true, Nat.one_ne_zero, Nat.zero_ne_one, Nat.succ_ne_self, Nat.reduceAdd, Bool.false_eq_true, false_implies, implies_true, reduceCtorEq, stopT]
          repeat' (first | rfl | apply And.intro)
        have d2 : decide (e = 0) = true := decide_eq_true d1
        rw [if_neg (by simp [d1])] at hT
        simp -implicitDefEqProofs only [go_sem, d2, w2]
        obtain ⟨⟨e1, d1⟩, hq⟩ : ∃ p, Sl.swR T1.bs T1.r (1 - (stQ T.C.now).cf) ver I T1.d = p := ⟨_, rfl⟩
        have hw : wtB (1 - (stQ T.C.now).cf) ver I T1 = (e1, { T1 with d := d1 }) := by unfold wtB; simp only [hq]
        have hKw : BtK { T1 with d := d1 } m ((t + 133) + 133) := by have := wtB_k (slot := 1 - (stQ T.C.now).cf) (ver := ver) (I := I) hK1 (by omega); rw [hw] at this; exact this
        refine at_call tSWrite (Sl.swriteS (q := 3) (i := 4) (a := 11) (b := 12) (c := 13) (d := T1.d) hK1.bs hK1.r (by rfl) ⟨by rfl, by rfl, by rfl, by rfl, by decide⟩ (by decide) hK1.P hK1.t (by decide) hq) ?_
        rw [Sl.devN_eq]
        simp -implicitDefEqProofs only [go_sem]
        by_cases g1 : e1 = 0
        · have b1 : decide (e1 = 0) = true := decide_eq_true g1
          simp -implicitDefEqProofs only [go_sem, b1, w2, splice_zero, splice_succ, List.drop_succ_cons, List.drop_zero, List.drop_nil, List.cons_append, List.nil_append, List.take_succ_cons, List.take_zero, List.length_cons, List.length_nil]
          rw [show inR ver I tries T = kpR ⟨(stQ T.C.now).cf, 1 - (stQ T.C.now).cf, tries, (stQ T.C.now).fl⟩ { T1 with d := d1 } by rw [hT]; unfold tlR; rw [hw, if_neg (by simp [g1])]]
          obtain ⟨⟨e2, T2⟩, hk2⟩ : ∃ p, kpR ⟨(stQ T.C.now).cf, 1 - (stQ T.C.now).cf, tries, (stQ T.C.now).fl⟩ { T1 with d := d1 } = p := ⟨_, rfl⟩
          rw [hk2]
          refine at_call tBkeep (keepS (T := { T1 with d := d1 }) (k := ⟨(stQ T.C.now).cf, 1 - (stQ T.C.now).cf, tries, (stQ T.C.now).fl⟩) (i := 1) (q := 2) (s := 3) (D := 4) (a := 16) (b := 17) (c := 18) (M := 14) (W := 15) ⟨by rfl, by rfl, by rfl, by rfl, by rfl, by rfl, by rfl, by rfl, by rfl, by decide, by rfl, by rfl⟩ hKw hx (by decide) hk2) ?_
          rw [btF_eq]
          unfold btB
          simp -implicitDefEqProofs only [go_sem]
          unfold btN btB
          refine sub_mk [(10, 19), (11, 20), (12, 21), (13, 22), (14, 23)] rfl rfl rfl ?_
          simp only [tmSub, hpSub, objSub, eqTm, eqHp, rn, lk, SV.ren, SV.renC, SV.renB, SV.renA, ren_ints, ren_strs, ren_pl, ren_svs, SV.v.injEq, Value.int.injEq, Body.ints.injEq, SV.ptr.injEq, SV.sl.injEq, Value.string.injEq, Value.bool.injEq, List.map_cons, List.map_nil, forall_const, Nat.reduceLT, Nat.lt_add_one, imp_self, true_and, and_true, and_self, ob_some, get_mk, lk_cons, ↓reduceIte, Nat.reduceEqDiff, ne_eq, not_true_eq_false, not_false_eq_true, Nat.one_ne_zero, Nat.zero_ne_one, Nat.succ_ne_self, Nat.reduceAdd, Bool.false_eq_true, false_implies, implies_true, reduceCtorEq, stopT]
          repeat' (first | rfl | apply And.intro)
        · have b1 : decide (e1 = 0) = false := decide_eq_false g1
          rw [show inR ver I tries T = (e1, { T1 with d := d1 }) by rw [hT]; unfold tlR; rw [hw, if_pos g1]]
          simp -implicitDefEqProofs only [go_sem, b1]
          unfold btN btB
          refine sub_mk [(10, 16), (11, 17), (12, 18), (13, 14), (14, 15)] rfl rfl rfl ?_
          simp only [tmSub, hpSub, objSub, eqTm, eqHp, rn, lk, SV.ren, SV.renC, SV.renB, SV.renA, ren_ints, ren_strs, ren_pl, ren_svs, SV.v.injEq, Value.int.injEq, Body.ints.injEq, SV.ptr.injEq, SV.sl.injEq, Value.string.injEq, Value.bool.injEq, List.map_cons, List.map_nil, forall_const, Nat.reduceLT, Nat.lt_add_one, imp_self, true_and, and_true, and_self, ob_some, get_mk, lk_cons, ↓reduceIte, Nat.reduceEqDiff, ne_eq, not_true_eq_false, not_false_eq_true, Nat.one_ne_zero, Nat.zero_ne_one, Nat.succ_ne_self, Nat.reduceAdd, Bool.false_eq_true, false_implies, implies_true, reduceCtorEq, stopT]
          repeat' (first | rfl | apply And.intro)
    · have o3 : decide (T.slot = 1 - (stQ T.C.now).cf) = false := decide_eq_false o2
      simp -implicitDefEqProofs only [go_sem, w2, o3]
      have hH : haltT (1 - (stQ T.C.now).cf) T = T := if_neg fun h => o2 h.2
      refine at_call tBsettled (settledS (k := stQ T.C.now) hx) ?_
      unfold sqV sqL
      simp -implicitDefEqProofs only [go_sem, splice_zero, splice_succ, List.drop_succ_cons, List.drop_zero, List.drop_nil, List.cons_append, List.nil_append, List.take_succ_cons, List.take_zero, List.length_cons, List.length_nil]
      by_cases k1 : (stQ T.C.now).tr = -1 ∧ (stQ T.C.now).lf = 0
      · have u1 : decide ((stQ T.C.now).tr = -1) = true := decide_eq_true k1.1
        have u2 : decide ((stQ T.C.now).lf = 0) = true := decide_eq_true k1.2
        have u3 : decide ((stQ T.C.now).cf = (stQ T.C.now).cf) = true := decide_eq_true rfl
        have u4 : decide ((stQ T.C.now).fl = (stQ T.C.now).fl) = true := decide_eq_true rfl
        simp -implicitDefEqProofs only [go_sem, u1, u2, u3, u4, w2, splice_zero, splice_succ, List.drop_succ_cons, List.drop_zero, List.drop_nil, List.cons_append, List.nil_append, List.take_succ_cons, List.take_zero, List.length_cons, List.length_nil]
        have hT : inR ver I tries T = tlR (stQ T.C.now) ver I tries T := by unfold inR; rw [if_neg (by simp [hE])]; simp only [if_pos k1]; rw [hH]
        obtain ⟨⟨e1, d1⟩, hq⟩ : ∃ p, Sl.swR T.bs T.r (1 - (stQ T.C.now).cf) ver I T.d = p := ⟨_, rfl⟩
        have hw : wtB (1 - (stQ T.C.now).cf) ver I T = (e1, { T with d := d1 }) := by unfold wtB; simp only [hq]
        have hKw : BtK { T with d := d1 } m (t + 133) := by have := wtB_k (slot := 1 - (stQ T.C.now).cf) (ver := ver) (I := I) hK (by omega); rw [hw] at this; exact this
        refine at_call tSWrite (Sl.swriteS (q := 3) (i := 4) (a := 5) (b := 6) (c := 7) (d := T.d) hK.bs hK.r (by rfl) ⟨by rfl, by rfl, by rfl, by rfl, by decide⟩ (by decide) hK.P hK.t (by decide) hq) ?_
        rw [Sl.devN_eq]
        simp -implicitDefEqProofs only [go_sem]
        by_cases g1 : e1 = 0
        · have b1 : decide (e1 = 0) = true := decide_eq_true g1
          simp -implicitDefEqProofs only [go_sem, b1, w2, splice_zero, splice_succ, List.drop_succ_cons, List.drop_zero, List.drop_nil, List.cons_append, List.nil_append, List.take_succ_cons, List.take_zero, List.length_cons, List.length_nil]
          rw [show inR ver I tries T = kpR ⟨(stQ T.C.now).cf, 1 - (stQ T.C.now).cf, tries, (stQ T.C.now).fl⟩ { T with d := d1 } by rw [hT]; unfold tlR; rw [hw, if_neg (by simp [g1])]]
          obtain ⟨⟨e2, T2⟩, hk2⟩ : ∃ p, kpR ⟨(stQ T.C.now).cf, 1 - (stQ T.C.now).cf, tries, (stQ T.C.now).fl⟩ { T with d := d1 } = p := ⟨_, rfl⟩
          rw [hk2]
          refine at_call tBkeep (keepS (T := { T with d := d1 }) (k := ⟨(stQ T.C.now).cf, 1 - (stQ T.C.now).cf, tries, (stQ T.C.now).fl⟩) (i := 1) (q := 2) (s := 3) (D := 4) (a := 11) (b := 12) (c := 13) (M := 8) (W := 9) ⟨by unfold btB; rw [o1]; rfl, by rfl, by rfl, by rfl, by rfl, by rfl, by rfl, by rfl, by rfl, by decide, by rfl, by rfl⟩ hKw hx (by decide) hk2) ?_
          rw [btF_eq]
          unfold btB
          simp -implicitDefEqProofs only [go_sem]
          unfold btN btB
          refine sub_mk [(10, 14), (11, 15), (12, 16), (13, 17), (14, 18)] rfl rfl rfl ?_
          simp only [tmSub, hpSub, objSub, eqTm, eqHp, rn, lk, SV.ren, SV.renC, SV.renB, SV.renA, ren_ints, ren_strs, ren_pl, ren_svs, SV.v.injEq, Value.int.injEq, Body.ints.injEq, SV.ptr.injEq, SV.sl.injEq, Value.string.injEq, Value.bool.injEq, List.map_cons, List.map_nil, forall_const, Nat.reduceLT, Nat.lt_add_one, imp_self, true_and, and_true, and_self, ob_some, get_mk, lk_cons, ↓reduceIte, Nat.reduceEqDiff, ne_eq, not_true_eq_false, not_false_eq_true, Nat.one_ne_zero, Nat.zero_ne_one, Nat.succ_ne_self, Nat.reduceAdd, Bool.false_eq_true, false_implies, implies_true, reduceCtorEq, stopT]
          repeat' (first | rfl | apply And.intro)
        · have b1 : decide (e1 = 0) = false := decide_eq_false g1
          rw [show inR ver I tries T = (e1, { T with d := d1 }) by rw [hT]; unfold tlR; rw [hw, if_pos g1]]
          simp -implicitDefEqProofs only [go_sem, b1]
          unfold btN btB
          rw [o1]
          refine sub_mk [(10, 11), (11, 12), (12, 13), (13, 8), (14, 9)] rfl rfl rfl ?_
          simp only [tmSub, hpSub, objSub, eqTm, eqHp, rn, lk, SV.ren, SV.renC, SV.renB, SV.renA, ren_ints, ren_strs, ren_pl, ren_svs, SV.v.injEq, Value.int.injEq, Body.ints.injEq, SV.ptr.injEq, SV.sl.injEq, Value.string.injEq, Value.bool.injEq, List.map_cons, List.map_nil, forall_const, Nat.reduceLT, Nat.lt_add_one, imp_self, true_and, and_true, and_self, ob_some, get_mk, lk_cons, ↓reduceIte, Nat.reduceEqDiff, ne_eq, not_true_eq_false, not_false_eq_true, Nat.one_ne_zero, Nat.zero_ne_one, Nat.succ_ne_self, Nat.reduceAdd, Bool.false_eq_true, false_implies, implies_true, reduceCtorEq, stopT]
          repeat' (first | rfl | apply And.intro)
      · have u1 : (decide ((stQ T.C.now).tr = -1) && decide ((stQ T.C.now).lf = 0)) = false := by
          rw [Bool.eq_false_iff]; intro h; simp only [Bool.and_eq_true, decide_eq_true_eq] at h; exact k1 h
        simp -implicitDefEqProofs only [go_sem, u1, splice_zero, splice_succ, List.drop_succ_cons, List.drop_zero, List.drop_nil, List.cons_append, List.nil_append, List.take_succ_cons, List.take_zero, List.length_cons, List.length_nil]
        refine at_call tBsettled (settledS (k := stQ T.C.now) hx) ?_
        unfold sqV sqL
        simp -implicitDefEqProofs only [go_sem, splice_zero, splice_succ, List.drop_succ_cons, List.drop_zero, List.drop_nil, List.cons_append, List.nil_append, List.take_succ_cons, List.take_zero, List.length_cons, List.length_nil]
        obtain ⟨⟨e, T1⟩, hk⟩ : ∃ p, kpR (sdQ (stQ T.C.now)) T = p := ⟨_, rfl⟩
        have hkk := kpR_k (k := sdQ (stQ T.C.now)) hK (by omega) hnum
        rw [hk] at hkk
        obtain ⟨hK1, _, hb1, hb2⟩ := hkk
        have hT : inR ver I tries T = if e ≠ 0 then (e, T1) else tlR (stQ T.C.now) ver I tries T1 := by unfold inR; rw [if_neg (by simp [hE])]; simp only [if_neg k1]; rw [hH]; rw [hk]
        refine at_call tBkeep (keepS (T := T) (k := sdQ (stQ T.C.now)) (i := 1) (q := 2) (s := 3) (D := 4) (a := 5) (b := 6) (c := 7) (M := 8) (W := 9) ⟨by unfold btB; rw [o1]; rfl, by rfl, by rfl, by rfl, by rfl, by rfl, by rfl, by rfl, by rfl, by decide, by rfl, by rfl⟩ hK hx (by decide) hk) ?_
        rw [btF_eq]
        unfold btB
        simp -implicitDefEqProofs only [go_sem]
        by_cases d1 : e = 0
        case neg =>
          have k1 : decide (e = 0) = false := decide_eq_false d1
          simp -implicitDefEqProofs only [go_sem, k1]
          rw [hT, if_pos d1]
          unfold btN btB
          refine sub_mk [(10, 11), (11, 12), (12, 13), (13, 14), (14, 15)] rfl rfl rfl ?_
          simp only [tmSub, hpSub, objSub, eqTm, eqHp, rn, lk, SV.ren, SV.renC, SV.renB, SV.renA, ren_ints, ren_strs, ren_pl, ren_svs, SV.v.injEq, Value.int.injEq, Body.ints.injEq, SV.ptr.injEq, SV.sl.injEq, Value.string.injEq, Value.bool.injEq, List.map_cons, List.map_nil, forall_const, Nat.reduceLT, Nat.lt_add_one, imp_self, true_and, and_true, and_self, ob_some, get_mk, lk_cons, ↓reduceIte, Nat.reduceEqDiff, ne_eq, not_true_eq_false, not_false_eq_true, Nat.one_ne_zero, Nat.zero_ne_one, Nat.succ_ne_self, Nat.reduceAdd, Bool.false_eq_true, false_implies, implies_true, reduceCtorEq, stopT]
          repeat' (first | rfl | apply And.intro)
        have d2 : decide (e = 0) = true := decide_eq_true d1
        rw [if_neg (by simp [d1])] at hT
        simp -implicitDefEqProofs only [go_sem, d2, w2]
        obtain ⟨⟨e1, d1⟩, hq⟩ : ∃ p, Sl.swR T1.bs T1.r (1 - (stQ T.C.now).cf) ver I T1.d = p := ⟨_, rfl⟩
        have hw : wtB (1 - (stQ T.C.now).cf) ver I T1 = (e1, { T1 with d := d1 }) := by unfold wtB; simp only [hq]
        have hKw : BtK { T1 with d := d1 } m ((t + 133) + 133) := by have := wtB_k (slot := 1 - (stQ T.C.now).cf) (ver := ver) (I := I) hK1 (by omega); rw [hw] at this; exact this
        refine at_call tSWrite (Sl.swriteS (q := 3) (i := 4) (a := 11) (b := 12) (c := 13) (d := T1.d) hK1.bs hK1.r (by rfl) ⟨by rfl, by rfl, by rfl, by rfl, by decide⟩ (by decide) hK1.P hK1.t (by decide) hq) ?_
        rw [Sl.devN_eq]
        simp -implicitDefEqProofs only [go_sem]
        by_cases g1 : e1 = 0
        · have b1 : decide (e1 = 0) = true := decide_eq_true g1
          simp -implicitDefEqProofs only [go_sem, b1, w2, splice_zero, splice_succ, List.drop_succ_cons, List.drop_zero, List.drop_nil, List.cons_append, List.nil_append, List.take_succ_cons, List.take_zero, List.length_cons, List.length_nil]
          rw [show inR ver I tries T = kpR ⟨(stQ T.C.now).cf, 1 - (stQ T.C.now).cf, tries, (stQ T.C.now).fl⟩ { T1 with d := d1 } by rw [hT]; unfold tlR; rw [hw, if_neg (by simp [g1])]]
          obtain ⟨⟨e2, T2⟩, hk2⟩ : ∃ p, kpR ⟨(stQ T.C.now).cf, 1 - (stQ T.C.now).cf, tries, (stQ T.C.now).fl⟩ { T1 with d := d1 } = p := ⟨_, rfl⟩
          rw [hk2]
          refine at_call tBkeep (keepS (T := { T1 with d := d1 }) (k := ⟨(stQ T.C.now).cf, 1 - (stQ T.C.now).cf, tries, (stQ T.C.now).fl⟩) (i := 1) (q := 2) (s := 3) (D := 4) (a := 16) (b := 17) (c := 18) (M := 14) (W := 15) ⟨by rfl, by rfl, by rfl, by rfl, by rfl, by rfl, by rfl, by rfl, by rfl, by decide, by rfl, by rfl⟩ hKw hx (by decide) hk2) ?_
          rw [btF_eq]
          unfold btB
          simp -implicitDefEqProofs only [go_sem]
          unfold btN btB
          refine sub_mk [(10, 19), (11, 20), (12, 21), (13, 22), (14, 23)] rfl rfl rfl ?_
          simp only [tmSub, hpSub, objSub, eqTm, eqHp, rn, lk, SV.ren, SV.renC, SV.renB, SV.renA, ren_ints, ren_strs, ren_pl, ren_svs, SV.v.injEq, Value.int.injEq, Body.ints.injEq, SV.ptr.injEq, SV.sl.injEq, Value.string.injEq, Value.bool.injEq, List.map_cons, List.map_nil, forall_const, Nat.reduceLT, Nat.lt_add_one, imp_self, true_and, and_true, and_self, ob_some, get_mk, lk_cons, ↓reduceIte, Nat.reduceEqDiff, ne_eq, not_true_eq_false, not_false_eq_true, Nat.one_ne_zero, Nat.zero_ne_one, Nat.succ_ne_self, Nat.reduceAdd, Bool.false_eq_true, false_implies, implies_true, reduceCtorEq, stopT]
          repeat' (first | rfl | apply And.intro)
        · have b1 : decide (e1 = 0) = false := decide_eq_false g1
          rw [show inR ver I tries T = (e1, { T1 with d := d1 }) by rw [hT]; unfold tlR; rw [hw, if_pos g1]]
          simp -implicitDefEqProofs only [go_sem, b1]
          unfold btN btB
          refine sub_mk [(10, 16), (11, 17), (12, 18), (13, 14), (14, 15)] rfl rfl rfl ?_
          simp only [tmSub, hpSub, objSub, eqTm, eqHp, rn, lk, SV.ren, SV.renC, SV.renB, SV.renA, ren_ints, ren_strs, ren_pl, ren_svs, SV.v.injEq, Value.int.injEq, Body.ints.injEq, SV.ptr.injEq, SV.sl.injEq, Value.string.injEq, Value.bool.injEq, List.map_cons, List.map_nil, forall_const, Nat.reduceLT, Nat.lt_add_one, imp_self, true_and, and_true, and_self, ob_some, get_mk, lk_cons, ↓reduceIte, Nat.reduceEqDiff, ne_eq, not_true_eq_false, not_false_eq_true, Nat.one_ne_zero, Nat.zero_ne_one, Nat.succ_ne_self, Nat.reduceAdd, Bool.false_eq_true, false_implies, implies_true, reduceCtorEq, stopT]
          repeat' (first | rfl | apply And.intro)
  · have o0 : T.on = false := by simpa using o1
    simp -implicitDefEqProofs only [go_sem, o0]
    have hH : haltT (1 - (stQ T.C.now).cf) T = T := if_neg fun h => o1 h.1
    refine at_call tBsettled (settledS (k := stQ T.C.now) hx) ?_
    unfold sqV sqL
    simp -implicitDefEqProofs only [go_sem, splice_zero, splice_succ, List.drop_succ_cons, List.drop_zero, List.drop_nil, List.cons_append, List.nil_append, List.take_succ_cons, List.take_zero, List.length_cons, List.length_nil]
    by_cases k1 : (stQ T.C.now).tr = -1 ∧ (stQ T.C.now).lf = 0
    · have u1 : decide ((stQ T.C.now).tr = -1) = true := decide_eq_true k1.1
      have u2 : decide ((stQ T.C.now).lf = 0) = true := decide_eq_true k1.2
      have u3 : decide ((stQ T.C.now).cf = (stQ T.C.now).cf) = true := decide_eq_true rfl
      have u4 : decide ((stQ T.C.now).fl = (stQ T.C.now).fl) = true := decide_eq_true rfl
      simp -implicitDefEqProofs only [go_sem, u1, u2, u3, u4, w2, splice_zero, splice_succ, List.drop_succ_cons, List.drop_zero, List.drop_nil, List.cons_append, List.nil_append, List.take_succ_cons, List.take_zero, List.length_cons, List.length_nil]
      have hT : inR ver I tries T = tlR (stQ T.C.now) ver I tries T := by unfold inR; rw [if_neg (by simp [hE])]; simp only [if_pos k1]; rw [hH]
      obtain ⟨⟨e1, d1⟩, hq⟩ : ∃ p, Sl.swR T.bs T.r (1 - (stQ T.C.now).cf) ver I T.d = p := ⟨_, rfl⟩
      have hw : wtB (1 - (stQ T.C.now).cf) ver I T = (e1, { T with d := d1 }) := by unfold wtB; simp only [hq]
      have hKw : BtK { T with d := d1 } m (t + 133) := by have := wtB_k (slot := 1 - (stQ T.C.now).cf) (ver := ver) (I := I) hK (by omega); rw [hw] at this; exact this
      refine at_call tSWrite (Sl.swriteS (q := 3) (i := 4) (a := 5) (b := 6) (c := 7) (d := T.d) hK.bs hK.r (by rfl) ⟨by rfl, by rfl, by rfl, by rfl, by decide⟩ (by decide) hK.P hK.t (by decide) hq) ?_
      rw [Sl.devN_eq]
      simp -implicitDefEqProofs only [go_sem]
      by_cases g1 : e1 = 0
      · have b1 : decide (e1 = 0) = true := decide_eq_true g1
        simp -implicitDefEqProofs only [go_sem, b1, w2, splice_zero, splice_succ, List.drop_succ_cons, List.drop_zero, List.drop_nil, List.cons_append, List.nil_append, List.take_succ_cons, List.take_zero, List.length_cons, List.length_nil]
        rw [show inR ver I tries T = kpR ⟨(stQ T.C.now).cf, 1 - (stQ T.C.now).cf, tries, (stQ T.C.now).fl⟩ { T with d := d1 } by rw [hT]; unfold tlR; rw [hw, if_neg (by simp [g1])]]
        obtain ⟨⟨e2, T2⟩, hk2⟩ : ∃ p, kpR ⟨(stQ T.C.now).cf, 1 - (stQ T.C.now).cf, tries, (stQ T.C.now).fl⟩ { T with d := d1 } = p := ⟨_, rfl⟩
        rw [hk2]
        refine at_call tBkeep (keepS (T := { T with d := d1 }) (k := ⟨(stQ T.C.now).cf, 1 - (stQ T.C.now).cf, tries, (stQ T.C.now).fl⟩) (i := 1) (q := 2) (s := 3) (D := 4) (a := 11) (b := 12) (c := 13) (M := 8) (W := 9) ⟨by unfold btB; rw [o0]; rfl, by rfl, by rfl, by rfl, by rfl, by rfl, by rfl, by rfl, by rfl, by decide, by rfl, by rfl⟩ hKw hx (by decide) hk2) ?_
        rw [btF_eq]
        unfold btB
        simp -implicitDefEqProofs only [go_sem]
        unfold btN btB
        refine sub_mk [(10, 14), (11, 15), (12, 16), (13, 17), (14, 18)] rfl rfl rfl ?_
        simp only [tmSub, hpSub, objSub, eqTm, eqHp, rn, lk, SV.ren, SV.renC, SV.renB, SV.renA, ren_ints, ren_strs, ren_pl, ren_svs, SV.v.injEq, Value.int.injEq, Body.ints.injEq, SV.ptr.injEq, SV.sl.injEq, Value.string.injEq, Value.bool.injEq, List.map_cons, List.map_nil, forall_const, Nat.reduceLT, Nat.lt_add_one, imp_self, true_and, and_true, and_self, ob_some, get_mk, lk_cons, ↓reduceIte, Nat.reduceEqDiff, ne_eq, not_true_eq_false, not_false_eq_true, Nat.one_ne_zero, Nat.zero_ne_one, Nat.succ_ne_self, Nat.reduceAdd, Bool.false_eq_true, false_implies, implies_true, reduceCtorEq, stopT]
        repeat' (first | rfl | apply And.intro)
      · have b1 : decide (e1 = 0) = false := decide_eq_false g1
        rw [show inR ver I tries T = (e1, { T with d := d1 }) by rw [hT]; unfold tlR; rw [hw, if_pos g1]]
        simp -implicitDefEqProofs only [go_sem, b1]
        unfold btN btB
        rw [o0]
        refine sub_mk [(10, 11), (11, 12), (12, 13), (13, 8), (14, 9)] rfl rfl rfl ?_
        simp only [tmSub, hpSub, objSub, eqTm, eqHp, rn, lk, SV.ren, SV.renC, SV.renB, SV.renA, ren_ints, ren_strs, ren_pl, ren_svs, SV.v.injEq, Value.int.injEq, Body.ints.injEq, SV.ptr.injEq, SV.sl.injEq, Value.string.injEq, Value.bool.injEq, List.map_cons, List.map_nil, forall_const, Nat.reduceLT, Nat.lt_add_one, imp_self, true_and, and_true, and_self, ob_some, get_mk, lk_cons, ↓reduceIte, Nat.reduceEqDiff, ne_eq, not_true_eq_false, not_false_eq_true, Nat.one_ne_zero, Nat.zero_ne_one, Nat.succ_ne_self, Nat.reduceAdd, Bool.false_eq_true, false_implies, implies_true, reduceCtorEq, stopT]
        repeat' (first | rfl | apply And.intro)
    · have u1 : (decide ((stQ T.C.now).tr = -1) && decide ((stQ T.C.now).lf = 0)) = false := by
        rw [Bool.eq_false_iff]; intro h; simp only [Bool.and_eq_true, decide_eq_true_eq] at h; exact k1 h
      simp -implicitDefEqProofs only [go_sem, u1, splice_zero, splice_succ, List.drop_succ_cons, List.drop_zero, List.drop_nil, List.cons_append, List.nil_append, List.take_succ_cons, List.take_zero, List.length_cons, List.length_nil]
      refine at_call tBsettled (settledS (k := stQ T.C.now) hx) ?_
      unfold sqV sqL
      simp -implicitDefEqProofs only [go_sem, splice_zero, splice_succ, List.drop_succ_cons, List.drop_zero, List.drop_nil, List.cons_append, List.nil_append, List.take_succ_cons, List.take_zero, List.length_cons, List.length_nil]
      obtain ⟨⟨e, T1⟩, hk⟩ : ∃ p, kpR (sdQ (stQ T.C.now)) T = p := ⟨_, rfl⟩
      have hkk := kpR_k (k := sdQ (stQ T.C.now)) hK (by omega) hnum
      rw [hk] at hkk
      obtain ⟨hK1, _, hb1, hb2⟩ := hkk
      have hT : inR ver I tries T = if e ≠ 0 then (e, T1) else tlR (stQ T.C.now) ver I tries T1 := by unfold inR; rw [if_neg (by simp [hE])]; simp only [if_neg k1]; rw [hH]; rw [hk]
      refine at_call tBkeep (keepS (T := T) (k := sdQ (stQ T.C.now)) (i := 1) (q := 2) (s := 3) (D := 4) (a := 5) (b := 6) (c := 7) (M := 8) (W := 9) ⟨by unfold btB; rw [o0]; rfl, by rfl, by rfl, by rfl, by rfl, by rfl, by rfl, by rfl, by rfl, by decide, by rfl, by rfl⟩ hK hx (by decide) hk) ?_
      rw [btF_eq]
      unfold btB
      simp -implicitDefEqProofs only [go_sem]
      by_cases d1 : e = 0
      case neg =>
        have k1 : decide (e = 0) = false := decide_eq_false d1
        simp -implicitDefEqProofs only [go_sem, k1]
        rw [hT, if_pos d1]
        unfold btN btB
        refine sub_mk [(10, 11), (11, 12), (12, 13), (13, 14), (14, 15)] rfl rfl rfl ?_
        simp only [tmSub, hpSub, objSub, eqTm, eqHp, rn, lk, SV.ren, SV.renC, SV.renB, SV.renA, ren_ints, ren_strs, ren_pl, ren_svs, SV.v.injEq, Value.int.injEq, Body.ints.injEq, SV.ptr.injEq, SV.sl.injEq, Value.string.injEq, Value.bool.injEq, List.map_cons, List.map_nil, forall_const, Nat.reduceLT, Nat.lt_add_one, imp_self, true_and, and_true, and_self, ob_some, get_mk, lk_cons, ↓reduceIte, Nat.reduceEqDiff, ne_eq, not_true_eq_false, not_false_eq_true, Nat.one_ne_zero, Nat.zero_ne_one, Nat.succ_ne_self, Nat.reduceAdd, Bool.false_eq_true, false_implies, implies_true, reduceCtorEq, stopT]
        repeat' (first | rfl | apply And.intro)
      have d2 : decide (e = 0) = true := decide_eq_true d1
      rw [if_neg (by simp [d1])] at hT
      simp -implicitDefEqProofs only [go_sem, d2, w2]
      obtain ⟨⟨e1, d1⟩, hq⟩ : ∃ p, Sl.swR T1.bs T1.r (1 - (stQ T.C.now).cf) ver I T1.d = p := ⟨_, rfl⟩
      have hw : wtB (1 - (stQ T.C.now).cf) ver I T1 = (e1, { T1 with d := d1 }) := by unfold wtB; simp only [hq]
      have hKw : BtK { T1 with d := d1 } m ((t + 133) + 133) := by have := wtB_k (slot := 1 - (stQ T.C.now).cf) (ver := ver) (I := I) hK1 (by omega); rw [hw] at this; exact this
      refine at_call tSWrite (Sl.swriteS (q := 3) (i := 4) (a := 11) (b := 12) (c := 13) (d := T1.d) hK1.bs hK1.r (by rfl) ⟨by rfl, by rfl, by rfl, by rfl, by decide⟩ (by decide) hK1.P hK1.t (by decide) hq) ?_
      rw [Sl.devN_eq]
      simp -implicitDefEqProofs only [go_sem]
      by_cases g1 : e1 = 0
      · have b1 : decide (e1 = 0) = true := decide_eq_true g1
        simp -implicitDefEqProofs only [go_sem, b1, w2, splice_zero, splice_succ, List.drop_succ_cons, List.drop_zero, List.drop_nil, List.cons_append, List.nil_append, List.take_succ_cons, List.take_zero, List.length_cons, List.length_nil]
        rw [show inR ver I tries T = kpR ⟨(stQ T.C.now).cf, 1 - (stQ T.C.now).cf, tries, (stQ T.C.now).fl⟩ { T1 with d := d1 } by rw [hT]; unfold tlR; rw [hw, if_neg (by simp [g1])]]
        obtain ⟨⟨e2, T2⟩, hk2⟩ : ∃ p, kpR ⟨(stQ T.C.now).cf, 1 - (stQ T.C.now).cf, tries, (stQ T.C.now).fl⟩ { T1 with d := d1 } = p := ⟨_, rfl⟩
        rw [hk2]
        refine at_call tBkeep (keepS (T := { T1 with d := d1 }) (k := ⟨(stQ T.C.now).cf, 1 - (stQ T.C.now).cf, tries, (stQ T.C.now).fl⟩) (i := 1) (q := 2) (s := 3) (D := 4) (a := 16) (b := 17) (c := 18) (M := 14) (W := 15) ⟨by rfl, by rfl, by rfl, by rfl, by rfl, by rfl, by rfl, by rfl, by rfl, by decide, by rfl, by rfl⟩ hKw hx (by decide) hk2) ?_
        rw [btF_eq]
        unfold btB
        simp -implicitDefEqProofs only [go_sem]
        unfold btN btB
        refine sub_mk [(10, 19), (11, 20), (12, 21), (13, 22), (14, 23)] rfl rfl rfl ?_
        simp only [tmSub, hpSub, objSub, eqTm, eqHp, rn, lk, SV.ren, SV.renC, SV.renB, SV.renA, ren_ints, ren_strs, ren_pl, ren_svs, SV.v.injEq, Value.int.injEq, Body.ints.injEq, SV.ptr.injEq, SV.sl.injEq, Value.string.injEq, Value.bool.injEq, List.map_cons, List.map_nil, forall_const, Nat.reduceLT, Nat.lt_add_one, imp_self, true_and, and_true, and_self, ob_some, get_mk, lk_cons, ↓reduceIte, Nat.reduceEqDiff, ne_eq, not_true_eq_false, not_false_eq_true, Nat.one_ne_zero, Nat.zero_ne_one, Nat.succ_ne_self, Nat.reduceAdd, Bool.false_eq_true, false_implies, implies_true, reduceCtorEq, stopT]
        repeat' (first | rfl | apply And.intro)
      · have b1 : decide (e1 = 0) = false := decide_eq_false g1
        rw [show inR ver I tries T = (e1, { T1 with d := d1 }) by rw [hT]; unfold tlR; rw [hw, if_pos g1]]
        simp -implicitDefEqProofs only [go_sem, b1]
        unfold btN btB
        refine sub_mk [(10, 16), (11, 17), (12, 18), (13, 14), (14, 15)] rfl rfl rfl ?_
        simp only [tmSub, hpSub, objSub, eqTm, eqHp, rn, lk, SV.ren, SV.renC, SV.renB, SV.renA, ren_ints, ren_strs, ren_pl, ren_svs, SV.v.injEq, Value.int.injEq, Body.ints.injEq, SV.ptr.injEq, SV.sl.injEq, Value.string.injEq, Value.bool.injEq, List.map_cons, List.map_nil, forall_const, Nat.reduceLT, Nat.lt_add_one, imp_self, true_and, and_true, and_self, ob_some, get_mk, lk_cons, ↓reduceIte, Nat.reduceEqDiff, ne_eq, not_true_eq_false, not_false_eq_true, Nat.one_ne_zero, Nat.zero_ne_one, Nat.succ_ne_self, Nat.reduceAdd, Bool.false_eq_true, false_implies, implies_true, reduceCtorEq, stopT]
        repeat' (first | rfl | apply And.intro)
end
section
/- Boot: plain laws, where the power doesn't go. -/
set_option linter.unusedVariables false
set_option linter.unusedSimpArgs false
set_option maxRecDepth 100000
open Go.Proofs
variable {H : Hp} {n : Nat} {x : Nat → Option SO} {i q s D M W a b c : Nat} {d d' : Fd} {C C' : Ce} {T : Bt}
theorem GoodP.sl {f0 : Bool} {m : Nat} {st : Int} {X : List (List Int)} {Y : List (Nat × List Int)} (g : GoodP f0 m st X Y d) : Sl.GoodP f0 m st X Y d := ⟨g.off, g.safe, g.pend, g.sn, g.len, g.st, g.fa⟩
theorem Sl.GoodP.ce {f0 : Bool} {m : Nat} {st : Int} {X : List (List Int)} {Y : List (Nat × List Int)} (g : Sl.GoodP f0 m st X Y d) : Go.Sx.GoodP f0 m st X Y d := ⟨g.off, g.safe, g.pend, g.sn, g.len, g.st, g.fa⟩
def atN (bs r : Nat) (slot : Int) : Nat := if slot = 1 then bs + (1 + r) else bs
theorem atV_n {bs r : Nat} {slot : Int} (h : Sl.slOK slot = true) : Sl.atV bs r slot = atN bs r slot := by
  unfold Sl.slOK at h
  rcases of_decide_eq_true h with rfl | rfl <;> simp [Sl.atV, atN]
theorem atN_le {bs r : Nat} {slot : Int} : bs ≤ atN bs r slot ∧ atN bs r slot ≤ bs + (1 + r) := by unfold atN; split <;> omega
theorem slOK_cases {slot : Int} (h : Sl.slOK slot = true) : slot = 0 ∨ slot = 1 := of_decide_eq_true h
structure BI (T : Bt) (m t N : Nat) : Prop where
  g : ∃ st, GoodP true m st T.d.seen [] T.d
  reg : Reg T.d.seen T.C.base T.C.half T.C.num T.C.last T.C.now
  dead : T.C.dead = false
  K : BtK T m t
  bs : T.bs = T.C.base + 2 * T.C.half
  num : T.C.num ≤ N
  srt : srtE T.C.now = T.C.now
theorem BI.off {m t N : Nat} (h : BI T m t N) : T.d.off = false := by obtain ⟨st, g⟩ := h.g; exact g.off
def sv (T : Bt) (slot : Int) : RdV := Sl.srT T.bs T.r slot T.d
theorem st4_enc {k : Sq} : (encB (kv boot4 (st4 k))).size = 14 := by rw [kv_size, st4_size]; rfl
theorem kp_good {m t N : Nat} {k : Sq} (h : BI T m t N) (ht : t + 1133 < 1000000) (hN : N < 254) :
    ∃ T', kpR k T = (0, T') ∧ BI T' m (t + 133) (N + 1) ∧ T'.C.now = kv boot4 (st4 k) ∧ (∀ slot, Sl.slOK slot = true → sv T' slot = sv T slot) ∧ T'.on = T.on ∧ T'.slot = T.slot ∧ T'.ver = T.ver ∧ T'.r = T.r ∧ T'.bs = T.bs ∧ T'.C.base = T.C.base ∧ T'.C.half = T.C.half := by
  obtain ⟨st, g⟩ := h.g
  have hC := h.K.C
  have hI : (encB (kpC k T.C).now).size ≤ 64 * ((kpC k T.C).half - 1) := by
    show (encB (kv boot4 (st4 k))).size ≤ 64 * (T.C.half - 1)
    rw [st4_enc]; have := hC.half; omega
  obtain ⟨d1, h1, h2⟩ := coR_good (C := kpC k T.C) h.dead hC.half.1 hI g h.K.clen hC.last
  have hk : kpR k T = (0, { T with C := { (kpC k T.C) with last := 1 - T.C.last, num := T.C.num + 1, was := (kpC k T.C).now }, d := d1 }) := by
    unfold kpR kpF; rw [h1]; rfl
  have hK := (kpR_k (k := k) h.K ht (by have := h.num; omega)).1
  rw [hk] at hK
  have hs := h2.seen'
  have hl := h.K.clen
  have hsl : T.d.seen.length = m := g.len
  have hreg := h.reg.done (es := kv boot4 (st4 k)) (by rw [hsl]; exact hl) hC.half.1 hI (by have := h.num; omega) (kv4_es (by rw [st4_size]; decide))
  have hreg' : Reg d1.seen T.C.base T.C.half (T.C.num + 1) (1 - T.C.last) (kv boot4 (st4 k)) := by rw [hs]; exact hreg
  refine ⟨_, hk, ⟨⟨_, by rw [hs]; exact h2⟩, hreg', h.dead, hK, h.bs, by have := h.num; show T.C.num + 1 ≤ N + 1; omega, kv_srt⟩, rfl, fun slot hsk => ?_, rfl, rfl, rfl, rfl, rfl, rfl, rfl⟩
  refine Sl.srT_congr (a0 := atN T.bs T.r slot) hsk g.off h2.off (atV_n hsk) fun j j1 j2 => ?_
  show d1.seen.getD j [] = T.d.seen.getD j []
  rw [hs]
  refine done_ne (.inr ?_)
  have e1 : nCh (encB (kpC k T.C).now) = 1 := by show nCh (encB (kv boot4 (st4 k))) = 1; unfold nCh; rw [st4_enc]
  rw [e1]
  have e2 : ceTo (kpC k T.C) = T.C.base + (1 - T.C.last) * T.C.half := rfl
  rw [e2]
  have e3 := @atN_le T.bs T.r slot
  have hb := h.bs
  have hh := hC.half.1
  have : T.C.last = 0 ∨ T.C.last = 1 := by have := hC.last; omega
  rcases this with e | e <;> rw [e] <;> omega
def ImOK (v : Nat) (I : ByteArray) (r : Nat) : Prop := (1 ≤ v ∧ v < 256) ∧ 1 ≤ I.size ∧ I.size ≤ 8192 ∧ I.size ≤ r * 64
theorem wt_good {m t N v : Nat} {I : ByteArray} {slot : Int} (h : BI T m t N) (ht : t + 1133 < 1000000) (hs : Sl.slOK slot = true) (hI : ImOK v I T.r) :
    ∃ T', wtB slot v I T = (0, T') ∧ BI T' m (t + 133) N ∧ T'.C = T.C ∧ sv T' slot = (v, I, 0) ∧ (∀ s', Sl.slOK s' = true → s' ≠ slot → sv T' s' = sv T s') ∧ T'.on = T.on ∧ T'.slot = T.slot ∧ T'.ver = T.ver ∧ T'.r = T.r ∧ T'.bs = T.bs := by
  obtain ⟨st, g⟩ := h.g
  obtain ⟨hv, h1, h2, h3⟩ := hI
  have hlen := h.K.len
  have hN : nCh I ≤ T.r := by unfold nCh; omega
  have ha := @atN_le T.bs T.r slot
  have hsl : T.d.seen.length = m := g.len
  have hw := Sl.inv_good (Sl.swR_inv (bs := T.bs) (r := T.r) (a0 := atN T.bs T.r slot) (v := v) (I := I) g.sl (by omega) hs (atV_n hs) hv ⟨h1, h2, h3⟩)
  obtain ⟨⟨e, d1⟩, hq⟩ : ∃ p, Sl.swR T.bs T.r slot v I T.d = p := ⟨_, rfl⟩
  rw [hq] at hw
  obtain ⟨he, h4⟩ := hw
  simp only at he h4
  subst he
  have hk : wtB slot v I T = (0, { T with d := d1 }) := by unfold wtB; rw [hq]
  have hK := wtB_k (slot := slot) (ver := v) (I := I) h.K ht
  rw [hk] at hK
  have hsn := h4.seen
  refine ⟨_, hk, ⟨⟨_, by rw [hsn]; exact h4.ce⟩, ?_, h.dead, hK, h.bs, h.num, h.srt⟩, rfl, ?_, fun s' hs' hne => ?_, rfl, rfl, rfl, rfl, rfl⟩
  · refine h.reg.congr (by have := h.K.C.half; omega) fun j j1 j2 => ?_
    show d1.seen.getD j [] = _
    rw [hsn]
    exact Sl.done_ne (.inl (by have := h.bs; omega))
  · show Sl.srT T.bs T.r slot d1 = _
    exact Sl.srT_wrote h4 hsl (by omega) hs (atV_n hs) hv ⟨h1, h2, h3⟩
  · refine Sl.srT_congr (a0 := atN T.bs T.r s') hs' g.off h4.off (atV_n hs') fun j j1 j2 => ?_
    show d1.seen.getD j [] = T.d.seen.getD j []
    rw [hsn]
    refine Sl.done_ne ?_
    have hN' : Sl.nCh I ≤ T.r := by unfold Sl.nCh; omega
    rcases slOK_cases hs with rfl | rfl <;> rcases slOK_cases hs' with rfl | rfl
    · exact absurd rfl hne
    · exact .inr (by simp [atN] at j1 j2 ⊢; omega)
    · exact .inl (by simp [atN] at j1 j2 ⊢; omega)
    · exact absurd rfl hne
theorem u8_id {y : Int} (h : 0 ≤ y ∧ y ≤ 255) : IntKind.u8.wrap y = y := wrap_u8r h.1 h.2
def SqOK (k : Sq) : Prop := -1 ≤ k.cf ∧ k.cf ≤ 1 ∧ -1 ≤ k.tr ∧ k.tr ≤ 1 ∧ (k.cf = -1 ∨ k.cf ≠ k.tr) ∧ 0 ≤ k.lf ∧ k.lf ≤ 8 ∧ (k.tr ≠ -1 ∨ k.lf = 0) ∧ 0 ≤ k.fl ∧ k.fl ≤ 255
theorem st4_bts {k : Sq} (h : SqOK k) : bts (st4 k) = [k.cf + 1, k.tr + 1, k.lf, k.fl] := by
  obtain ⟨h1, h2, h3, h4, h5, h6, h7, h8, h9, h10⟩ := h
  unfold st4 st4L
  rw [wrap_i64 (by omega) (by omega), wrap_i64 (by omega) (by omega), u8_id (by omega), u8_id (by omega), u8_id (by omega), u8_id (by omega)]
  refine btx fun y hy => ?_
  simp only [List.mem_cons, List.not_mem_nil, or_false] at hy
  rcases hy with rfl | rfl | rfl | rfl <;> omega
theorem stQ_kv {k : Sq} (h : SqOK k) : stQ (kv boot4 (st4 k)) = k := by
  have hb := st4_bts h
  obtain ⟨h1, h2, h3, h4, h5, h6, h7, h8, h9, h10⟩ := h
  have b0 : bt (st4 k) 0 = k.cf + 1 := by unfold bt; rw [hb]; rfl
  have b1 : bt (st4 k) 1 = k.tr + 1 := by unfold bt; rw [hb]; rfl
  have b2 : bt (st4 k) 2 = k.lf := by unfold bt; rw [hb]; rfl
  have b3 : bt (st4 k) 3 = k.fl := by unfold bt; rw [hb]; rfl
  unfold stQ
  rw [kv_t, if_pos ⟨rfl, st4_size, by rw [b0]; omega, by rw [b1]; omega, by rw [b0, b1]; omega, by rw [b2]; omega, by rw [b1, b2]; omega⟩, b0, b1, b2, b3]
  cases k
  simp
theorem stQ_nil : stQ [] = nthQ := if_neg fun h => by cases h.1
end
section
/- Boot: calls, where the power doesn't go. -/
set_option linter.unusedVariables false
set_option linter.unusedSimpArgs false
set_option maxRecDepth 100000
open Go.Proofs
variable {H : Hp} {n : Nat} {x : Nat → Option SO} {i q s D M W a b c : Nat} {d d' : Fd} {C C' : Ce} {T : Bt}
structure Lay (T T' : Bt) : Prop where
  r : T'.r = T.r
  bs : T'.bs = T.bs
def Run (T T' : Bt) : Prop := T'.on = T.on ∧ T'.slot = T.slot ∧ T'.ver = T.ver
theorem BI.stop {m t N : Nat} (h : BI T m t N) : BI (stopT T) m t N := ⟨h.g, h.reg, h.dead, ⟨h.K.C, h.K.P, h.K.t, h.K.bs, h.K.r, h.K.len, h.K.clen⟩, h.bs, h.num, h.srt⟩
theorem BI.run {m t N v : Nat} {sl : Int} (h : BI T m t N) : BI (runT sl v T) m t N := ⟨h.g, h.reg, h.dead, ⟨h.K.C, h.K.P, h.K.t, h.K.bs, h.K.r, h.K.len, h.K.clen⟩, h.bs, h.num, h.srt⟩
theorem prov_good {m t N v : Nat} {I : ByteArray} (h : BI T m t N) (ht : t + 1266 < 1000000) (hN : N < 254) (hk : (stQ T.C.now).cf < 0) (hI : ImOK v I T.r) :
    ∃ T', prR v I T = (0, T') ∧ BI T' m (t + 266) (N + 1) ∧ stQ T'.C.now = ⟨0, -1, 0, v⟩ ∧ sv T' 0 = (v, I, 0) ∧ Run T T' ∧ Lay T T' := by
  obtain ⟨T1, p1, p2, p3, p4, p5, p6, p7, p8, p9, p10⟩ := wt_good (slot := 0) h (by omega) rfl hI
  obtain ⟨T2, q1, q2, q3, q4, q5, q6, q7, q8, q9, q10⟩ := kp_good (k := ⟨0, -1, 0, v⟩) p2 (by omega) hN
  have hv := hI.1
  refine ⟨T2, ?_, q2, ?_, ?_, ⟨by rw [q5, p6], by rw [q6, p7], by rw [q7, p8]⟩, ⟨by rw [q8, p9], by rw [q9, p10]⟩⟩
  · unfold prR; rw [if_neg (by omega), p1, if_neg (by simp), q1]
  · rw [q3]; exact stQ_kv ⟨by simp only; omega, by simp only; omega, by simp only; omega, by simp only; omega, .inr (by simp only; omega), by simp only; omega, by simp only; omega, .inr rfl, by simp only; omega, by simp only; omega⟩
  · rw [q4 0 rfl, p4]
theorem inst_good {m t N v : Nat} {I : ByteArray} {tries : Int} {k : Sq} (h : BI T m t N) (ht : t + 1266 < 1000000) (hN : N < 254) (hk : stQ T.C.now = k) (hok : SqOK k) (hc : 0 ≤ k.cf) (htr : k.tr = -1 ∧ k.lf = 0) (he : itE k v I tries T.r = 0)
    (hh : haltT (1 - k.cf) T = T) (hI : ImOK v I T.r) (hr : 1 ≤ tries ∧ tries ≤ 8) :
    ∃ T', inR v I tries T = (0, T') ∧ BI T' m (t + 266) (N + 1) ∧ stQ T'.C.now = ⟨k.cf, 1 - k.cf, tries, k.fl⟩ ∧ sv T' (1 - k.cf) = (v, I, 0) ∧ sv T' k.cf = sv T k.cf ∧ Run T T' ∧ Lay T T' := by
  obtain ⟨o1, o2, o3, o4, o5, o6, o7, o8, o9, o10⟩ := hok
  have hcs : k.cf = 0 ∨ k.cf = 1 := by omega
  have s1 : Sl.slOK (1 - k.cf) = true := by rcases hcs with e | e <;> rw [e] <;> rfl
  have s2 : Sl.slOK k.cf = true := by rcases hcs with e | e <;> rw [e] <;> rfl
  obtain ⟨T1, p1, p2, p3, p4, p5, p6, p7, p8, p9, p10⟩ := wt_good (slot := 1 - k.cf) h (by omega) s1 hI
  obtain ⟨T2, q1, q2, q3, q4, q5, q6, q7, q8, q9, q10⟩ := kp_good (k := ⟨k.cf, 1 - k.cf, tries, k.fl⟩) p2 (by omega) hN
  refine ⟨T2, ?_, q2, ?_, ?_, ?_, ⟨by rw [q5, p6], by rw [q6, p7], by rw [q7, p8]⟩, ⟨by rw [q8, p9], by rw [q9, p10]⟩⟩
  · unfold inR; rw [hk, if_neg (by simp [he])]; simp only [if_pos htr]; rw [hh]; unfold tlR; rw [p1, if_neg (by simp), q1]
  · rw [q3]; exact stQ_kv ⟨by simp only; omega, by simp only; omega, by simp only; omega, by simp only; omega, by simp only; omega, by simp only; omega, by simp only; omega, by simp only; omega, by simp only; omega, by simp only; omega⟩
  · rw [q4 _ s1, p4]
  · rw [q4 _ s2, p5 _ s2 (by omega)]
theorem boot_fine {m t N v : Nat} {I : ByteArray} {k : Sq} (h : BI T m t N) (ht : t + 1133 < 1000000) (hN : N < 254) (hk : stQ T.C.now = k) (hok : SqOK k) (hc : 0 ≤ k.cf) (htr : 0 ≤ k.tr) (hl : 0 < k.lf) (hs : sv T k.tr = (v, I, 0)) (hv : k.fl ≤ v) :
    ∃ T', boR T = ((v, I, 0), T') ∧ BI T' m (t + 133) (N + 1) ∧ stQ T'.C.now = { k with lf := k.lf - 1 } ∧ (∀ s', Sl.slOK s' = true → sv T' s' = sv T s') ∧ (T'.on = true ∧ T'.slot = k.tr ∧ T'.ver = v) ∧ Lay T T' := by
  obtain ⟨o1, o2, o3, o4, o5, o6, o7, o8, o9, o10⟩ := hok
  obtain ⟨T2, q1, q2, q3, q4, q5, q6, q7, q8, q9, q10⟩ := kp_good (k := { k with lf := k.lf - 1 }) h.stop ht hN
  have hf : fineB k (v, I, 0) = true := by
    unfold fineB
    simp only [Bool.and_eq_true, decide_eq_true_eq]
    exact ⟨⟨hl, trivial⟩, hv⟩
  have hs' : Sl.srT (stopT T).bs (stopT T).r k.tr (stopT T).d = (v, I, 0) := hs
  refine ⟨runT k.tr v T2, ?_, q2.run, ?_, fun s' h1 => q4 s' h1, ⟨rfl, rfl, rfl⟩, ⟨q8, q9⟩⟩
  · unfold boR; rw [hk, if_neg (by omega), if_pos htr]; unfold tryR
    simp only [hs', nxQ, hf, if_true, q1]
    rfl
  · show stQ T2.C.now = _
    rw [q3]; exact stQ_kv ⟨by simp only; omega, by simp only; omega, by simp only; omega, by simp only; omega, by simp only; omega, by simp only; omega, by simp only; omega, by simp only; omega, by simp only; omega, by simp only; omega⟩
theorem boot_spent {m t N v : Nat} {I : ByteArray} {k : Sq} (h : BI T m t N) (ht : t + 1133 < 1000000) (hN : N < 254) (hk : stQ T.C.now = k) (hok : SqOK k) (hc : 0 ≤ k.cf) (htr : 0 ≤ k.tr) (hl : k.lf = 0) (hs : sv T k.cf = (v, I, 0)) (hv : k.fl ≤ v) :
    ∃ T', boR T = ((v, I, 0), T') ∧ BI T' m (t + 133) (N + 1) ∧ stQ T'.C.now = sdQ k ∧ (∀ s', Sl.slOK s' = true → sv T' s' = sv T s') ∧ (T'.on = true ∧ T'.slot = k.cf ∧ T'.ver = v) ∧ Lay T T' := by
  obtain ⟨o1, o2, o3, o4, o5, o6, o7, o8, o9, o10⟩ := hok
  have hcs : k.cf = 0 ∨ k.cf = 1 := by omega
  have s2 : Sl.slOK k.cf = true := by rcases hcs with e | e <;> rw [e] <;> rfl
  obtain ⟨T2, q1, q2, q3, q4, q5, q6, q7, q8, q9, q10⟩ := kp_good (k := sdQ k) h.stop ht hN
  have hf : ∀ p, fineB k p = false := fun p => by
    unfold fineB
    rw [hl]; rfl
  have hs' : Sl.srT T2.bs T2.r k.cf T2.d = (v, I, 0) := (q4 _ s2).trans hs
  refine ⟨runT k.cf v T2, ?_, q2.run, ?_, fun s' h1 => q4 s' h1, ⟨rfl, rfl, rfl⟩, ⟨q8, q9⟩⟩
  · unfold boR; rw [hk, if_neg (by omega), if_pos htr]; unfold tryR
    simp only [nxQ, hf, q1, Bool.false_eq_true, if_false, ne_eq, not_true_eq_false]
    unfold finR
    simp only [hs']
    rw [if_neg (by simp), if_neg (by omega)]
  · show stQ T2.C.now = _
    rw [q3]; exact stQ_kv (k := sdQ k) ⟨o1, o2, by simp only [sdQ]; omega, by simp only [sdQ]; omega, by simp only [sdQ]; omega, by simp only [sdQ]; omega, by simp only [sdQ]; omega, .inr rfl, o9, o10⟩
theorem boot_plain {m t N v : Nat} {I : ByteArray} {k : Sq} (h : BI T m t N) (hk : stQ T.C.now = k) (hc : 0 ≤ k.cf) (htr : k.tr < 0) (hs : sv T k.cf = (v, I, 0)) (hv : k.fl ≤ v) :
    boR T = ((v, I, 0), runT k.cf v (stopT T)) := by
  have hs' : Sl.srT (stopT T).bs (stopT T).r k.cf (stopT T).d = (v, I, 0) := hs
  unfold boR; rw [hk, if_neg (by omega), if_neg (by omega)]
  unfold finR
  simp only [hs']
  rw [if_neg (by simp), if_neg (by omega)]
end
section
/- Boot: Open; the document's example. -/
set_option linter.unusedVariables false
set_option linter.unusedSimpArgs false
set_option maxRecDepth 100000
open Go.Proofs
variable {H : Hp} {n : Nat} {x : Nat → Option SO} {i q s D M W a b c : Nat} {d d' : Fd} {C C' : Ce} {T : Bt}
theorem instS {ver tries : Int} {I : ByteArray} {m t : Nat} (h : BtAt H T i q s D a b c M W) (hK : BtK T m t) (ht : t + 1266 < 1000000) (hnum : T.C.num + 1 < 1000000000000) (hx : NoX H.x) (hn : n + 5 ≤ 1000) {e : Int} {T' : Bt} (hq : inR ver I tries T = (e, T')) : SpecAt Tryz.prog nBInstall [.ptr i 0, .v (.int .i64 ver), .v (.string I), .v (.int .i64 tries)] H n (.v (.int .i64 e)) ⟨btF T' i q s D a b c M W n H.l, H.x⟩ (n + 5) := by
  have e1 : (inR ver I tries T).1 = e := by rw [hq]
  have e2 : (inR ver I tries T).2 = T' := by rw [hq]
  subst e1; subst e2
  have := lift (n := n) (okT.spec tBInstall (instW (x := H.x) (T := T) (ver := ver) (I := I) (tries := tries) hK ht hnum hx)) (btP i q s D a b c M W) rfl rfl rfl (by omega) rfl rfl h.sub h.ap h.nz (by omega)
  exact this
def opnT (B h r N L : Nat) (es : List (Value × Value)) (d : Fd) : Bt := ⟨⟨B, h, N, L, false, es, es⟩, d, B + 2 * h, r, false, 0, 0⟩
def opnL (T : Bt) : List (Nat × Option SO) := devL T.d 1 2 3 4 [(5, some ⟨true, btB T 6 7⟩), (6, some ⟨true, cellB T.C 1 8 9⟩), (7, some ⟨true, Sl.slB 1 T.bs T.r⟩), (8, some ⟨true, .mp (.map T.C.now)⟩), (9, some ⟨true, .mp (.map T.C.was)⟩)]
theorem bopenW {B h r N L : Nat} {es es' : List (Value × Value)} (hB : B ≤ 4096) (hh : 2 ≤ h ∧ h ≤ 129) (hd : d.ok) (ho : d.off = false) (hP : Sl.opP d.seen.length ((B + 2 * h : Nat) : Int) r) (g : Reg d.seen B h N L es) (he : srtE es = es') :
    fnVC CT mBOpen [.ptr 1 0, .v (.int .i64 B), .v (.int .i64 h), .v (.int .i64 r)] ⟨devL d 1 2 3 4 [], x⟩ 5 fun v H' n' => Sub 5 ⟨[(0, .tup [.ptr 5 0, .v (.int .i64 0)])], ⟨opnL (opnT B h r N L es' d), x⟩, 10⟩ ⟨[(0, v)], H', n'⟩ := by
  have hP' := hP
  unfold Sl.opP at hP'
  have w1 : IntKind.i64.wrap (2 * (h : Int)) = ((2 * h : Nat) : Int) := by rw [wrap_i64 (by omega) (by omega)]; omega
  have w2 : IntKind.i64.wrap ((B : Int) + ((2 * h : Nat) : Int)) = ((B + 2 * h : Nat) : Int) := by rw [wrap_i64 (by omega) (by omega)]; omega
  unfold mBOpen devL
  simp -implicitDefEqProofs only [↓fnVC, initTm]
  simp -implicitDefEqProofs only [go_sem]
  refine at_call tCOpen (openR (i := 1) (a := 2) (b := 3) (c := 4) (d := d) ⟨by rfl, by rfl, by rfl, by rfl, by decide⟩ hB hh hd ho (by omega) g he (by decide)) ?_
  simp -implicitDefEqProofs only [go_sem, w1, w2]
  refine at_call tSOpen (Sl.openS (i := 1) (a := 2) (b := 3) (c := 4) (d := d) ⟨by rfl, by rfl, by rfl, by rfl, by decide⟩ hd.most hP ho (by decide)) ?_
  rw [devL_eq]
  simp -implicitDefEqProofs only [go_sem, splice_zero, splice_succ, List.drop_succ_cons, List.drop_zero, List.drop_nil, List.cons_append, List.nil_append, List.take_succ_cons, List.take_zero, List.length_cons, List.length_nil]
  unfold opnL opnT btB devL
  refine sub_mk [(5, 9), (6, 5), (7, 8), (8, 6), (9, 7)] rfl rfl rfl ?_
  simp only [tmSub, hpSub, objSub, eqTm, eqHp, rn, lk, SV.ren, SV.renC, SV.renB, SV.renA, ren_ints, ren_strs, ren_pl, ren_svs, SV.v.injEq, Value.int.injEq, Body.ints.injEq, SV.ptr.injEq, SV.sl.injEq, Value.string.injEq, Value.bool.injEq, List.map_cons, List.map_nil, forall_const, Nat.reduceLT, Nat.lt_add_one, imp_self, true_and, and_true, and_self, ob_some, get_mk, lk_cons, ↓reduceIte, Nat.reduceEqDiff, ne_eq, not_true_eq_false, not_false_eq_true, Nat.one_ne_zero, Nat.zero_ne_one, Nat.succ_ne_self, Nat.reduceAdd, Bool.false_eq_true, false_implies, implies_true, reduceCtorEq]
  repeat' (first | rfl | apply And.intro)
theorem bopenS {B h r N L : Nat} {es es' : List (Value × Value)} (hD : DevAt H d i a b c) (hB : B ≤ 4096) (hh : 2 ≤ h ∧ h ≤ 129) (hd : d.ok) (ho : d.off = false) (hP : Sl.opP d.seen.length ((B + 2 * h : Nat) : Int) r) (g : Reg d.seen B h N L es) (he : srtE es = es') (hn : n + 5 ≤ 1000) :
    SpecAt Tryz.prog nBOpen [.ptr i 0, .v (.int .i64 B), .v (.int .i64 h), .v (.int .i64 r)] H n (.tup [.ptr n 0, .v (.int .i64 0)]) ⟨devL d i a b c ((n, some ⟨true, btB (opnT B h r N L es' d) (n + 1) (n + 2)⟩) :: (n + 1, some ⟨true, cellB (opnT B h r N L es' d).C i (n + 3) (n + 4)⟩) :: (n + 2, some ⟨true, Sl.slB i (opnT B h r N L es' d).bs r⟩) :: (n + 3, some ⟨true, .mp (.map es')⟩) :: (n + 4, some ⟨true, .mp (.map es')⟩) :: H.l), H.x⟩ (n + 5) := by
  obtain ⟨hi, ha, hb, hc, ⟨p1, p2, p3, p4⟩, ⟨q1, q2, q3, q4⟩, n1, n2, n3, n4, n5, n6⟩ := hD
  have := lift (n := n) (okT.spec tBOpen (bopenW (x := H.x) hB hh hd ho hP g he)) [(1, i), (2, a), (3, b), (4, c)] rfl rfl rfl (by omega) rfl rfl
    ⟨sub_wr rfl p1 q1 hi rfl, sub_wr rfl p2 q2 ha rfl, sub_wr rfl p3 q3 hb rfl, sub_wr rfl p4 q4 hc rfl, trivial⟩
    (by simp [devL, apartB, apart1, rn, lk, n1, n2, n3, n4, n5, n6, Ne.symm n1, Ne.symm n2, Ne.symm n3, Ne.symm n4, Ne.symm n5, Ne.symm n6]) (by simp [devL, wrNZ, rn, lk]; omega) (by omega)
  exact this
end
section
/- Boot: the document's example. -/
set_option linter.unusedVariables false
set_option linter.unusedSimpArgs false
set_option maxRecDepth 100000
open Go.Proofs
variable {H : Hp} {n : Nat} {x : Nat → Option SO} {i q s D M W a b c : Nat} {d d' : Fd} {C C' : Ce} {T : Bt}
theorem stateS' {k : Sq} (h : BtAt H T i q s D a b c M W) (hE : Es T.C.now) (hx : NoX H.x) (hk : stQ T.C.now = k) : SpecAt Tryz.prog nBState [.ptr i 0] H n (sqV k) H n := by subst hk; exact stateS h hE hx
instance {k : Sq} : Decidable (SqOK k) := by unfold SqOK; infer_instance
theorem itE_ok {k : Sq} {v r : Nat} {I : ByteArray} {tries : Int} (h1 : 0 ≤ k.cf) (h2 : 1 ≤ tries ∧ tries ≤ 8) (h4 : k.fl < v) (h5 : v < 256) (h6 : 1 ≤ I.size ∧ I.size ≤ 8192 ∧ I.size ≤ r * 64) : itE k v I tries r = 0 := by
  unfold itE
  rw [if_neg (by omega), if_neg (by omega), if_neg (by omega), if_neg (by omega), if_neg (by rw [seq_nemp (by omega)]; simp; omega), if_neg (by omega)]
theorem BI.new {m h r : Nat} (hm : m ≤ 4096) (hh : 2 ≤ h ∧ h ≤ 129) (hr : 1 ≤ r ∧ r ≤ 128) (hl : 2 * h + 2 * (1 + r) ≤ m) : BI (opnT 0 h r 0 1 [] (newD m)) m 0 0 := by
  have g : GoodP true m 0 (List.replicate m (zi 64)) [] (newD m) := goodNew
  have e1 : 0 + 2 * h ≤ 4096 := by omega
  have e2 : (0 + 2 * h) + 2 * (1 + r) ≤ m := by omega
  have e3 : 0 + 2 * h ≤ m := by omega
  refine ⟨⟨0, g⟩, Reg.new e3 (show 1 ≤ h by omega), rfl, ⟨⟨Es.nil, Es.nil, hh, Nat.zero_le _, Nat.le_refl _, Nat.zero_lt_succ _⟩, Pl.new hm, by decide, e1, hr.2, e2, e3⟩, rfl, Nat.le_refl _, srtE_nil⟩
theorem opn_P {m h r : Nat} (hr : 1 ≤ r ∧ r ≤ 128) (hl : 2 * h + 2 * (1 + r) ≤ m) : Sl.opP (newD m).seen.length ((0 + 2 * h : Nat) : Int) r := by
  have : (newD m).seen.length = m := by simp [newD]
  unfold Sl.opP; rw [this]; omega
theorem bnwS {m h r : Nat} (hD : DevAt H (newD m) i a b c) (hm : m ≤ 4096) (hh : 2 ≤ h ∧ h ≤ 129) (hr : 1 ≤ r ∧ r ≤ 128) (hl : 2 * h + 2 * (1 + r) ≤ m) (hn : n + 5 ≤ 1000) {T : Bt} (hT : opnT 0 h r 0 1 [] (newD m) = T) :
    SpecAt Tryz.prog nBOpen [.ptr i 0, .v (.int .i64 0), .v (.int .i64 h), .v (.int .i64 r)] H n (.tup [.ptr n 0, .v (.int .i64 0)]) ⟨devL T.d i a b c ((n, some ⟨true, btB T (n + 1) (n + 2)⟩) :: (n + 1, some ⟨true, cellB T.C i (n + 3) (n + 4)⟩) :: (n + 2, some ⟨true, Sl.slB i T.bs T.r⟩) :: (n + 3, some ⟨true, .mp (.map T.C.now)⟩) :: (n + 4, some ⟨true, .mp (.map T.C.was)⟩) :: H.l), H.x⟩ (n + 5) := by
  subst hT
  exact bopenS (B := 0) (N := 0) (L := 1) hD (by decide) hh (newD_ok hm) rfl (opn_P hr hl) (Reg.new (by omega) (by omega)) srtE_nil hn
set_option maxHeartbeats 8000000 in
theorem bootsW (hx : NoX x) : fnVC CT mboots [] ⟨[], x⟩ 1 fun v H' n' => Sub 1 ⟨[(0, .v (.bool true))], ⟨[], x⟩, 1⟩ ⟨[(0, v)], H', n'⟩ := by
  unfold mboots
  simp -implicitDefEqProofs only [↓fnVC, initTm]
  simp -implicitDefEqProofs only [go_sem]
  refine at_call tFNew (nwD (k := 30) (by decide) (by decide) (by decide)) ?_
  unfold devL
  simp -implicitDefEqProofs only [go_sem]
  have hB := BI.new (m := 30) (h := 4) (r := 4) (by decide) (by decide) (by decide) (by decide)
  have hk0 : stQ (opnT 0 4 4 0 1 [] (newD 30)).C.now = nthQ := stQ_nil
  have ho0 : (opnT 0 4 4 0 1 [] (newD 30)).on = false := rfl
  have hr0 : (opnT 0 4 4 0 1 [] (newD 30)).r = 4 := rfl
  obtain ⟨T, hT⟩ : ∃ T, opnT 0 4 4 0 1 [] (newD 30) = T := ⟨_, rfl⟩
  rw [hT] at hB hk0 ho0 hr0
  refine at_call tBOpen (bnwS (i := 1) (a := 2) (b := 3) (c := 4) (m := 30) (h := 4) (r := 4) ⟨by rfl, by rfl, by rfl, by rfl, by decide⟩ (by decide) (by decide) (by decide) (by decide) (by decide) hT) ?_
  unfold devL
  simp -implicitDefEqProofs only [go_sem]
  obtain ⟨T1, p1, b1, k1, v1, u1, l1⟩ := prov_good (v := 1) (I := ⟨#[97]⟩) hB (by decide) (by decide) (by rw [hk0]; decide) (by rw [hr0]; exact ⟨by decide, by decide, by decide, by decide⟩)
  refine at_call tBProvision (provS (T := T) (ver := 1) (I := ⟨#[97]⟩) (i := 5) (q := 6) (s := 7) (D := 1) (a := 2) (b := 3) (c := 4) (M := 8) (W := 9) ⟨by rfl, by rfl, by rfl, by rfl, by rfl, by rfl, by rfl, by rfl, by rfl, by decide, by rfl, by rfl⟩ hB.K (by decide) hx (by decide) p1) ?_
  rw [btF_eq]
  simp -implicitDefEqProofs only [go_sem]
  have hr1 : T1.r = 4 := by rw [l1.r, hr0]
  obtain ⟨T2, p2, b2, k2, v2, w2, u2, l2⟩ := inst_good (v := 2) (I := ⟨#[98]⟩) (tries := 2) b1 (by decide) (by decide) k1 (by decide) (by decide) (by decide) (itE_ok (by decide) (by decide) (by decide) (by decide) (by rw [hr1]; decide)) (if_neg fun h => by rw [u1.1, ho0] at h; cases h.1) (by rw [hr1]; exact ⟨by decide, by decide, by decide, by decide⟩) (by decide)
  refine at_call tBInstall (instS (T := T1) (ver := 2) (I := ⟨#[98]⟩) (tries := 2) (i := 5) (q := 6) (s := 7) (D := 1) (a := 10) (b := 11) (c := 12) (M := 13) (W := 14) ⟨by rfl, by rfl, by rfl, by rfl, by rfl, by rfl, by rfl, by rfl, by rfl, by decide, by rfl, by rfl⟩ b1.K (by decide) (by have := b1.num; omega) hx (by decide) p2) ?_
  rw [btF_eq]
  simp -implicitDefEqProofs only [go_sem]
  have k2' : stQ T2.C.now = ⟨0, 1, 2, 1⟩ := k2
  have v2' : sv T2 1 = (2, ⟨#[98]⟩, 0) := v2
  have w2' : sv T2 0 = (1, ⟨#[97]⟩, 0) := w2.trans v1
  obtain ⟨T3, p3, b3, k3, v3, u3, l3⟩ := boot_fine (v := 2) (I := ⟨#[98]⟩) b2 (by decide) (by decide) k2' (by decide) (by decide) (by decide) (by decide) v2' (by decide)
  have k3' : stQ T3.C.now = ⟨0, 1, 1, 1⟩ := k3
  obtain ⟨T4, p4, b4, k4, v4, u4, l4⟩ := boot_fine (v := 2) (I := ⟨#[98]⟩) b3 (by decide) (by decide) k3' (by decide) (by decide) (by decide) (by decide) ((v3 1 rfl).trans v2') (by decide)
  have k4' : stQ T4.C.now = ⟨0, 1, 0, 1⟩ := k4
  obtain ⟨T5, p5, b5, k5, v5, u5, l5⟩ := boot_spent (v := 1) (I := ⟨#[97]⟩) b4 (by decide) (by decide) k4' (by decide) (by decide) (by decide) rfl ((v4 0 rfl).trans ((v3 0 rfl).trans w2')) (by decide)
  have k5' : stQ T5.C.now = ⟨0, -1, 0, 1⟩ := k5
  have q1 : seq ⟨#[98]⟩ ⟨#[98]⟩ = true := seq_self _
  have q2 : seq ⟨#[97]⟩ ⟨#[97]⟩ = true := seq_self _
  have z3 : ((3 : Nat) : Int) = 3 := rfl
  have e0 : IntKind.i64.wrap (0 + 1) = 1 := rfl
  have e1 : IntKind.i64.wrap (1 + 1) = 2 := rfl
  have e2 : IntKind.i64.wrap (2 + 1) = 3 := rfl
  refine loop_roll 4 ?_
  rw [LoopU_succ]
  simp -implicitDefEqProofs only [go_sem, z3, q1, q2, List.getD_cons_zero, List.getD_cons_succ]
  refine at_call tBBoot (bootS (T := T2) (i := 5) (q := 6) (s := 7) (D := 1) (a := 15) (b := 16) (c := 17) (M := 18) (W := 19) ⟨by rfl, by rfl, by rfl, by rfl, by rfl, by rfl, by rfl, by rfl, by rfl, by decide, by rfl, by rfl⟩ b2.K (by decide) (by have := b2.num; omega) hx (by decide) p3) ?_
  rw [btF_eq]
  unfold Sl.rV
  simp -implicitDefEqProofs only [go_sem, z3, q1, q2, e0, e1, e2]
  rw [LoopU_succ]
  simp -implicitDefEqProofs only [go_sem, z3, q1, q2, List.getD_cons_zero, List.getD_cons_succ]
  refine at_call tBBoot (bootS (T := T3) (i := 5) (q := 6) (s := 7) (D := 1) (a := 21) (b := 22) (c := 23) (M := 24) (W := 25) ⟨by rfl, by rfl, by rfl, by rfl, by rfl, by rfl, by rfl, by rfl, by rfl, by decide, by rfl, by rfl⟩ b3.K (by decide) (by have := b3.num; omega) hx (by decide) p4) ?_
  rw [btF_eq]
  unfold Sl.rV
  simp -implicitDefEqProofs only [go_sem, z3, q1, q2, e0, e1, e2]
  rw [LoopU_succ]
  simp -implicitDefEqProofs only [go_sem, z3, q1, q2, List.getD_cons_zero, List.getD_cons_succ]
  refine at_call tBBoot (bootS (T := T4) (i := 5) (q := 6) (s := 7) (D := 1) (a := 26) (b := 27) (c := 28) (M := 29) (W := 30) ⟨by rfl, by rfl, by rfl, by rfl, by rfl, by rfl, by rfl, by rfl, by rfl, by decide, by rfl, by rfl⟩ b4.K (by decide) (by have := b4.num; omega) hx (by decide) p5) ?_
  rw [btF_eq]
  unfold Sl.rV
  simp -implicitDefEqProofs only [go_sem, z3, q1, q2, e0, e1, e2]
  rw [LoopU_succ]
  simp -implicitDefEqProofs only [go_sem, z3, q1, q2, e0, e1, e2]
  refine at_call tBState (stateS' (T := T5) (i := 5) (q := 6) (s := 7) (D := 1) (a := 31) (b := 32) (c := 33) (M := 34) (W := 35) ⟨by rfl, by rfl, by rfl, by rfl, by rfl, by rfl, by rfl, by rfl, by rfl, by decide, by rfl, by rfl⟩ b5.K.C.now hx k5') ?_
  unfold sqV sqL
  simp -implicitDefEqProofs only [go_sem, splice_zero, splice_succ, List.drop_succ_cons, List.drop_zero, List.drop_nil, List.cons_append, List.nil_append, List.take_succ_cons, List.take_zero, List.length_cons, List.length_nil]
  refine sub_mk [] rfl rfl rfl ?_
  simp only [tmSub, hpSub, objSub, eqTm, eqHp, rn, lk, SV.ren, SV.renC, SV.renB, SV.renA, ren_ints, ren_strs, ren_pl, ren_svs, SV.v.injEq, Value.int.injEq, Body.ints.injEq, SV.ptr.injEq, SV.sl.injEq, Value.string.injEq, Value.bool.injEq, List.map_cons, List.map_nil, forall_const, Nat.reduceLT, Nat.lt_add_one, imp_self, true_and, and_true, and_self, ob_some, get_mk, lk_cons, ↓reduceIte, Nat.reduceEqDiff, ne_eq, not_true_eq_false, not_false_eq_true, Nat.one_ne_zero, Nat.zero_ne_one, Nat.succ_ne_self, Nat.reduceAdd, Bool.false_eq_true, false_implies, implies_true, reduceCtorEq]
  repeat' (first | rfl | apply And.intro)
theorem bootsS (hx : NoX H.x) : SpecAt Tryz.prog nboots [] H n (.v (.bool true)) H n := lift_pure (okT.spec tboots (bootsW hx)) rfl
end
section
/- Boot: opened anew; an image that is tried. -/
set_option linter.unusedVariables false
set_option linter.unusedSimpArgs false
set_option maxRecDepth 100000
open Go.Proofs
variable {H : Hp} {n : Nat} {x : Nat → Option SO} {i q s D M W a b c : Nat} {d d' : Fd} {C C' : Ce} {T : Bt}
theorem BI.mono {m t N t' N' : Nat} (h : BI T m t N) (ht : t ≤ t') (ht' : t' + 1000 < 1000000) (hN : N ≤ N') : BI T m t' N' :=
  ⟨h.g, h.reg, h.dead, ⟨h.K.C, h.K.P.mono ht, ht', h.K.bs, h.K.r, h.K.len, h.K.clen⟩, h.bs, Nat.le_trans h.num hN, h.srt⟩
def reT (T : Bt) : Bt := opnT T.C.base T.C.half T.r T.C.num T.C.last T.C.now (crD T.d [])
theorem crD_seen {m t N : Nat} (h : BI T m t N) : (crD T.d []).seen = T.d.seen ∧ (crD T.d []).safe = T.d.seen := by
  obtain ⟨st, g⟩ := h.g
  have e : (crD T.d []).seen = T.d.safe := by show crl T.d.safe T.d.pend _ T.d.pend.length = _; rw [g.pend]; rfl
  have e2 : (crD T.d []).safe = T.d.safe := by show crl T.d.safe T.d.pend _ T.d.pend.length = _; rw [g.pend]; rfl
  rw [e, e2, g.safe]; exact ⟨rfl, rfl⟩
theorem BI.re {m t N : Nat} (h : BI T m t N) (ht : t + 1001 < 1000000) : BI (reT T) m (t + 1) N := by
  obtain ⟨e1, e2⟩ := crD_seen h
  have hbs := h.bs
  have hP := h.K.P.cr (ks := [])
  refine ⟨⟨T.d.st, rfl, ?_, rfl, hP.sn, hP.len, rfl, fun _ => rfl⟩, ?_, rfl, ⟨⟨h.K.C.now, h.K.C.now, h.K.C.half, h.K.C.base, h.K.C.last, h.K.C.num⟩, hP, ht, ?_, h.K.r, ?_, h.K.clen⟩, rfl, h.num, h.srt⟩
  · show (crD T.d []).safe = (crD T.d []).seen
    rw [e1, e2]
  · show Reg (crD T.d []).seen T.C.base T.C.half T.C.num T.C.last T.C.now
    rw [e1]; exact h.reg
  · show T.C.base + 2 * T.C.half ≤ 4096
    rw [← hbs]; exact h.K.bs
  · show (T.C.base + 2 * T.C.half) + 2 * (1 + T.r) ≤ m
    rw [← hbs]; exact h.K.len
theorem sv_re {m t N : Nat} {slot : Int} (h : BI T m t N) (hs : Sl.slOK slot = true) : sv (reT T) slot = sv T slot := by
  obtain ⟨e1, e2⟩ := crD_seen h
  have hb : (reT T).bs = T.bs := h.bs.symm
  show Sl.srT (reT T).bs T.r slot (crD T.d []) = _
  rw [hb]
  exact Sl.srT_congr (a0 := atN T.bs T.r slot) hs h.off rfl (atV_n hs) fun j _ _ => by rw [e1]
theorem reS {m t N hf r : Nat} (h : BI T m t N) (hD : DevAt H (crD T.d []) i a b c) (hb : T.C.base = 0) (hh : T.C.half = hf) (hr : T.r = r) (h1 : 1 ≤ r) (hn : n + 5 ≤ 1000) {T' : Bt} (hT : reT T = T') :
    SpecAt Tryz.prog nBOpen [.ptr i 0, .v (.int .i64 0), .v (.int .i64 hf), .v (.int .i64 r)] H n (.tup [.ptr n 0, .v (.int .i64 0)]) ⟨devL T'.d i a b c ((n, some ⟨true, btB T' (n + 1) (n + 2)⟩) :: (n + 1, some ⟨true, cellB T'.C i (n + 3) (n + 4)⟩) :: (n + 2, some ⟨true, Sl.slB i T'.bs T'.r⟩) :: (n + 3, some ⟨true, .mp (.map T'.C.now)⟩) :: (n + 4, some ⟨true, .mp (.map T'.C.was)⟩) :: H.l), H.x⟩ (n + 5) := by
  subst hT; subst hh; subst hr
  obtain ⟨e1, e2⟩ := crD_seen h
  have hP := h.K.P.cr (ks := [])
  have hl := h.K.len
  have hbs := h.bs
  have hlen : (crD T.d []).seen.length = m := hP.len
  have hK := h.K.r
  have hc := h.reg
  rw [hb] at hc hbs
  have := bopenS (n := n) (B := 0) (h := T.C.half) (r := T.r) (N := T.C.num) (L := T.C.last) (es := T.C.now) (es' := T.C.now) hD (by decide) h.K.C.half hP.ok rfl (by rw [hlen]; unfold Sl.opP; omega) (by rw [e1]; exact hc) h.srt hn
  unfold reT; rw [hb]
  exact this
def old3 : ByteArray := ⟨#[111, 108, 100]⟩
def tyQ (N j : Nat) : Sq := if j ≤ N then ⟨0, 1, ((N - j : Nat) : Int), 9⟩ else ⟨0, -1, 0, 9⟩
structure TB (I : ByteArray) (N t j : Nat) (T : Bt) : Prop where
  b : BI T 40 t (2 + j)
  k : stQ T.C.now = tyQ N j
  s1 : sv T 1 = (10, I, 0)
  s0 : sv T 0 = (9, old3, 0)
  base : T.C.base = 0
  half : T.C.half = 4
  r : T.r = 10
theorem TB.re {I : ByteArray} {N t j : Nat} (h : TB I N t j T) (ht : t + 1001 < 1000000) : TB I N (t + 1) j (reT T) :=
  ⟨h.b.re ht, h.k, (sv_re h.b rfl).trans h.s1, (sv_re h.b rfl).trans h.s0, h.base, h.half, h.r⟩
theorem tyQ_ok {N j : Nat} (hN : N ≤ 8) : SqOK (tyQ N j) := by
  unfold tyQ SqOK
  split
  · simp only; omega
  · decide
theorem kp_lay {k : Sq} : (kpR k T).2.C.base = T.C.base ∧ (kpR k T).2.C.half = T.C.half := by
  have hc : ∀ p, coR (kpC k T.C) T.d = p → p.2.1.base = T.C.base ∧ p.2.1.half = T.C.half := by
    intro p hp
    subst hp
    unfold coR
    split
    · exact ⟨rfl, rfl⟩
    split
    · exact ⟨rfl, rfl⟩
    split <;> exact ⟨rfl, rfl⟩
  have := hc _ rfl
  unfold kpR kpF
  simp only
  split <;> exact this
theorem bo_lay : (boR T).2.C.base = T.C.base ∧ (boR T).2.C.half = T.C.half := by
  have fin : ∀ {k : Sq} {T : Bt}, (finR k T).2.C = T.C := by
    intro k T
    unfold finR
    simp only
    split
    · rfl
    split <;> rfl
  have stp : (stopT T).C = T.C := rfl
  unfold boR
  split
  · exact ⟨rfl, rfl⟩
  split
  · unfold tryR
    simp only
    have hk := @kp_lay (stopT T) (nxQ (stQ T.C.now) (Sl.srT (stopT T).bs (stopT T).r (stQ T.C.now).tr (stopT T).d))
    split
    · exact hk
    split
    · exact hk
    · rw [fin]; exact hk
  · rw [fin]; exact ⟨rfl, rfl⟩
theorem TB.step {I : ByteArray} {N t j : Nat} (h : TB I N t j T) (ht : t + 1133 < 1000000) (hN : 1 ≤ N ∧ N ≤ 8) (hj : j ≤ N + 3) :
    ∃ T', boR T = ((if j < N then ((10, I, 0) : RdV) else (9, old3, 0)), T') ∧ TB I N (t + 133) (j + 1) T' ∧ (N ≤ j → T'.on = true ∧ T'.slot = 0) := by
  have hl := @bo_lay T
  by_cases c1 : j < N
  · have hk : tyQ N j = ⟨0, 1, ((N - j : Nat) : Int), 9⟩ := if_pos (by omega)
    obtain ⟨T', p1, p2, p3, p4, p5, p6⟩ := boot_fine (v := 10) (I := I) h.b ht (by omega) (h.k.trans hk) (hk ▸ tyQ_ok (by omega)) (by simp) (by simp) (by simp only; omega) h.s1 (by simp)
    rw [p1] at hl
    refine ⟨T', by rw [p1, if_pos c1], ⟨p2, ?_, (p4 1 rfl).trans h.s1, (p4 0 rfl).trans h.s0, hl.1.trans h.base, hl.2.trans h.half, p6.r.trans h.r⟩, fun hc => absurd hc (by omega)⟩
    rw [p3, show tyQ N (j + 1) = ⟨0, 1, ((N - (j + 1) : Nat) : Int), 9⟩ from if_pos (by omega)]
    simp only [Sq.mk.injEq, true_and, and_true]; omega
  by_cases c2 : j = N
  · have hk : tyQ N j = ⟨0, 1, 0, 9⟩ := by rw [c2]; unfold tyQ; rw [if_pos (Nat.le_refl _), Nat.sub_self]; rfl
    obtain ⟨T', p1, p2, p3, p4, p5, p6⟩ := boot_spent (v := 9) (I := old3) h.b ht (by omega) (h.k.trans hk) (by decide) (by decide) (by decide) rfl h.s0 (by decide)
    rw [p1] at hl
    refine ⟨T', by rw [p1, if_neg c1], ⟨p2, ?_, (p4 1 rfl).trans h.s1, (p4 0 rfl).trans h.s0, hl.1.trans h.base, hl.2.trans h.half, p6.r.trans h.r⟩, fun _ => ⟨p5.1, p5.2.1⟩⟩
    rw [p3, show tyQ N (j + 1) = ⟨0, -1, 0, 9⟩ from if_neg (by omega)]
    rfl
  · have hk : tyQ N j = ⟨0, -1, 0, 9⟩ := if_neg (by omega)
    have p1 := boot_plain (v := 9) (I := old3) h.b (h.k.trans hk) (by decide) (by decide) h.s0 (by decide)
    refine ⟨_, by rw [p1, if_neg c1], ⟨(h.b.mono (Nat.le_add_right _ _) (by omega) (by omega)).stop.run, ?_, h.s1, h.s0, h.base, h.half, h.r⟩, fun _ => ⟨rfl, rfl⟩⟩
    show stQ T.C.now = _
    rw [h.k, hk, show tyQ N (j + 1) = ⟨0, -1, 0, 9⟩ from if_neg (by omega)]
end
section
/- Boot: an image that is never confirmed. -/
set_option linter.unusedVariables false
set_option linter.unusedSimpArgs false
set_option maxRecDepth 100000
open Go.Proofs
variable {H : Hp} {n : Nat} {x : Nat → Option SO} {i q s D M W a b c : Nat} {d d' : Fd} {C C' : Ce} {T : Bt}
theorem pr_lay {ver : Int} {I : ByteArray} : (prR ver I T).2.C.base = T.C.base ∧ (prR ver I T).2.C.half = T.C.half := by
  unfold prR
  split
  · exact ⟨rfl, rfl⟩
  split
  · exact ⟨rfl, rfl⟩
  · exact @kp_lay (wtB 0 ver I T).2 _
theorem in_lay {ver tries : Int} {I : ByteArray} : (inR ver I tries T).2.C.base = T.C.base ∧ (inR ver I tries T).2.C.half = T.C.half := by
  have hl : ∀ {k : Sq} {T : Bt}, (tlR k ver I tries T).2.C.base = T.C.base ∧ (tlR k ver I tries T).2.C.half = T.C.half := by
    intro k T
    unfold tlR
    simp only
    split
    · exact ⟨rfl, rfl⟩
    · exact @kp_lay (wtB (1 - k.cf) ver I T).2 _
  have hh : ∀ {o : Int}, (haltT o T).C = T.C := by intro o; unfold haltT; split <;> rfl
  unfold inR
  split
  · exact ⟨rfl, rfl⟩
  simp only
  split
  · have := @hl (stQ T.C.now) (haltT (1 - (stQ T.C.now).cf) T)
    rw [hh] at this; exact this
  have hk := @kp_lay (haltT (1 - (stQ T.C.now).cf) T) (sdQ (stQ T.C.now))
  rw [hh] at hk
  split
  · exact hk
  · have := @hl (stQ T.C.now) (kpR (sdQ (stQ T.C.now)) (haltT (1 - (stQ T.C.now).cf) T)).2
    rw [hk.1, hk.2] at this; exact this
set_option maxHeartbeats 8000000 in
theorem triesW {tn : Nat} {op : Int} {I0 : ByteArray} (htn : tn ≤ 255) (hx : NoX x) : fnVC CT mBootTries [.v (.int .u8 tn), .v (.int .u16 op), .v (.string I0)] ⟨[], x⟩ 1 fun v H' n' => Sub 1 ⟨[(0, .v (.bool true))], ⟨[], x⟩, 1⟩ ⟨[(0, v)], H', n'⟩ := by
  have w1 : IntKind.i64.wrap ((tn : Nat) : Int) = (tn : Int) := wrap_i64 (by omega) (by omega)
  have w2 : ((tn : Nat) : Int).tmod 8 = ((tn % 8 : Nat) : Int) := rfl
  have w3 : IntKind.i64.wrap (1 + ((tn % 8 : Nat) : Int)) = ((1 + tn % 8 : Nat) : Int) := by rw [wrap_i64 (by omega) (by omega)]; omega
  unfold mBootTries
  simp -implicitDefEqProofs only [↓fnVC, initTm]
  simp -implicitDefEqProofs only [go_sem]
  refine at_call tboots (bootsS hx) ?_
  simp -implicitDefEqProofs only [go_sem, w1, w2, w3]
  have hz : (I0.extract 0 (min (I0.size : Int) 500).toNat).size ≤ 500 := by rw [ByteArray.size_extract]; omega
  have hz3 : (#[110, 101, 119] : Array UInt8).size = 3 := rfl
  refine ⟨⟨by omega, by omega⟩, by rw [hz3]; omega, ?_⟩
  have hsz : (⟨#[110, 101, 119]⟩ ++ I0.extract 0 (min (I0.size : Int) 500).toNat : ByteArray).size = 3 + (I0.extract 0 (min (I0.size : Int) 500).toNat).size := by rw [ByteArray.size_append]; rfl
  obtain ⟨I, hI⟩ : ∃ I, (⟨#[110, 101, 119]⟩ ++ I0.extract 0 (min (I0.size : Int) 500).toNat : ByteArray) = I := ⟨_, rfl⟩
  rw [hI] at hsz
  rw [hI]
  obtain ⟨N, hN⟩ : ∃ N, 1 + tn % 8 = N := ⟨_, rfl⟩
  have hN8 : 1 ≤ N ∧ N ≤ 8 := by omega
  rw [hN]
  refine at_call tFNew (nwD (k := 40) (by decide) (by decide) (by decide)) ?_
  unfold devL
  simp -implicitDefEqProofs only [go_sem]
  have hB := BI.new (m := 40) (h := 4) (r := 10) (by decide) (by decide) (by decide) (by decide)
  have hk0 : stQ (opnT 0 4 10 0 1 [] (newD 40)).C.now = nthQ := stQ_nil
  have hr0 : (opnT 0 4 10 0 1 [] (newD 40)).r = 10 := rfl
  have ho0 : (opnT 0 4 10 0 1 [] (newD 40)).on = false := rfl
  have hb0 : (opnT 0 4 10 0 1 [] (newD 40)).C.base = 0 ∧ (opnT 0 4 10 0 1 [] (newD 40)).C.half = 4 := ⟨rfl, rfl⟩
  obtain ⟨T, hT⟩ : ∃ T, opnT 0 4 10 0 1 [] (newD 40) = T := ⟨_, rfl⟩
  rw [hT] at hB hk0 hr0 ho0 hb0
  refine at_call tBOpen (bnwS (i := 1) (a := 2) (b := 3) (c := 4) (m := 40) (h := 4) (r := 10) ⟨by rfl, by rfl, by rfl, by rfl, by decide⟩ (by decide) (by decide) (by decide) (by decide) (by decide) hT) ?_
  unfold devL
  simp -implicitDefEqProofs only [go_sem]
  obtain ⟨T1, p1, b1, k1, v1, u1, l1⟩ := prov_good (v := 9) (I := old3) hB (by decide) (by decide) (by rw [hk0]; decide) (by rw [hr0]; exact ⟨by decide, by decide, by decide, by decide⟩)
  have k1' : stQ T1.C.now = ⟨0, -1, 0, 9⟩ := k1
  have hr1 : T1.r = 10 := by rw [l1.r, hr0]
  have hb1 : T1.C.base = 0 ∧ T1.C.half = 4 := by have := @pr_lay T 9 old3; rw [show prR 9 old3 T = (0, T1) from p1, hb0.1, hb0.2] at this; exact this
  refine at_call tBProvision (provS (T := T) (ver := 9) (I := old3) (i := 5) (q := 6) (s := 7) (D := 1) (a := 2) (b := 3) (c := 4) (M := 8) (W := 9) ⟨by rfl, by rfl, by rfl, by rfl, by rfl, by rfl, by rfl, by rfl, by rfl, by decide, by rfl, by rfl⟩ hB.K (by decide) hx (by decide) p1) ?_
  rw [btF_eq]
  simp -implicitDefEqProofs only [go_sem]
  have p2 : inR 9 I N T1 = (12, T1) := by
    have : itE ⟨0, -1, 0, 9⟩ 9 I N T1.r = 12 := by
      unfold itE; rw [if_neg (by decide), if_neg (by omega), if_neg (by decide), if_pos (by decide)]
    unfold inR; rw [k1', this, if_pos (by decide)]
  refine at_call tBInstall (instS (T := T1) (ver := 9) (I := I) (tries := N) (i := 5) (q := 6) (s := 7) (D := 1) (a := 10) (b := 11) (c := 12) (M := 13) (W := 14) ⟨by rfl, by rfl, by rfl, by rfl, by rfl, by rfl, by rfl, by rfl, by rfl, by decide, by rfl, by rfl⟩ b1.K (by decide) (by have := b1.num; omega) hx (by decide) p2) ?_
  rw [btF_eq]
  simp -implicitDefEqProofs only [go_sem]
  obtain ⟨T2, p3, b2, k2, v2, w2', u2, l2⟩ := inst_good (v := 10) (I := I) (tries := N) b1 (by decide) (by decide) k1' (by decide) (by decide) (by decide) (itE_ok (by decide) (by omega) (by decide) (by decide) (by rw [hr1]; omega)) (if_neg fun h => by rw [u1.1, ho0] at h; cases h.1) (by rw [hr1]; exact ⟨by decide, by omega, by omega, by omega⟩) (by omega)
  have hb2 : T2.C.base = 0 ∧ T2.C.half = 4 := by have := @in_lay T1 10 N I; rw [show inR 10 I N T1 = (0, T2) from p3, hb1.1, hb1.2] at this; exact this
  refine at_call tBInstall (instS (T := T1) (ver := 10) (I := I) (tries := N) (i := 5) (q := 6) (s := 7) (D := 1) (a := 15) (b := 16) (c := 17) (M := 18) (W := 19) ⟨by rfl, by rfl, by rfl, by rfl, by rfl, by rfl, by rfl, by rfl, by rfl, by decide, by rfl, by rfl⟩ b1.K (by decide) (by have := b1.num; omega) hx (by decide) p3) ?_
  rw [btF_eq]
  have w4 : IntKind.i64.wrap ((N : Int) + 3) = ((N + 3 : Nat) : Int) := by rw [wrap_i64 (by omega) (by omega)]; omega
  simp -implicitDefEqProofs only [go_sem, w4]
  have hTB : TB I N 600 0 T2 := ⟨b2.mono (by decide) (by decide) (by decide), by rw [k2]; unfold tyQ; rw [if_pos (Nat.zero_le _)]; rfl, v2, w2'.trans v1, hb2.1, hb2.2, by rw [l2.r, hr1]⟩
  refine loop_fam (fun (y : Nat × Bt) => y.1 ≤ N + 3 ∧ TB I N (600 + 200 * y.1) y.1 y.2 ∧ (N < y.1 → y.2.on = true ∧ y.2.slot = 0)) (fun y => ⟨[(1, .v (.int .u16 op)), (2, .v (.string I)), (7, .v (.int .i64 N)), (8, .ptr 1 0), (10, .ptr 5 0), (63, .v (.int .i64 (N + 3 : Nat))), (64, .v (.int .i64 y.1))], ⟨[(1, some ⟨true, devB y.2.d 2 3 4⟩), (2, some ⟨true, secB y.2.d.seen⟩), (3, some ⟨true, secB y.2.d.safe⟩), (4, some ⟨true, .pl (prow y.2.d.pend)⟩), (5, some ⟨true, btB y.2 6 7⟩), (6, some ⟨true, cellB y.2.C 1 8 9⟩), (7, some ⟨true, Sl.slB 1 y.2.bs y.2.r⟩), (8, some ⟨true, .mp (.map y.2.C.now)⟩), (9, some ⟨true, .mp (.map y.2.C.was)⟩)], x⟩, 10⟩) (fun y => N + 3 - y.1) (0, T2) ⟨Nat.zero_le _, hTB, fun h => absurd h (Nat.not_lt_zero _)⟩ ?_ ?_
  · unfold btB
    refine sub_mk [(2, 20), (3, 21), (4, 22), (8, 23), (9, 24)] rfl rfl rfl ?_
    simp only [tmSub, hpSub, objSub, eqTm, eqHp, rn, lk, SV.ren, SV.renC, SV.renB, SV.renA, ren_ints, ren_strs, ren_pl, ren_svs, SV.v.injEq, Value.int.injEq, Body.ints.injEq, SV.ptr.injEq, SV.sl.injEq, Value.string.injEq, Value.bool.injEq, List.map_cons, List.map_nil, forall_const, Nat.reduceLT, Nat.lt_add_one, imp_self, true_and, and_true, and_self, ob_some, get_mk, lk_cons, ↓reduceIte, Nat.reduceEqDiff, ne_eq, not_true_eq_false, not_false_eq_true, Nat.one_ne_zero, Nat.zero_ne_one, Nat.succ_ne_self, Nat.reduceAdd, Bool.false_eq_true, false_implies, implies_true, reduceCtorEq]
    repeat' (first | rfl | apply And.intro)
  · rintro ⟨j, Tj⟩ ⟨hj, hTj, hrun⟩
    simp only at hj hTj hrun
    simp -implicitDefEqProofs only [go_sem]
    refine condK_bb (fun e => ?_) (fun e => ?_)
    · have c1 : j < N + 3 := by have := of_decide_eq_true e; omega
      have w5 : IntKind.i64.wrap ((j : Int) + 1) = ((j + 1 : Nat) : Int) := by rw [wrap_i64 (by omega) (by omega)]; omega
      simp -implicitDefEqProofs only [go_sem, e]
      have r1 : seq I I = true := seq_self _
      have r2 : ((10 : Nat) : Int) = 10 := rfl
      have r3 : ((9 : Nat) : Int) = 9 := rfl
      have r4 : seq old3 ⟨#[111, 108, 100]⟩ = true := seq_self _
      refine ⟨by omega, ?_⟩
      cases ez : decide (iand .u16 (ishr .u16 op j) 1 = 0) with
      | true =>
        simp -implicitDefEqProofs only [go_sem, ez]
        obtain ⟨T2', q1, q2, q3⟩ := hTj.step (by omega) hN8 (by omega)
        have hq2 : TB I N (600 + 200 * (j + 1)) (j + 1) T2' := ⟨q2.b.mono (by omega) (by omega) (Nat.le_refl _), q2.k, q2.s1, q2.s0, q2.base, q2.half, q2.r⟩
        by_cases c2 : j < N
        · have g1 : decide ((j : Int) < (N : Int)) = true := decide_eq_true (by omega)
          have g2 : decide ((j : Int) ≥ (N : Int)) = false := decide_eq_false (by omega)
          rw [if_pos c2] at q1
          refine at_call tBBoot (bootS (T := Tj) (i := 5) (q := 6) (s := 7) (D := 1) (a := 2) (b := 3) (c := 4) (M := 8) (W := 9) ⟨by rfl, by rfl, by rfl, by rfl, by rfl, by rfl, by rfl, by rfl, by rfl, by decide, by rfl, by rfl⟩ hTj.b.K (by omega) (by have := hTj.b.num; omega) hx (by decide) q1) ?_
          rw [btF_eq]
          unfold Sl.rV
          simp -implicitDefEqProofs only [go_sem, g1, g2, r1, r2, r3, w5]
          refine kLoop_mk ((j + 1, T2') : Nat × Bt) ⟨c1, hq2, fun hc => absurd hc (by simp only; omega)⟩ (by simp only; omega) ?_
          unfold btB
          refine sub_mk [(2, 10), (3, 11), (4, 12), (8, 13), (9, 14)] rfl rfl rfl ?_
          simp only [tmSub, hpSub, objSub, eqTm, eqHp, rn, lk, SV.ren, SV.renC, SV.renB, SV.renA, ren_ints, ren_strs, ren_pl, ren_svs, SV.v.injEq, Value.int.injEq, Body.ints.injEq, SV.ptr.injEq, SV.sl.injEq, Value.string.injEq, Value.bool.injEq, List.map_cons, List.map_nil, forall_const, Nat.reduceLT, Nat.lt_add_one, imp_self, true_and, and_true, and_self, ob_some, get_mk, lk_cons, ↓reduceIte, Nat.reduceEqDiff, ne_eq, not_true_eq_false, not_false_eq_true, Nat.one_ne_zero, Nat.zero_ne_one, Nat.succ_ne_self, Nat.reduceAdd, Bool.false_eq_true, false_implies, implies_true, reduceCtorEq]
          repeat' (first | rfl | apply And.intro)
        · have g1 : decide ((j : Int) < (N : Int)) = false := decide_eq_false (by omega)
          have g2 : decide ((j : Int) ≥ (N : Int)) = true := decide_eq_true (by omega)
          rw [if_neg c2] at q1
          refine at_call tBBoot (bootS (T := Tj) (i := 5) (q := 6) (s := 7) (D := 1) (a := 2) (b := 3) (c := 4) (M := 8) (W := 9) ⟨by rfl, by rfl, by rfl, by rfl, by rfl, by rfl, by rfl, by rfl, by rfl, by decide, by rfl, by rfl⟩ hTj.b.K (by omega) (by have := hTj.b.num; omega) hx (by decide) q1) ?_
          rw [btF_eq]
          unfold Sl.rV
          simp -implicitDefEqProofs only [go_sem, g1, g2, r1, r2, r3, r4, w5]
          refine kLoop_mk ((j + 1, T2') : Nat × Bt) ⟨c1, hq2, fun _ => q3 (by omega)⟩ (by simp only; omega) ?_
          unfold btB
          refine sub_mk [(2, 10), (3, 11), (4, 12), (8, 13), (9, 14)] rfl rfl rfl ?_
          simp only [tmSub, hpSub, objSub, eqTm, eqHp, rn, lk, SV.ren, SV.renC, SV.renB, SV.renA, ren_ints, ren_strs, ren_pl, ren_svs, SV.v.injEq, Value.int.injEq, Body.ints.injEq, SV.ptr.injEq, SV.sl.injEq, Value.string.injEq, Value.bool.injEq, List.map_cons, List.map_nil, forall_const, Nat.reduceLT, Nat.lt_add_one, imp_self, true_and, and_true, and_self, ob_some, get_mk, lk_cons, ↓reduceIte, Nat.reduceEqDiff, ne_eq, not_true_eq_false, not_false_eq_true, Nat.one_ne_zero, Nat.zero_ne_one, Nat.succ_ne_self, Nat.reduceAdd, Bool.false_eq_true, false_implies, implies_true, reduceCtorEq]
          repeat' (first | rfl | apply And.intro)
      | false =>
        simp -implicitDefEqProofs only [go_sem, ez]
        refine at_call tFCrash (crW (i := 1) (a := 2) (b := 3) (c := 4) (r := 0) (o := 0) (m := 0) (row := []) (d := Tj.d) ⟨by rfl, by rfl, by rfl, by rfl, by decide⟩ hTj.b.K.P.ok (by rw [hTj.b.K.P.len]; decide) (by decide) (by rfl) (by decide) (by decide) (show crD Tj.d (([].drop 0).take 0) = crD Tj.d [] from rfl)) ?_
        simp -implicitDefEqProofs only [go_sem]
        have hre := hTj.re (by omega)
        obtain ⟨T', hT'⟩ : ∃ T', reT Tj = T' := ⟨_, rfl⟩
        rw [hT'] at hre
        refine at_call tBOpen (reS (i := 1) (a := 10) (b := 3) (c := 11) hTj.b ⟨by rfl, by rfl, by rfl, by rfl, by decide⟩ hTj.base hTj.half hTj.r (by decide) (by decide) hT') ?_
        unfold devL
        simp -implicitDefEqProofs only [go_sem]
        obtain ⟨T2', q1, q2, q3⟩ := hre.step (by omega) hN8 (by omega)
        have hq2 : TB I N (600 + 200 * (j + 1)) (j + 1) T2' := ⟨q2.b.mono (by omega) (by omega) (Nat.le_refl _), q2.k, q2.s1, q2.s0, q2.base, q2.half, q2.r⟩
        by_cases c2 : j < N
        · have g1 : decide ((j : Int) < (N : Int)) = true := decide_eq_true (by omega)
          have g2 : decide ((j : Int) ≥ (N : Int)) = false := decide_eq_false (by omega)
          rw [if_pos c2] at q1
          refine at_call tBBoot (bootS (T := T') (i := 12) (q := 13) (s := 14) (D := 1) (a := 10) (b := 3) (c := 11) (M := 15) (W := 16) ⟨by rfl, by rfl, by rfl, by rfl, by rfl, by rfl, by rfl, by rfl, by rfl, by decide, by rfl, by rfl⟩ hre.b.K (by omega) (by have := hre.b.num; omega) hx (by decide) q1) ?_
          rw [btF_eq]
          unfold Sl.rV
          simp -implicitDefEqProofs only [go_sem, g1, g2, r1, r2, r3, w5]
          refine kLoop_mk ((j + 1, T2') : Nat × Bt) ⟨c1, hq2, fun hc => absurd hc (by simp only; omega)⟩ (by simp only; omega) ?_
          unfold btB
          refine sub_mk [(2, 17), (3, 18), (4, 19), (5, 12), (6, 13), (7, 14), (8, 20), (9, 21)] rfl rfl rfl ?_
          simp only [tmSub, hpSub, objSub, eqTm, eqHp, rn, lk, SV.ren, SV.renC, SV.renB, SV.renA, ren_ints, ren_strs, ren_pl, ren_svs, SV.v.injEq, Value.int.injEq, Body.ints.injEq, SV.ptr.injEq, SV.sl.injEq, Value.string.injEq, Value.bool.injEq, List.map_cons, List.map_nil, forall_const, Nat.reduceLT, Nat.lt_add_one, imp_self, true_and, and_true, and_self, ob_some, get_mk, lk_cons, ↓reduceIte, Nat.reduceEqDiff, ne_eq, not_true_eq_false, not_false_eq_true, Nat.one_ne_zero, Nat.zero_ne_one, Nat.succ_ne_self, Nat.reduceAdd, Bool.false_eq_true, false_implies, implies_true, reduceCtorEq]
          repeat' (first | rfl | apply And.intro)
        · have g1 : decide ((j : Int) < (N : Int)) = false := decide_eq_false (by omega)
          have g2 : decide ((j : Int) ≥ (N : Int)) = true := decide_eq_true (by omega)
          rw [if_neg c2] at q1
          refine at_call tBBoot (bootS (T := T') (i := 12) (q := 13) (s := 14) (D := 1) (a := 10) (b := 3) (c := 11) (M := 15) (W := 16) ⟨by rfl, by rfl, by rfl, by rfl, by rfl, by rfl, by rfl, by rfl, by rfl, by decide, by rfl, by rfl⟩ hre.b.K (by omega) (by have := hre.b.num; omega) hx (by decide) q1) ?_
          rw [btF_eq]
          unfold Sl.rV
          simp -implicitDefEqProofs only [go_sem, g1, g2, r1, r2, r3, r4, w5]
          refine kLoop_mk ((j + 1, T2') : Nat × Bt) ⟨c1, hq2, fun _ => q3 (by omega)⟩ (by simp only; omega) ?_
          unfold btB
          refine sub_mk [(2, 17), (3, 18), (4, 19), (5, 12), (6, 13), (7, 14), (8, 20), (9, 21)] rfl rfl rfl ?_
          simp only [tmSub, hpSub, objSub, eqTm, eqHp, rn, lk, SV.ren, SV.renC, SV.renB, SV.renA, ren_ints, ren_strs, ren_pl, ren_svs, SV.v.injEq, Value.int.injEq, Body.ints.injEq, SV.ptr.injEq, SV.sl.injEq, Value.string.injEq, Value.bool.injEq, List.map_cons, List.map_nil, forall_const, Nat.reduceLT, Nat.lt_add_one, imp_self, true_and, and_true, and_self, ob_some, get_mk, lk_cons, ↓reduceIte, Nat.reduceEqDiff, ne_eq, not_true_eq_false, not_false_eq_true, Nat.one_ne_zero, Nat.zero_ne_one, Nat.succ_ne_self, Nat.reduceAdd, Bool.false_eq_true, false_implies, implies_true, reduceCtorEq]
          repeat' (first | rfl | apply And.intro)
    · have c1 : j = N + 3 := by have := of_decide_eq_false e; omega
      subst c1
      obtain ⟨o1, o2⟩ := hrun (by omega)
      have kf : stQ Tj.C.now = ⟨0, -1, 0, 9⟩ := by rw [hTj.k]; unfold tyQ; rw [if_neg (by omega)]
      have p9 : cfR Tj = (0, Tj) := by unfold cfR; rw [o1, o2, kf, if_neg (by decide), if_pos (by decide)]
      simp -implicitDefEqProofs only [go_sem, e]
      refine at_call tBState (stateS' (T := Tj) (i := 5) (q := 6) (s := 7) (D := 1) (a := 2) (b := 3) (c := 4) (M := 8) (W := 9) ⟨by rfl, by rfl, by rfl, by rfl, by rfl, by rfl, by rfl, by rfl, by rfl, by decide, by rfl, by rfl⟩ hTj.b.K.C.now hx kf) ?_
      unfold sqV sqL
      simp -implicitDefEqProofs only [go_sem, splice_zero, splice_succ, List.drop_succ_cons, List.drop_zero, List.drop_nil, List.cons_append, List.nil_append, List.take_succ_cons, List.take_zero, List.length_cons, List.length_nil]
      refine at_call tBConfirm (confS (T := Tj) (i := 5) (q := 6) (s := 7) (D := 1) (a := 2) (b := 3) (c := 4) (M := 8) (W := 9) ⟨by rfl, by rfl, by rfl, by rfl, by rfl, by rfl, by rfl, by rfl, by rfl, by decide, by rfl, by rfl⟩ hTj.b.K hx (by decide) p9) ?_
      rw [btF_eq]
      simp -implicitDefEqProofs only [go_sem]
      refine sub_mk [] rfl rfl rfl ?_
      simp only [tmSub, hpSub, objSub, eqTm, eqHp, rn, lk, SV.ren, SV.renC, SV.renB, SV.renA, ren_ints, ren_strs, ren_pl, ren_svs, SV.v.injEq, Value.int.injEq, Body.ints.injEq, SV.ptr.injEq, SV.sl.injEq, Value.string.injEq, Value.bool.injEq, List.map_cons, List.map_nil, forall_const, Nat.reduceLT, Nat.lt_add_one, imp_self, true_and, and_true, and_self, ob_some, get_mk, lk_cons, ↓reduceIte, Nat.reduceEqDiff, ne_eq, not_true_eq_false, not_false_eq_true, Nat.one_ne_zero, Nat.zero_ne_one, Nat.succ_ne_self, Nat.reduceAdd, Bool.false_eq_true, false_implies, implies_true, reduceCtorEq]
      repeat' (first | rfl | apply And.intro)
end
section
/- Boot: the package's variable at a law's door. -/
set_option linter.unusedVariables false
set_option linter.unusedSimpArgs false
set_option maxRecDepth 100000
open Go.Proofs Go.ChangeShapes Go.WideShapes Go.ChangeAt Go.RowKit
def nthA : Array Value := #[.int .i64 (-1), .int .i64 (-1), .int .i64 0, .int .i64 0]
theorem nothing_at {W : World} (h : laidMetH Tryz.prog [("ostler/boot.nothing", YtjjnmdpppcmmfaaGreatDoor.Rows.laid_ostler_boot_nothing)] W) : ∃ T fr, W.heap[0]? = some (.cells nthA T fr) := by
  have h' : laidMet Tryz.prog [("ostler/boot.nothing", YtjjnmdpppcmmfaaGreatDoor.Rows.laid_ostler_boot_nothing)] W := h
  obtain ⟨ps, ⟨g', t', cs, fuel, p, q, hg', ht', hvar, hd, _, _⟩, _⟩ := h'
  have hg : Tryz.prog.globalNamed "ostler/boot.nothing" = some 0 := by kernel_rfl
  have hty : (Tryz.prog.globals[0]?).map (·.type) = some 59 := by kernel_rfl
  obtain rfl := Option.some.inj (hg.symm.trans hg')
  obtain rfl := Option.some.inj (hty.symm.trans ht')
  obtain ⟨xs, n, rfl, hx, hl, hxl, hf⟩ := DataW.trod_struct Tryz.underlying59 hd
  have h0 := hf 0 { name := "Confirmed", type := 3, offset := 0, embedded := false, tag := "", pkgPath := "", byteOffset := 0 } rfl
  have h1 := hf 1 { name := "Tried", type := 3, offset := 1, embedded := false, tag := "", pkgPath := "", byteOffset := 8 } rfl
  have h2 := hf 2 { name := "Left", type := 3, offset := 2, embedded := false, tag := "", pkgPath := "", byteOffset := 16 } rfl
  have h3 := hf 3 { name := "Floor", type := 3, offset := 3, embedded := false, tag := "", pkgPath := "", byteOffset := 24 } rfl
  have c3 : Tryz.prog.cellsOf 3 = 1 := by kernel_rfl
  have c59 : Tryz.prog.cellsOf 59 = 4 := by kernel_rfl
  rw [c59] at hl
  have hcs : cs = nthA := by
    obtain ⟨l⟩ := cs
    simp only at hl h0 h1 h2 h3
    match l, hl with
    | [a, b, c, d], _ =>
      match xs, hxl with
      | [y0, y1, y2, y3], _ =>
        simp only [c3, List.drop_succ_cons, List.drop_zero, List.take_succ_cons, List.take_zero, List.getElem?_cons_succ, List.getElem?_cons_zero] at h0 h1 h2 h3
        obtain ⟨z0, e0, rfl, _⟩ := DataW.trod_int Tryz.underlying3 h0
        obtain ⟨z1, e1, rfl, _⟩ := DataW.trod_int Tryz.underlying3 h1
        obtain ⟨z2, e2, rfl, _⟩ := DataW.trod_int Tryz.underlying3 h2
        obtain ⟨z3, e3, rfl, _⟩ := DataW.trod_int Tryz.underlying3 h3
        simp only [List.cons.injEq, and_true] at e0 e1 e2 e3
        subst e0; subst e1; subst e2; subst e3
        simp [YtjjnmdpppcmmfaaGreatDoor.Rows.laid_ostler_boot_nothing] at hx
        obtain ⟨⟨q0, q1, q2, q3⟩, _⟩ := hx
        subst q0; subst q1; subst q2; subst q3
        rfl
  subst hcs
  unfold World.var? at hvar
  rw [hg] at hvar
  simp only [Option.bind_some] at hvar
  split at hvar
  · rename_i c T fr hh
    cases hvar
    exact ⟨T, fr, hh⟩
  · cases hvar
def ρb (i : Nat) : Loc := if i = 4001003 then ⟨some 0, 0, 4, false, none⟩ else ρ00 i
def xb (i : Nat) : Option SO := if i = 4001003 then some ⟨false, .sv (sqL nthQ)⟩ else none
theorem NoX_b : NoX xb := rfl
theorem ρb_sh {i : Nat} : (ρb i).sh = none := by
  unfold ρb; split
  · rfl
  · exact ρ00_sh
theorem hrel_boot {W : World} (h : ∃ T fr, W.heap[0]? = some (.cells nthA T fr)) : HRel (· < W.heap.size) W ρb 1 ⟨[], xb⟩ W := by
  obtain ⟨T, fr, h⟩ := h
  have hx : ∀ i s, Hp.get ⟨[], xb⟩ i = some s → i = 4001003 ∧ s = ⟨false, .sv (sqL nthQ)⟩ := fun i s hs => by
    have hs' : xb i = some s := hs
    unfold xb at hs'
    split at hs'
    · rename_i e; cases hs'; exact ⟨e, rfl⟩
    · cases hs'
  have hsz : 0 < W.heap.size := by
    rw [Array.getElem?_eq_some_iff] at h
    exact h.1
  exact { os := rfl, tape := rfl, output := rfl, size := Nat.le_refl _, keep := fun _ _ => rfl, old := fun _ h => h, nil := ⟨rfl, rfl⟩, pos := by omega
          obj := fun i s hs => by
            obtain ⟨rfl, rfl⟩ := hx i s hs
            refine ⟨⟨nthA, T, fr, h, by decide, by decide, fun j y hj => ?_, fun e => by cases e⟩, fun _ => rfl⟩
            match j, hj with
            | 0, hj => cases hj; exact ⟨_, rfl, rfl⟩
            | 1, hj => cases hj; exact ⟨_, rfl, rfl⟩
            | 2, hj => cases hj; exact ⟨_, rfl, rfl⟩
            | 3, hj => cases hj; exact ⟨_, rfl, rfl⟩
            | j + 4, hj => cases hj
          lt := fun i s hs => by obtain ⟨rfl, rfl⟩ := hx i s hs; exact ⟨rfl, rfl⟩
          own := fun i s b hs hw => by obtain ⟨rfl, rfl⟩ := hx i s hs; cases hw
          inj := fun i j s s' b _ hs _ hw => by obtain ⟨rfl, rfl⟩ := hx i s hs; cases hw
          live := fun i s b hs hb => by
            obtain ⟨rfl, rfl⟩ := hx i s hs
            have : (0 : Nat) = b := Option.some.inj hb
            omega
          xok := fun i s hs => by obtain ⟨rfl, rfl⟩ := hx i s hs; exact ⟨by decide, rfl, rfl, rfl⟩
          shp := fun i T c b hb => (by rw [ρb_sh] at hb; cases hb), shk := ShKeep.refl _
          gl := fun g hg => by
            have hg0 : g = 0 := of_decide_eq_true hg
            subst hg0
            exact ⟨rfl, rfl⟩ }
end
end Go.Sx