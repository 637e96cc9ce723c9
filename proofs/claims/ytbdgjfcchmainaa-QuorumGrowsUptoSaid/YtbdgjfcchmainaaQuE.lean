/- Signatures: right ones, spoilt ones, under other names. -/
import Derived.Test.YtbdgjfcchmainaaQuD
import Derived.Test.YtbdgjfcchmainaaRows
import Derived.Test.YtbdgjfcchmainaaSxC
import Derived.Deep.Slices

set_option linter.unusedVariables false
set_option linter.unusedSimpArgs false
set_option maxRecDepth 100000
namespace Go.Sx
attribute [local go_sem ↓] bind_mk intsB_mk strsB_mk svB_mk fnVC ob_some vc_skip vc_exit vc_ret vc_seq vc_block kSeq_normal kSeq_exit kSeq_ret kBlock_normal kBlock_exit kBlock_ret vc_reg vc_regD vc_cond condK_true condK_false vc_loop kLoop_exit kLoop_ret kRoll_normal kRoll_exit kRoll_ret vcOps_nil vcOps_cons gd_bool gd_undef put_some put_none vcT_fin vcT_pure vcT_act vcT_acts vcT_stop stab_none stab_some stabM_nil stabM_cons stabO_ld stabO_ldn stabO_slP stabO_b2s fldOf_ai fldOf_agg fldOf_ait fldOf_aggt intsOf_nil intsOf_cons strsOf_nil strsOf_cons c_omap ob_if lk_nil lk_cons ev_t ev_k z_mov z_pick z_bin z_binA z_binB z_binP z_un z_r2s z_conv z_s2b z_b2s z_mkM z_luM z_upM z_lenM lenMk_mp lenMk_nil plsOf_v z_delM asM_so plV_v plV_agg mpOf_mp mpOf_nil mpUp_mp asM_mp luV_ok luV_v z_allocT aggOf_mk z_boxT z_alloc z_bld z_bldI z_rowI z_rowS z_ld z_ldn z_st z_stn asN_ptr asN_fn z_nilck z_fld z_fadr z_idxA z_idxP z_idxS z_idxV z_slS z_slL z_slP z_mk z_lenS z_lenL z_app appC_ints appC_pl appC_sv appC_strs isS_strs loose_ints loose_pl loose_sv z_slM z_callv callvK_fn callvK_f callvK_yl vc_rangeF rfEnd_eq rfGo_none rfGo_ret rfGo_exit yGo_mk yEnd_n yEnd_r yEnd_e yRdy_mk yMid_n putPs_nil putPs_cons leaf_v leaf_ptr leaf_sl leaf_yl leaf_mp z_appS z_appST z_appZ z_cpyS z_mkfn reps_int reps_str z_rowV z_slnil nilK_zero z_cpy z_call asT_tup z_extT z_box boxOf_ai boxOf_agg boxOf_int boxOf_str boxOf_bool boxOf_ptr boxOf_sl sbin_int sbin_str sbinA_mk ae_nil ae_int ae_str sbinB_mk sbinP_nn sbinP_pn sbinP_np i_add i_sub i_mul i_quo i_rem i_and i_or i_xor i_andNot i_shl i_shr i_eql i_neq i_lss i_leq i_gtr i_geq st_add st_eql st_neq st_lss st_leq st_gtr st_geq bo_eql bo_neq pt_eql pt_neq un_neg un_xor un_not asI_mk asB_mk asS_mk asP_mk asSl_mk asBy_mk bnd_none bnd_some get_mk hput_mk hdel_mk kill_eq wrOf_eq rowOf_eq rsvs_0 rsvs_1 rsvs_2 rsvs_3 rsv_t rsv_c1 rsv_cn nt_v nt_ptr nt_sl nt_agg nt_ai get_ints get_strs get_pl get_sv getN_ints getN_sv set_ints set_strs set_sv setN_ints setN_sv part_ints part_strs part_sv cat_ints cat_strs cat_sv over_ints over_strs over_sv ones_ints ones_strs evs_nil evs_cons condK_eqt condK_eqf det_callP V_ns V_nn V_gs V_gn obC_mk fresh_ev freshT_ev freshR_ev setN_plagg setN_intsv setN_svai setN_svagg over_intsv set_pl setN_pl setN_plai getN_pl getN_strs part_pl cat_pl over_pl over_plints z_mm
attribute [local go_sem] initTm ne_eq not_true_eq_false not_false_eq_true true_and and_true List.length_cons List.length_nil Int.toNat_natCast Nat.add_zero Nat.zero_add Nat.mul_one List.getElem?_cons_zero List.drop_zero List.take_length List.take_succ_cons List.take_zero List.take_nil List.drop_succ_cons Option.map_some Nat.le_refl implies_true List.getElem?_cons_succ decide_true decide_false Bool.not_true Bool.not_false beq_self_eq_true Nat.succ_ne_self Nat.one_ne_zero Nat.zero_ne_one vk_mk hk_mk nk_mk tok_eq plsOf_map intsOf_map bodyOf_pl bodyOf_ints bodyOf_strs bodyOf_sv part_aggv part_agg part_ai part_int part_str part_bool part_sl part_ptr part_nil numsOf_map u_int u_str u_bool u_pnil u_sl u_ptr u_oci u_ocs evq_nil evq_cons fillS_nil fillS_cons u_ocb ones_pl cells_sv cells_ints cells_strs cells_pl smms_nil smms_cons smm_min smm_max plsOf_nil List.nil_append List.all_cons List.all_nil Bool.and_self Bool.true_and Bool.and_true zws_len zw_len zi_len List.set_cons_zero List.set_cons_succ List.flatMap_cons List.flatMap_nil List.append_nil
attribute [local go_sem_proc] Nat.reduceEqDiff Nat.reduceAdd Nat.reduceMul Nat.reduceLT Nat.reduceLeDiff Nat.reduceSub Int.reduceToNat Int.reduceLE Int.reduceLT reduceCtorEq Int.reduceEq Int.reduceGT Int.reduceGE Int.reduceNeg
attribute [local go_sem_proc ↓] reduceIte
section
open Go.Proofs
variable {H : Hp} {n : Nat} {x : Nat → Option SO}
structure Bt where
  key : Nat
  named : Nat
  text : ByteArray
  at_ : Nat
  bits : Nat
def Bt.ok (b : Bt) : Prop := b.key ≤ 255 ∧ b.named ≤ 255 ∧ b.text.size ≤ 1000000000 ∧ b.at_ ≤ 65535 ∧ b.bits ≤ 255
def bE : Bt := ⟨0, 0, .empty, 0, 0⟩
def btP (l : List Bt) : List Value := l.flatMap fun b => [.int .u8 b.key, .int .u8 b.named, .string b.text, .int .u16 b.at_, .int .u8 b.bits]
theorem btP_len (l : List Bt) : (btP l).length = 5 * l.length := by
  induction l with
  | nil => rfl
  | cons g l ih => simp only [btP, List.flatMap_cons, List.length_append, List.length_cons, List.length_nil] at *; omega
theorem btP_at : ∀ {l : List Bt} {j : Nat}, j < l.length → ((btP l).drop (5 * j)).take 5 = [.int .u8 (l.getD j bE).key, .int .u8 (l.getD j bE).named, .string (l.getD j bE).text, .int .u16 (l.getD j bE).at_, .int .u8 (l.getD j bE).bits]
  | g :: l, 0, _ => rfl
  | g :: l, j + 1, h => by
    have := btP_at (l := l) (j := j) (by simpa using h)
    show (List.drop (5 * (j + 1)) (.int .u8 g.key :: .int .u8 g.named :: .string g.text :: .int .u16 g.at_ :: .int .u8 g.bits :: btP l)).take 5 = _
    rw [show 5 * (j + 1) = 5 * j + 1 + 1 + 1 + 1 + 1 by omega, List.drop_succ_cons, List.drop_succ_cons, List.drop_succ_cons, List.drop_succ_cons, List.drop_succ_cons]
    exact this
def spo (s : ByteArray) (a b : Nat) : ByteArray := tx ((bts s).set (a % 323) (ixor .u8 ((bts s).getD (a % 323) 0) b))
theorem spo_size {s : ByteArray} {a b : Nat} (h : s.size = 323) : (spo s a b).size = 323 := by unfold spo; rw [tx_sz, List.length_set, bts_len, h]
def sgOf (i : Nat) (b : Bt) : ByteArray × ByteArray := (idB (sd (b.named % 5)), spo (sigB (sd (b.key % 5)) (i % 2) b.text) b.at_ b.bits)
def sgL (l : List Bt) : Nat → Sg
  | 0 => []
  | j + 1 => sgL l j ++ [sgOf j (l.getD j bE)]
theorem sgL_len (l : List Bt) : ∀ j, (sgL l j).length = j
  | 0 => rfl
  | j + 1 => by simp [sgL, sgL_len l j]
theorem sgOf_size (i : Nat) (b : Bt) : (sgOf i b).2.size = 323 := spo_size (sigB_size ..)
theorem sgL_z (l : List Bt) : ∀ j, sgZ (sgL l j)
  | 0 => fun g hg => absurd hg List.not_mem_nil
  | j + 1 => fun g hg => by
    rcases List.mem_append.1 hg with h | h
    · exact sgL_z l j g h
    · rw [List.mem_singleton.1 h]; exact sgOf_size _ _
theorem rg_at {q : Nat} (h : q = 0 ∨ q = 1 ∨ q = 2 ∨ q = 3 ∨ q = 4) : ([SV.ptr 2 0, .ptr 6 0, .ptr 10 0, .ptr 14 0, .ptr 18 0])[q]? = some (.ptr (2 + 4 * q) 0) := by
  rcases h with rfl | rfl | rfl | rfl | rfl <;> rfl
theorem sp5 {a b c d e : SV} {v w y z u : Value} : splice [a, b, c, d, e] 0 (List.map SV.v [v, w, y, z, u]) = [.v v, .v w, .v y, .v z, .v u] := rfl
theorem pl2 {a b : ByteArray} : plsOf [SV.v (.string a), .v (.string b)] = some [.string a, .string b] := rfl
theorem tmod5 (a : Nat) : ((a : Int)).tmod 5 = ((a % 5 : Nat) : Int) := by rw [Int.tmod_eq_emod_of_nonneg (by omega)]; omega
theorem tmod2 (a : Nat) : ((a : Int)).tmod 2 = ((a % 2 : Nat) : Int) := by rw [Int.tmod_eq_emod_of_nonneg (by omega)]; omega
set_option maxHeartbeats 2000000 in
theorem signedW {l : List Bt} {m : Nat} (hm : m ≤ l.length) (hok : ∀ b ∈ l, b.ok) : fnVC CT msigned7 [.sl 1 0 5 1, .sl 22 0 m 5] ⟨[(1, some ⟨false, .sv [.ptr 2 0, .ptr 6 0, .ptr 10 0, .ptr 14 0, .ptr 18 0]⟩), (2, some ⟨false, .sv [.v (.string (sd 0)), .v (.int .i64 1), .sl 3 0 2 1, .v (.int .i64 0)]⟩), (3, some ⟨false, .sv [.sl 4 0 2 1, .sl 5 0 1 1]⟩), (4, some ⟨false, .strs [pubB (sd 0) 0, pubB (sd 0) 1]⟩), (5, some ⟨false, .strs [topB (sd 0)]⟩), (6, some ⟨false, .sv [.v (.string (sd 1)), .v (.int .i64 1), .sl 7 0 2 1, .v (.int .i64 0)]⟩), (7, some ⟨false, .sv [.sl 8 0 2 1, .sl 9 0 1 1]⟩), (8, some ⟨false, .strs [pubB (sd 1) 0, pubB (sd 1) 1]⟩), (9, some ⟨false, .strs [topB (sd 1)]⟩), (10, some ⟨false, .sv [.v (.string (sd 2)), .v (.int .i64 1), .sl 11 0 2 1, .v (.int .i64 0)]⟩), (11, some ⟨false, .sv [.sl 12 0 2 1, .sl 13 0 1 1]⟩), (12, some ⟨false, .strs [pubB (sd 2) 0, pubB (sd 2) 1]⟩), (13, some ⟨false, .strs [topB (sd 2)]⟩), (14, some ⟨false, .sv [.v (.string (sd 3)), .v (.int .i64 1), .sl 15 0 2 1, .v (.int .i64 0)]⟩), (15, some ⟨false, .sv [.sl 16 0 2 1, .sl 17 0 1 1]⟩), (16, some ⟨false, .strs [pubB (sd 3) 0, pubB (sd 3) 1]⟩), (17, some ⟨false, .strs [topB (sd 3)]⟩), (18, some ⟨false, .sv [.v (.string (sd 4)), .v (.int .i64 1), .sl 19 0 2 1, .v (.int .i64 0)]⟩), (19, some ⟨false, .sv [.sl 20 0 2 1, .sl 21 0 1 1]⟩), (20, some ⟨false, .strs [pubB (sd 4) 0, pubB (sd 4) 1]⟩), (21, some ⟨false, .strs [topB (sd 4)]⟩), (22, some ⟨false, .pl (btP l)⟩)], x⟩ 23 fun v H' n' => Sub 23 ⟨[(0, .sl 23 0 (min m 8) 2)], ⟨[(23, some ⟨true, .pl (sgP (sgL l (min m 8)))⟩)], x⟩, 24⟩ ⟨[(0, v)], H', n'⟩ := by
  unfold msigned7
  have e1 : min (m : Int) 8 = ((min m 8 : Nat) : Int) := by omega
  obtain ⟨c, hc⟩ : ∃ c, c = min m 8 := ⟨_, rfl⟩
  have hc1 : c ≤ m := by omega
  have hc2 : c ≤ 8 := by omega
  rw [← hc] at e1 ⊢
  simp -implicitDefEqProofs only [↓fnVC, initTm]
  simp -implicitDefEqProofs only [go_sem, e1, Nat.sub_zero]
  refine ⟨by omega, ?_⟩
  refine loop_fam (fun (j : Nat) => j ≤ c)
    (fun j => ⟨[(0, .sl 1 0 5 1), (5, .sl 23 0 j 2), (13, .sl 22 0 c 5), (14, .v (.int .i64 c)), (15, .v (.int .i64 j))], ⟨[(1, some ⟨false, .sv [.ptr 2 0, .ptr 6 0, .ptr 10 0, .ptr 14 0, .ptr 18 0]⟩), (2, some ⟨false, .sv [.v (.string (sd 0)), .v (.int .i64 1), .sl 3 0 2 1, .v (.int .i64 0)]⟩), (3, some ⟨false, .sv [.sl 4 0 2 1, .sl 5 0 1 1]⟩), (4, some ⟨false, .strs [pubB (sd 0) 0, pubB (sd 0) 1]⟩), (5, some ⟨false, .strs [topB (sd 0)]⟩), (6, some ⟨false, .sv [.v (.string (sd 1)), .v (.int .i64 1), .sl 7 0 2 1, .v (.int .i64 0)]⟩), (7, some ⟨false, .sv [.sl 8 0 2 1, .sl 9 0 1 1]⟩), (8, some ⟨false, .strs [pubB (sd 1) 0, pubB (sd 1) 1]⟩), (9, some ⟨false, .strs [topB (sd 1)]⟩), (10, some ⟨false, .sv [.v (.string (sd 2)), .v (.int .i64 1), .sl 11 0 2 1, .v (.int .i64 0)]⟩), (11, some ⟨false, .sv [.sl 12 0 2 1, .sl 13 0 1 1]⟩), (12, some ⟨false, .strs [pubB (sd 2) 0, pubB (sd 2) 1]⟩), (13, some ⟨false, .strs [topB (sd 2)]⟩), (14, some ⟨false, .sv [.v (.string (sd 3)), .v (.int .i64 1), .sl 15 0 2 1, .v (.int .i64 0)]⟩), (15, some ⟨false, .sv [.sl 16 0 2 1, .sl 17 0 1 1]⟩), (16, some ⟨false, .strs [pubB (sd 3) 0, pubB (sd 3) 1]⟩), (17, some ⟨false, .strs [topB (sd 3)]⟩), (18, some ⟨false, .sv [.v (.string (sd 4)), .v (.int .i64 1), .sl 19 0 2 1, .v (.int .i64 0)]⟩), (19, some ⟨false, .sv [.sl 20 0 2 1, .sl 21 0 1 1]⟩), (20, some ⟨false, .strs [pubB (sd 4) 0, pubB (sd 4) 1]⟩), (21, some ⟨false, .strs [topB (sd 4)]⟩), (22, some ⟨false, .pl (btP l)⟩), (23, some ⟨true, .pl (sgP (sgL l j))⟩)], x⟩, 24⟩)
    (fun j => c - j) 0 (Nat.zero_le _) ?_ ?_
  · refine sub_mk [(23, 0)] rfl rfl rfl ?_
    simp only [tmSub, hpSub, objSub, eqTm, eqHp, rn, lk, SV.ren, SV.renC, SV.renB, SV.renA, ren_ints, ren_strs, ren_pl, ren_svs, SV.v.injEq, Value.int.injEq, Body.ints.injEq, SV.ptr.injEq, SV.sl.injEq, Value.string.injEq, Value.bool.injEq, List.map_cons, List.map_nil, forall_const, Nat.reduceLT, Nat.lt_add_one, imp_self, true_and, and_true, and_self, ob_some, get_mk, lk_cons, ↓reduceIte, Nat.reduceEqDiff, ne_eq, not_true_eq_false, not_false_eq_true, Nat.one_ne_zero, Nat.zero_ne_one, Nat.succ_ne_self, Nat.reduceAdd, Bool.false_eq_true, false_implies, implies_true, reduceCtorEq]
    exact ⟨rfl, rfl⟩
  · intro j hj
    have hlen := sgL_len l j
    simp -implicitDefEqProofs only [go_sem]
    refine condK_bb (fun d => ?_) (fun d => ?_)
    · have d1 : j < c := by have := of_decide_eq_true d; omega
      have g1 := btP_at (l := l) (j := j) (by omega)
      have hb : (l.getD j bE).ok := hok _ (by rw [List.getD_eq_getElem?_getD, List.getElem?_eq_getElem (by omega)]; exact List.getElem_mem _)
      have hsu : sgL l (j + 1) = sgL l j ++ [sgOf j (l.getD j bE)] := rfl
      have g2 : 0 + j * 5 = 5 * j := by omega
      have g3 : j * 5 = 5 * j := by omega
      generalize l.getD j bE = b at g1 hb hsu
      obtain ⟨ky, nd, tt, at_, bs⟩ := b
      obtain ⟨k1, k2, k3, k4, k5⟩ := hb
      simp only at g1 k1 k2 k3 k4 k5
      have hq : ky % 5 = 0 ∨ ky % 5 = 1 ∨ ky % 5 = 2 ∨ ky % 5 = 3 ∨ ky % 5 = 4 := by omega
      have hp : nd % 5 = 0 ∨ nd % 5 = 1 ∨ nd % 5 = 2 ∨ nd % 5 = 3 ∨ nd % 5 = 4 := by omega
      have q1 := tmod5 ky
      have q2 := tmod5 nd
      have q3 := tmod2 j
      have r1 := rg_at hq
      have r2 := rg_at hp
      have hs : sgOf j ⟨ky, nd, tt, at_, bs⟩ = (idB (sd (nd % 5)), spo (sigB (sd (ky % 5)) (j % 2) tt) at_ bs) := rfl
      rw [hs] at hsu
      generalize ky % 5 = q at hq q1 r1 hsu
      generalize nd % 5 = p at hp q2 r2 hsu
      have hj2 : j % 2 < 2 := Nat.mod_lt _ (by decide)
      simp -implicitDefEqProofs only [go_sem, d, g2, g3, g1, sp5, q1, q2, q3, r1, r2]
      refine ⟨⟨by omega, by omega⟩, by rw [btP_len]; omega, ⟨by omega, by omega⟩, ?_⟩
      refine at_call tKAt (katS (s := sd q) (i := 2 + 4 * q) (a := 3 + 4 * q) (b := 4 + 4 * q) (c := 5 + 4 * q) (k := j % 2) (text := tt) (by rcases hq with e | e | e | e | e <;> subst e <;> exact ⟨⟨_, by rfl⟩, ⟨_, by rfl⟩, ⟨_, by rfl⟩, ⟨_, by rfl⟩, by decide, by decide, by decide, by decide⟩) hj2 (by rw [sd_size]; decide) k3) ?_
      have sz := sigB_size (sd q) (j % 2) tt
      have hbl : (bts (sigB (sd q) (j % 2) tt)).length = 323 := by rw [bts_len, sz]
      have hsp : spo (sigB (sd q) (j % 2) tt) at_ bs = tx ((bts (sigB (sd q) (j % 2) tt)).set (at_ % 323) (ixor .u8 ((bts (sigB (sd q) (j % 2) tt)).getD (at_ % 323) 0) bs)) := rfl
      generalize sigB (sd q) (j % 2) tt = S at sz hbl hsp hsu ⊢
      have a1 : IntKind.i64.wrap (at_ : Int) = at_ := wrap_i64 (by omega) (by omega)
      have a2 : (at_ : Int).tmod ((323 : Nat) : Int) = ((at_ % 323 : Nat) : Int) := by rw [Int.tmod_eq_emod_of_nonneg (by omega)]; omega
      have a3 : at_ % 323 < 323 := Nat.mod_lt _ (by decide)
      generalize at_ % 323 = z at a2 a3 hsp
      simp -implicitDefEqProofs only [go_sem, sz, a1, a2, q2, r2]
      have hsl : ((bts S).set z (ixor .u8 ((bts S).getD z 0) bs)).length = 323 := by rw [List.length_set, hbl]
      refine ⟨by omega, by omega, by omega, by omega, by omega, by omega, by omega, ?_⟩
      refine at_call tKID (kidS (s := sd p) (i := 2 + 4 * p) (a := 3 + 4 * p) (b := 4 + 4 * p) (c := 5 + 4 * p) (by rcases hp with e | e | e | e | e <;> subst e <;> exact ⟨⟨_, by rfl⟩, ⟨_, by rfl⟩, ⟨_, by rfl⟩, ⟨_, by rfl⟩, by decide, by decide, by decide, by decide⟩)) ?_
      have hst : (((bts S).set z (ixor .u8 ((bts S).getD z 0) bs)).take 323) = (bts S).set z (ixor .u8 ((bts S).getD z 0) bs) := List.take_of_length_le (by omega)
      have e3 : (sgP (sgL l j)).take (j * 2) = sgP (sgL l j) := List.take_of_length_le (by rw [sgP_len, hlen]; omega)
      have w3 : IntKind.i64.wrap ((j : Int) + 1) = ((j + 1 : Nat) : Int) := by rw [wrap_i64 (by omega) (by omega)]; omega
      simp -implicitDefEqProofs only [go_sem, hst, spA, spB, pl2, e3, w3, List.length_cons, List.length_nil]
      refine ⟨by omega, by omega, by rw [sgP_len, hlen]; omega, ?_⟩
      refine kLoop_mk (j + 1) (by omega) (by omega) ?_
      refine sub_mk [(23, 27)] rfl rfl rfl ?_
      simp only [tmSub, hpSub, objSub, eqTm, eqHp, rn, lk, SV.ren, SV.renC, SV.renB, SV.renA, ren_ints, ren_strs, ren_pl, ren_svs, SV.v.injEq, Value.int.injEq, Body.ints.injEq, SV.ptr.injEq, SV.sl.injEq, Value.string.injEq, Value.bool.injEq, List.map_cons, List.map_nil, forall_const, Nat.reduceLT, Nat.lt_add_one, imp_self, true_and, and_true, and_self, ob_some, get_mk, lk_cons, ↓reduceIte, Nat.reduceEqDiff, ne_eq, not_true_eq_false, not_false_eq_true, Nat.one_ne_zero, Nat.zero_ne_one, Nat.succ_ne_self, Nat.reduceAdd, Bool.false_eq_true, false_implies, implies_true, reduceCtorEq, hsu, sgP_app, hsp]
      rfl
    · have d1 : j = c := by have := of_decide_eq_false d; omega
      subst d1
      simp -implicitDefEqProofs only [go_sem, d]
      refine sub_mk [] rfl rfl rfl ?_
      simp only [tmSub, hpSub, objSub, eqTm, eqHp, rn, lk, SV.ren, SV.renC, SV.renB, SV.renA, ren_ints, ren_strs, ren_pl, ren_svs, SV.v.injEq, Value.int.injEq, Body.ints.injEq, SV.ptr.injEq, SV.sl.injEq, Value.string.injEq, Value.bool.injEq, List.map_cons, List.map_nil, forall_const, Nat.reduceLT, Nat.lt_add_one, imp_self, true_and, and_true, and_self, ob_some, get_mk, lk_cons, ↓reduceIte, Nat.reduceEqDiff, ne_eq, not_true_eq_false, not_false_eq_true, Nat.one_ne_zero, Nat.zero_ne_one, Nat.succ_ne_self, Nat.reduceAdd, Bool.false_eq_true, false_implies, implies_true, reduceCtorEq]
def rgQ (i b : Nat) : List (Nat × Nat) := [(1, i), (2, i + 1), (3, i + 2), (4, i + 3), (5, i + 4), (6, i + 5), (7, i + 6), (8, i + 7), (9, i + 8), (10, i + 9), (11, i + 10), (12, i + 11), (13, i + 12), (14, i + 13), (15, i + 14), (16, i + 15), (17, i + 16), (18, i + 17), (19, i + 18), (20, i + 19), (21, i + 20), (22, b)]
theorem signedS {l : List Bt} {i b m : Nat} {u : Bool} (h : hpSub (rgQ i b) H ringL) (hb : H.get b = some ⟨u, .pl (btP l)⟩) (h0 : 0 < i ∧ 0 < b) (hn : n + 1 ≤ 1000) (hm : m ≤ l.length) (hok : ∀ b ∈ l, b.ok) :
    SpecAt Try.prog nsigned7 [.sl i 0 5 1, .sl b 0 m 5] H n (.sl n 0 (min m 8) 2) ⟨(n, some ⟨true, .pl (sgP (sgL l (min m 8)))⟩) :: H.l, H.x⟩ (n + 1) := by
  have hs := okT.spec tsigned7 (signedW (x := H.x) hm hok)
  have := lift (n := n) hs (rgQ i b) rfl rfl rfl (by omega) rfl rfl (by
    obtain ⟨a0, a1, a2, a3, a4, a5, a6, a7, a8, a9, a10, a11, a12, a13, a14, a15, a16, a17, a18, a19, a20, _⟩ := h
    exact ⟨a0, a1, a2, a3, a4, a5, a6, a7, a8, a9, a10, a11, a12, a13, a14, a15, a16, a17, a18, a19, a20, sub_ro rfl h0.2 hb rfl, trivial⟩) (by rfl) (by simp [wrNZ, rn, lk, rgQ]; try omega) (by omega)
  exact this
end
section
/- QuorumCounts, walked. -/
set_option linter.unusedVariables false
set_option linter.unusedSimpArgs false
set_option maxRecDepth 100000
open Go.Proofs
variable {H : Hp} {n : Nat} {x : Nat → Option SO}
theorem btP_0 {l : List Bt} (h : 0 < l.length) : (btP l)[2]? = some (.string (l.getD 0 bE).text) := by
  cases l with
  | nil => exact absurd h (Nat.lt_irrefl _)
  | cons b l => rfl
theorem whoL_len (l : List ByteArray) (need : Int) (text : ByteArray) (gs : Sg) : (whoL l need text gs).length ≤ l.length := by
  unfold whoL; split
  · exact List.length_filter_le _ _
  · exact Nat.zero_le _
set_option maxHeartbeats 4000000 in
theorem countsLW {B : List Bt} {m bits : Nat} {need : Int} (hm : m ≤ B.length) (hok : ∀ b ∈ B, b.ok) :
    fnVC CT mQCounts [.v (.int .u8 bits), .v (.int .i64 need), .sl 1 0 m 5] ⟨[(1, some ⟨false, .pl (btP B)⟩)], x⟩ 2 fun v H' n' => Sub 2 ⟨[(0, .v (.bool true))], ⟨[], x⟩, 2⟩ ⟨[(0, v)], H', n'⟩ := by
  have hs5 := setL_len bits 5
  have hrl : (rising (setL bits 5)).length ≤ (setL bits 5).length := by rw [← (cmp_srt (setL bits 5)).1]; refine Nat.le_trans (cmp_srt (setL bits 5)).2 ?_; rw [srtB_len]; exact Nat.le_refl _
  have hRc : 0 + (rising (setL bits 5)).length ≤ (risR (setL bits 5)).length := by unfold risR; rw [List.length_append]; omega
  have hR : rising (setL bits 5) = ((risR (setL bits 5)).drop 0).take (rising (setL bits 5)).length := by rw [List.drop_zero]; unfold risR; rw [List.take_left' rfl]
  have hgl : sgL B (min m 8) = ((sgL B (min m 8)).drop 0).take (min m 8) := by rw [List.drop_zero, List.take_of_length_le (by rw [sgL_len]; exact Nat.le_refl _)]
  have hgk : 0 + min m 8 ≤ (sgL B (min m 8)).length := by rw [sgL_len]; omega
  have hgz := sgL_z B (min m 8)
  unfold mQCounts
  simp -implicitDefEqProofs only [↓fnVC, initTm]
  simp -implicitDefEqProofs only [go_sem]
  refine at_call tcounts7 countsS ?_
  simp -implicitDefEqProofs only [go_sem]
  refine at_call tring7 (ringS (by decide)) ?_
  simp only [keyL_app]
  simp -implicitDefEqProofs only [go_sem]
  refine at_call tset7 (setS (i := 2) (bits := bits) (need := need) ⟨sub_ro rfl (by decide) (by rfl) rfl, sub_ro rfl (by decide) (by rfl) rfl, sub_ro rfl (by decide) (by rfl) rfl, sub_ro rfl (by decide) (by rfl) rfl, sub_ro rfl (by decide) (by rfl) rfl, sub_ro rfl (by decide) (by rfl) rfl, sub_ro rfl (by decide) (by rfl) rfl, sub_ro rfl (by decide) (by rfl) rfl, sub_ro rfl (by decide) (by rfl) rfl, sub_ro rfl (by decide) (by rfl) rfl, sub_ro rfl (by decide) (by rfl) rfl, sub_ro rfl (by decide) (by rfl) rfl, sub_ro rfl (by decide) (by rfl) rfl, sub_ro rfl (by decide) (by rfl) rfl, sub_ro rfl (by decide) (by rfl) rfl, sub_ro rfl (by decide) (by rfl) rfl, sub_ro rfl (by decide) (by rfl) rfl, sub_ro rfl (by decide) (by rfl) rfl, sub_ro rfl (by decide) (by rfl) rfl, sub_ro rfl (by decide) (by rfl) rfl, sub_ro rfl (by decide) (by rfl) rfl, trivial⟩ (by decide) (by decide)) ?_
  by_cases hk : okSet (rising (setL bits 5)) need = true
  · have hmk : mkV (setL bits 5) need 23 = .tup [.agg [.sl 23 0 (rising (setL bits 5)).length 1, .v (.int .i64 need)], .v (.int .i64 0)] := if_pos hk
    rw [hmk]
    simp -implicitDefEqProofs only [go_sem, spA, spB, spC, tk2]
    refine at_call tsigned7 (signedS (l := B) (i := 2) (b := 1) (m := m) ⟨sub_ro rfl (by decide) (by rfl) rfl, sub_ro rfl (by decide) (by rfl) rfl, sub_ro rfl (by decide) (by rfl) rfl, sub_ro rfl (by decide) (by rfl) rfl, sub_ro rfl (by decide) (by rfl) rfl, sub_ro rfl (by decide) (by rfl) rfl, sub_ro rfl (by decide) (by rfl) rfl, sub_ro rfl (by decide) (by rfl) rfl, sub_ro rfl (by decide) (by rfl) rfl, sub_ro rfl (by decide) (by rfl) rfl, sub_ro rfl (by decide) (by rfl) rfl, sub_ro rfl (by decide) (by rfl) rfl, sub_ro rfl (by decide) (by rfl) rfl, sub_ro rfl (by decide) (by rfl) rfl, sub_ro rfl (by decide) (by rfl) rfl, sub_ro rfl (by decide) (by rfl) rfl, sub_ro rfl (by decide) (by rfl) rfl, sub_ro rfl (by decide) (by rfl) rfl, sub_ro rfl (by decide) (by rfl) rfl, sub_ro rfl (by decide) (by rfl) rfl, sub_ro rfl (by decide) (by rfl) rfl, trivial⟩ (by rfl) (by decide) (by decide) hm hok) ?_
    simp -implicitDefEqProofs only [go_sem, spA, spB, spC, tk2]
    by_cases hm0 : 0 < m
    · have g0 : decide ((m : Int) > 0) = true := decide_eq_true (by omega)
      have g1 := btP_0 (l := B) (by omega)
      have htx : (B.getD 0 bE).text.size ≤ 1000000000 := (hok _ (by rw [List.getD_eq_getElem?_getD, List.getElem?_eq_getElem (by omega)]; exact List.getElem_mem _)).2.2.1
      simp -implicitDefEqProofs only [go_sem, g0, g1]
      refine ⟨by omega, ?_⟩
      refine at_call tQWho (whoS (a := 23) (b := 25) (l := (rising (setL bits 5))) (ss := (risR (setL bits 5))) (o := 0) (m := (rising (setL bits 5)).length) (gl := sgL B (min m 8)) (gs := sgL B (min m 8)) (p := 0) (k := min m 8) (need := need) (text := (B.getD 0 bE).text) (by rfl) (by rfl) (by decide) (by decide) hR hRc (by omega) hgl hgk (by omega) hgz htx) ?_
      simp -implicitDefEqProofs only [go_sem]
      refine at_call trQWho (rwhoS (a := 23) (b := 25) (l := (rising (setL bits 5))) (ss := (risR (setL bits 5))) (o := 0) (m := (rising (setL bits 5)).length) (gl := sgL B (min m 8)) (gs := sgL B (min m 8)) (p := 0) (k := min m 8) (need := need) (text := (B.getD 0 bE).text) (by rfl) (by rfl) (by decide) (by decide) hR hRc (by omega) hgl hgk (by omega) hgz htx) ?_
      have hwl := whoL_len (rising (setL bits 5)) need (B.getD 0 bE).text (sgL B (min m 8))
      try simp only [List.length_cons, List.length_nil] at hwl
      simp -implicitDefEqProofs only [go_sem]
      refine at_call tSameTexts (sameS (a := 26) (b := 27) (la := whoL (rising (setL bits 5)) need (B.getD 0 bE).text (sgL B (min m 8))) (lb := whoL (rising (setL bits 5)) need (B.getD 0 bE).text (sgL B (min m 8))) (by rfl) (by rfl) (by decide) (by rw [List.drop_zero, List.take_length]) (by rw [List.drop_zero, List.take_length]) (by omega) (by omega) (by omega)) ?_
      rw [decide_eq_true rfl]
      simp -implicitDefEqProofs only [go_sem]
      refine at_call tQEnough (enoS (a := 23) (b := 25) (l := (rising (setL bits 5))) (ss := (risR (setL bits 5))) (o := 0) (m := (rising (setL bits 5)).length) (gl := sgL B (min m 8)) (gs := sgL B (min m 8)) (p := 0) (k := min m 8) (need := need) (text := (B.getD 0 bE).text) (by rfl) (by rfl) (by decide) hR hRc (by omega) hgl hgk (by omega) hgz htx) ?_
      simp -implicitDefEqProofs only [go_sem]
      refine at_call trQEnough (renoS (a := 23) (b := 25) (l := (rising (setL bits 5))) (ss := (risR (setL bits 5))) (o := 0) (m := (rising (setL bits 5)).length) (gl := sgL B (min m 8)) (gs := sgL B (min m 8)) (p := 0) (k := min m 8) (need := need) (text := (B.getD 0 bE).text) (by rfl) (by rfl) (by decide) hR hRc (by omega) hgl hgk (by omega) hgz htx) ?_
      simp -implicitDefEqProofs only [go_sem]
      refine at_call tQEnough (enoS (a := 23) (b := 25) (l := (rising (setL bits 5))) (ss := (risR (setL bits 5))) (o := 0) (m := (rising (setL bits 5)).length) (gl := sgL B (min m 8)) (gs := sgL B (min m 8)) (p := 0) (k := min m 8) (need := need) (text := (B.getD 0 bE).text) (by rfl) (by rfl) (by decide) hR hRc (by omega) hgl hgk (by omega) hgz htx) ?_
      simp -implicitDefEqProofs only [go_sem]
      refine at_call trQCheck (rcheckS (i := 23) (l := (rising (setL bits 5))) (ss := (risR (setL bits 5))) (o := 0) (m := (rising (setL bits 5)).length) (need := need) (by rfl) (by decide) hR hRc) ?_
      have hen : enoB (rising (setL bits 5)) need (B.getD 0 bE).text (sgL B (min m 8)) = (okSet (rising (setL bits 5)) need && decide (((whoL (rising (setL bits 5)) need (B.getD 0 bE).text (sgL B (min m 8))).length : Int) ≥ need)) := rfl
      rw [hen]
      cases okSet (rising (setL bits 5)) need
      · simp -implicitDefEqProofs only [go_sem]
        exact sub_val rfl (by decide) (by decide) rfl
      · simp -implicitDefEqProofs only [go_sem]
        exact sub_val rfl (by decide) (by decide) rfl
    · have g0 : decide ((m : Int) > 0) = false := decide_eq_false (by omega)
      have htx : (⟨#[]⟩ : ByteArray).size ≤ 1000000000 := by decide
      simp -implicitDefEqProofs only [go_sem, g0]
      refine at_call tQWho (whoS (a := 23) (b := 25) (l := (rising (setL bits 5))) (ss := (risR (setL bits 5))) (o := 0) (m := (rising (setL bits 5)).length) (gl := sgL B (min m 8)) (gs := sgL B (min m 8)) (p := 0) (k := min m 8) (need := need) (text := ⟨#[]⟩) (by rfl) (by rfl) (by decide) (by decide) hR hRc (by omega) hgl hgk (by omega) hgz htx) ?_
      simp -implicitDefEqProofs only [go_sem]
      refine at_call trQWho (rwhoS (a := 23) (b := 25) (l := (rising (setL bits 5))) (ss := (risR (setL bits 5))) (o := 0) (m := (rising (setL bits 5)).length) (gl := sgL B (min m 8)) (gs := sgL B (min m 8)) (p := 0) (k := min m 8) (need := need) (text := ⟨#[]⟩) (by rfl) (by rfl) (by decide) (by decide) hR hRc (by omega) hgl hgk (by omega) hgz htx) ?_
      have hwl := whoL_len (rising (setL bits 5)) need ⟨#[]⟩ (sgL B (min m 8))
      try simp only [List.length_cons, List.length_nil] at hwl
      simp -implicitDefEqProofs only [go_sem]
      refine at_call tSameTexts (sameS (a := 26) (b := 27) (la := whoL (rising (setL bits 5)) need ⟨#[]⟩ (sgL B (min m 8))) (lb := whoL (rising (setL bits 5)) need ⟨#[]⟩ (sgL B (min m 8))) (by rfl) (by rfl) (by decide) (by rw [List.drop_zero, List.take_length]) (by rw [List.drop_zero, List.take_length]) (by omega) (by omega) (by omega)) ?_
      rw [decide_eq_true rfl]
      simp -implicitDefEqProofs only [go_sem]
      refine at_call tQEnough (enoS (a := 23) (b := 25) (l := (rising (setL bits 5))) (ss := (risR (setL bits 5))) (o := 0) (m := (rising (setL bits 5)).length) (gl := sgL B (min m 8)) (gs := sgL B (min m 8)) (p := 0) (k := min m 8) (need := need) (text := ⟨#[]⟩) (by rfl) (by rfl) (by decide) hR hRc (by omega) hgl hgk (by omega) hgz htx) ?_
      simp -implicitDefEqProofs only [go_sem]
      refine at_call trQEnough (renoS (a := 23) (b := 25) (l := (rising (setL bits 5))) (ss := (risR (setL bits 5))) (o := 0) (m := (rising (setL bits 5)).length) (gl := sgL B (min m 8)) (gs := sgL B (min m 8)) (p := 0) (k := min m 8) (need := need) (text := ⟨#[]⟩) (by rfl) (by rfl) (by decide) hR hRc (by omega) hgl hgk (by omega) hgz htx) ?_
      simp -implicitDefEqProofs only [go_sem]
      refine at_call tQEnough (enoS (a := 23) (b := 25) (l := (rising (setL bits 5))) (ss := (risR (setL bits 5))) (o := 0) (m := (rising (setL bits 5)).length) (gl := sgL B (min m 8)) (gs := sgL B (min m 8)) (p := 0) (k := min m 8) (need := need) (text := ⟨#[]⟩) (by rfl) (by rfl) (by decide) hR hRc (by omega) hgl hgk (by omega) hgz htx) ?_
      simp -implicitDefEqProofs only [go_sem]
      refine at_call trQCheck (rcheckS (i := 23) (l := (rising (setL bits 5))) (ss := (risR (setL bits 5))) (o := 0) (m := (rising (setL bits 5)).length) (need := need) (by rfl) (by decide) hR hRc) ?_
      have hen : enoB (rising (setL bits 5)) need ⟨#[]⟩ (sgL B (min m 8)) = (okSet (rising (setL bits 5)) need && decide (((whoL (rising (setL bits 5)) need ⟨#[]⟩ (sgL B (min m 8))).length : Int) ≥ need)) := rfl
      rw [hen]
      cases okSet (rising (setL bits 5)) need
      · simp -implicitDefEqProofs only [go_sem]
        exact sub_val rfl (by decide) (by decide) rfl
      · simp -implicitDefEqProofs only [go_sem]
        exact sub_val rfl (by decide) (by decide) rfl
  · have hmk : mkV (setL bits 5) need 23 = .tup [.agg [.sl 0 0 0 1, .v (.int .i64 0)], .v (.int .i64 1)] := if_neg hk
    rw [hmk]
    simp -implicitDefEqProofs only [go_sem, spA, spB, spC, tk2]
    refine ⟨by decide, ?_⟩
    refine at_call tKID (kidS (s := sd 0) (i := 3) (a := 4) (b := 5) (c := 6) ⟨⟨_, by rfl⟩, ⟨_, by rfl⟩, ⟨_, by rfl⟩, ⟨_, by rfl⟩, by decide, by decide, by decide, by decide⟩) ?_
    simp -implicitDefEqProofs only [go_sem, spA, spB, spC, tk2]
    refine at_call tsigned7 (signedS (l := B) (i := 2) (b := 1) (m := m) ⟨sub_ro rfl (by decide) (by rfl) rfl, sub_ro rfl (by decide) (by rfl) rfl, sub_ro rfl (by decide) (by rfl) rfl, sub_ro rfl (by decide) (by rfl) rfl, sub_ro rfl (by decide) (by rfl) rfl, sub_ro rfl (by decide) (by rfl) rfl, sub_ro rfl (by decide) (by rfl) rfl, sub_ro rfl (by decide) (by rfl) rfl, sub_ro rfl (by decide) (by rfl) rfl, sub_ro rfl (by decide) (by rfl) rfl, sub_ro rfl (by decide) (by rfl) rfl, sub_ro rfl (by decide) (by rfl) rfl, sub_ro rfl (by decide) (by rfl) rfl, sub_ro rfl (by decide) (by rfl) rfl, sub_ro rfl (by decide) (by rfl) rfl, sub_ro rfl (by decide) (by rfl) rfl, sub_ro rfl (by decide) (by rfl) rfl, sub_ro rfl (by decide) (by rfl) rfl, sub_ro rfl (by decide) (by rfl) rfl, sub_ro rfl (by decide) (by rfl) rfl, sub_ro rfl (by decide) (by rfl) rfl, trivial⟩ (by rfl) (by decide) (by decide) hm hok) ?_
    simp -implicitDefEqProofs only [go_sem, spA, spB, spC, tk2]
    by_cases hm0 : 0 < m
    · have g0 : decide ((m : Int) > 0) = true := decide_eq_true (by omega)
      have g1 := btP_0 (l := B) (by omega)
      have htx : (B.getD 0 bE).text.size ≤ 1000000000 := (hok _ (by rw [List.getD_eq_getElem?_getD, List.getElem?_eq_getElem (by omega)]; exact List.getElem_mem _)).2.2.1
      simp -implicitDefEqProofs only [go_sem, g0, g1]
      refine ⟨by omega, ?_⟩
      refine at_call tQWho (whoS (a := 25) (b := 26) (l := [idB (sd 0)]) (ss := [idB (sd 0)]) (o := 0) (m := 1) (gl := sgL B (min m 8)) (gs := sgL B (min m 8)) (p := 0) (k := min m 8) (need := need) (text := (B.getD 0 bE).text) (by rfl) (by rfl) (by decide) (by decide) rfl (Nat.le_refl _) (by omega) hgl hgk (by omega) hgz htx) ?_
      simp -implicitDefEqProofs only [go_sem]
      refine at_call trQWho (rwhoS (a := 25) (b := 26) (l := [idB (sd 0)]) (ss := [idB (sd 0)]) (o := 0) (m := 1) (gl := sgL B (min m 8)) (gs := sgL B (min m 8)) (p := 0) (k := min m 8) (need := need) (text := (B.getD 0 bE).text) (by rfl) (by rfl) (by decide) (by decide) rfl (Nat.le_refl _) (by omega) hgl hgk (by omega) hgz htx) ?_
      have hwl := whoL_len [idB (sd 0)] need (B.getD 0 bE).text (sgL B (min m 8))
      try simp only [List.length_cons, List.length_nil] at hwl
      simp -implicitDefEqProofs only [go_sem]
      refine at_call tSameTexts (sameS (a := 27) (b := 28) (la := whoL [idB (sd 0)] need (B.getD 0 bE).text (sgL B (min m 8))) (lb := whoL [idB (sd 0)] need (B.getD 0 bE).text (sgL B (min m 8))) (by rfl) (by rfl) (by decide) (by rw [List.drop_zero, List.take_length]) (by rw [List.drop_zero, List.take_length]) (by omega) (by omega) (by omega)) ?_
      rw [decide_eq_true rfl]
      simp -implicitDefEqProofs only [go_sem]
      refine at_call tQEnough (enoS (a := 25) (b := 26) (l := [idB (sd 0)]) (ss := [idB (sd 0)]) (o := 0) (m := 1) (gl := sgL B (min m 8)) (gs := sgL B (min m 8)) (p := 0) (k := min m 8) (need := need) (text := (B.getD 0 bE).text) (by rfl) (by rfl) (by decide) rfl (Nat.le_refl _) (by omega) hgl hgk (by omega) hgz htx) ?_
      simp -implicitDefEqProofs only [go_sem]
      refine at_call trQEnough (renoS (a := 25) (b := 26) (l := [idB (sd 0)]) (ss := [idB (sd 0)]) (o := 0) (m := 1) (gl := sgL B (min m 8)) (gs := sgL B (min m 8)) (p := 0) (k := min m 8) (need := need) (text := (B.getD 0 bE).text) (by rfl) (by rfl) (by decide) rfl (Nat.le_refl _) (by omega) hgl hgk (by omega) hgz htx) ?_
      simp -implicitDefEqProofs only [go_sem]
      refine at_call tQEnough (enoS (a := 25) (b := 26) (l := [idB (sd 0)]) (ss := [idB (sd 0)]) (o := 0) (m := 1) (gl := sgL B (min m 8)) (gs := sgL B (min m 8)) (p := 0) (k := min m 8) (need := need) (text := (B.getD 0 bE).text) (by rfl) (by rfl) (by decide) rfl (Nat.le_refl _) (by omega) hgl hgk (by omega) hgz htx) ?_
      simp -implicitDefEqProofs only [go_sem]
      refine at_call trQCheck (rcheckS (i := 25) (l := [idB (sd 0)]) (ss := [idB (sd 0)]) (o := 0) (m := 1) (need := need) (by rfl) (by decide) rfl (Nat.le_refl _)) ?_
      have hen : enoB [idB (sd 0)] need (B.getD 0 bE).text (sgL B (min m 8)) = (okSet [idB (sd 0)] need && decide (((whoL [idB (sd 0)] need (B.getD 0 bE).text (sgL B (min m 8))).length : Int) ≥ need)) := rfl
      rw [hen]
      cases okSet [idB (sd 0)] need
      · simp -implicitDefEqProofs only [go_sem]
        exact sub_val rfl (by decide) (by decide) rfl
      · simp -implicitDefEqProofs only [go_sem]
        exact sub_val rfl (by decide) (by decide) rfl
    · have g0 : decide ((m : Int) > 0) = false := decide_eq_false (by omega)
      have htx : (⟨#[]⟩ : ByteArray).size ≤ 1000000000 := by decide
      simp -implicitDefEqProofs only [go_sem, g0]
      refine at_call tQWho (whoS (a := 25) (b := 26) (l := [idB (sd 0)]) (ss := [idB (sd 0)]) (o := 0) (m := 1) (gl := sgL B (min m 8)) (gs := sgL B (min m 8)) (p := 0) (k := min m 8) (need := need) (text := ⟨#[]⟩) (by rfl) (by rfl) (by decide) (by decide) rfl (Nat.le_refl _) (by omega) hgl hgk (by omega) hgz htx) ?_
      simp -implicitDefEqProofs only [go_sem]
      refine at_call trQWho (rwhoS (a := 25) (b := 26) (l := [idB (sd 0)]) (ss := [idB (sd 0)]) (o := 0) (m := 1) (gl := sgL B (min m 8)) (gs := sgL B (min m 8)) (p := 0) (k := min m 8) (need := need) (text := ⟨#[]⟩) (by rfl) (by rfl) (by decide) (by decide) rfl (Nat.le_refl _) (by omega) hgl hgk (by omega) hgz htx) ?_
      have hwl := whoL_len [idB (sd 0)] need ⟨#[]⟩ (sgL B (min m 8))
      try simp only [List.length_cons, List.length_nil] at hwl
      simp -implicitDefEqProofs only [go_sem]
      refine at_call tSameTexts (sameS (a := 27) (b := 28) (la := whoL [idB (sd 0)] need ⟨#[]⟩ (sgL B (min m 8))) (lb := whoL [idB (sd 0)] need ⟨#[]⟩ (sgL B (min m 8))) (by rfl) (by rfl) (by decide) (by rw [List.drop_zero, List.take_length]) (by rw [List.drop_zero, List.take_length]) (by omega) (by omega) (by omega)) ?_
      rw [decide_eq_true rfl]
      simp -implicitDefEqProofs only [go_sem]
      refine at_call tQEnough (enoS (a := 25) (b := 26) (l := [idB (sd 0)]) (ss := [idB (sd 0)]) (o := 0) (m := 1) (gl := sgL B (min m 8)) (gs := sgL B (min m 8)) (p := 0) (k := min m 8) (need := need) (text := ⟨#[]⟩) (by rfl) (by rfl) (by decide) rfl (Nat.le_refl _) (by omega) hgl hgk (by omega) hgz htx) ?_
      simp -implicitDefEqProofs only [go_sem]
      refine at_call trQEnough (renoS (a := 25) (b := 26) (l := [idB (sd 0)]) (ss := [idB (sd 0)]) (o := 0) (m := 1) (gl := sgL B (min m 8)) (gs := sgL B (min m 8)) (p := 0) (k := min m 8) (need := need) (text := ⟨#[]⟩) (by rfl) (by rfl) (by decide) rfl (Nat.le_refl _) (by omega) hgl hgk (by omega) hgz htx) ?_
      simp -implicitDefEqProofs only [go_sem]
      refine at_call tQEnough (enoS (a := 25) (b := 26) (l := [idB (sd 0)]) (ss := [idB (sd 0)]) (o := 0) (m := 1) (gl := sgL B (min m 8)) (gs := sgL B (min m 8)) (p := 0) (k := min m 8) (need := need) (text := ⟨#[]⟩) (by rfl) (by rfl) (by decide) rfl (Nat.le_refl _) (by omega) hgl hgk (by omega) hgz htx) ?_
      simp -implicitDefEqProofs only [go_sem]
      refine at_call trQCheck (rcheckS (i := 25) (l := [idB (sd 0)]) (ss := [idB (sd 0)]) (o := 0) (m := 1) (need := need) (by rfl) (by decide) rfl (Nat.le_refl _)) ?_
      have hen : enoB [idB (sd 0)] need ⟨#[]⟩ (sgL B (min m 8)) = (okSet [idB (sd 0)] need && decide (((whoL [idB (sd 0)] need ⟨#[]⟩ (sgL B (min m 8))).length : Int) ≥ need)) := rfl
      rw [hen]
      cases okSet [idB (sd 0)] need
      · simp -implicitDefEqProofs only [go_sem]
        exact sub_val rfl (by decide) (by decide) rfl
      · simp -implicitDefEqProofs only [go_sem]
        exact sub_val rfl (by decide) (by decide) rfl
end
end Go.Sx
/- What is to be signed, as it came in. -/
set_option linter.unusedVariables false
set_option linter.unusedSimpArgs false
set_option maxRecDepth 100000
namespace Go.Sx
open Go.Proofs Go.ChangeShapes Go.WideShapes Go.ChangeAt Go.RowKit Go.Deep
variable {H : Type} {enc : TypeId × Value → H} {W : World}
def bV (b : Bt) : List Value := [.int .u8 b.key, .int .u8 b.named, .string b.text, .int .u16 b.at_, .int .u8 b.bits]
def bD (b : Bt) : DataW H := .agg [.lit (.int .u8 b.key), .lit (.int .u8 b.named), .lit (.string b.text.data.toList), .lit (.int .u16 b.at_), .lit (.int .u8 b.bits)]
def Bt.rng (b : Bt) : Prop := b.key ≤ 255 ∧ b.named ≤ 255 ∧ b.at_ ≤ 65535 ∧ b.bits ≤ 255
theorem bt_cells {fuel : Nat} {cs : List Value} {x : DataW H × List MemPlace} (h : DataW.trod enc Try.prog W 0 (fun _ => true) true fuel 42 cs = some x) : ∃ b : Bt, cs = bV b ∧ b.rng ∧ x.1 = bD b := by
  obtain ⟨xs, n, rfl, hx, hl, hxl, hf⟩ := DataW.trod_struct Try.underlying42 h
  have h0 := hf 0 { name := "Key", type := 5, offset := 0, embedded := false, tag := "", pkgPath := "", byteOffset := 0 } rfl
  have h1 := hf 1 { name := "Named", type := 5, offset := 1, embedded := false, tag := "", pkgPath := "", byteOffset := 1 } rfl
  have h2 := hf 2 { name := "Text", type := 9, offset := 2, embedded := false, tag := "", pkgPath := "", byteOffset := 8 } rfl
  have h3 := hf 3 { name := "At", type := 40, offset := 3, embedded := false, tag := "", pkgPath := "", byteOffset := 24 } rfl
  have h4 := hf 4 { name := "Bits", type := 5, offset := 4, embedded := false, tag := "", pkgPath := "", byteOffset := 26 } rfl
  have c5 : Try.prog.cellsOf 5 = 1 := by kernel_rfl
  have c9 : Try.prog.cellsOf 9 = 1 := by kernel_rfl
  have c40 : Try.prog.cellsOf 40 = 1 := by kernel_rfl
  have c42 : Try.prog.cellsOf 42 = 5 := by kernel_rfl
  rw [c42] at hl
  match cs, hl with
  | [a, b, c, d, e], _ =>
    match xs, hxl with
    | [y0, y1, y2, y3, y4], _ =>
      simp only [c5, c9, c40, List.drop_succ_cons, List.drop_zero, List.take_succ_cons, List.take_zero, List.getElem?_cons_succ, List.getElem?_cons_zero] at h0 h1 h2 h3 h4
      obtain ⟨k, e0, rfl, w0⟩ := DataW.trod_int Try.underlying5 h0
      obtain ⟨nm, e1, rfl, w1⟩ := DataW.trod_int Try.underlying5 h1
      obtain ⟨s, e2, rfl, _⟩ := DataW.trod_string Try.underlying9 h2
      obtain ⟨at_, e3, rfl, w3⟩ := DataW.trod_int Try.underlying40 h3
      obtain ⟨bs, e4, rfl, w4⟩ := DataW.trod_int Try.underlying5 h4
      simp only [List.cons.injEq, and_true] at e0 e1 e2 e3 e4
      subst e0; subst e1; subst e2; subst e3; subst e4
      simp [Lit.wf, IntKind.min, IntKind.max, IntKind.signed, IntKind.bits] at w0 w1 w3 w4
      have hx1 := hx
      refine ⟨⟨k.toNat, nm.toNat, s, at_.toNat, bs.toNat⟩, ?_, ⟨by simp only; omega, by simp only; omega, by simp only; omega, by simp only; omega⟩, ?_⟩
      · simp only [bV]
        rw [show ((k.toNat : Nat) : Int) = k by omega, show ((nm.toNat : Nat) : Int) = nm by omega, show ((at_.toNat : Nat) : Int) = at_ by omega, show ((bs.toNat : Nat) : Int) = bs by omega]
      · rw [hx]
        simp only [bD]
        rw [show ((k.toNat : Nat) : Int) = k by omega, show ((nm.toNat : Nat) : Int) = nm by omega, show ((at_.toNat : Nat) : Int) = at_ by omega, show ((bs.toNat : Nat) : Int) = bs by omega]
        rfl
theorem cells?_get {b n : Nat} {a : Addr} {cs : List Value} (h : W.cells? b a n = some cs) (i : Nat) (hi : i < n) : W.cell? (a.add i) = cs[i]? := by
  unfold World.cells? at h
  split at h
  · exact mapM_some_get h i i (by simp [hi])
  · cases h
theorem btP_get {B : List Bt} {i : Nat} (h : i < B.length * 5) : (btP B)[i]? = (bV (B.getD (i / 5) bE))[i % 5]? := by
  have e := btP_at (l := B) (j := i / 5) (by omega)
  have e2 := congrArg (fun m : List Value => m[i % 5]?) e
  simp only [List.getElem?_take, List.getElem?_drop] at e2
  rw [if_pos (Nat.mod_lt _ (by decide)), show 5 * (i / 5) + i % 5 = i by omega] at e2
  exact e2
theorem in_bts {b0 : Nat} {v : Value} {d : DataW H} {ps : List MemPlace} {ρ : Nat → Loc} {n : Nat} {Hs : Hp} (hval : Value.okWide Try.prog W .any b0 32 v)
    (h0 : DataW.Trod enc Try.prog W 0 (fun _ => true) true 32 v d ps) (hH : HRel (· < W.heap.size) W ρ n Hs W) (hn : n < 1000) (hro : ∀ i s, Hs.get i = some s → s.wr = false) :
    ∃ l B m, HRel (· < W.heap.size) W (upd ρ n l) (n + 1) (Hs.put n ⟨false, .pl (btP B)⟩) W ∧ (∀ i s, (Hs.put n ⟨false, .pl (btP B)⟩).get i = some s → s.wr = false) ∧ slrel l 0 m 5 v ∧ m ≤ B.length ∧ (∀ b ∈ B, b.rng) ∧
      ((d = .nil ∧ B = []) ∨ d = .slice ((B.take m).map bD) ((B.drop m).map bD)) := by
  obtain ⟨a0, len, cap, rfl⟩ := okWide_slice Try.underlying32 hval
  obtain ⟨fuel, hf⟩ := h0
  rcases open_slice Try.underlying32 hf with ⟨hcs, hx⟩ | ⟨a, len', cap', m, n', D, Pl, hcs, _, hl, hm, hmm, hx, hall⟩
  · simp only [Value.cells] at hcs
    cases hcs
    cases hx
    refine ⟨⟨none, 0, 0, false, none⟩, [], 0, hrel_in hH hn _ _ rfl ⟨rfl, exOK_ro rfl⟩ (fun k hk => by cases hk) hro, ?_, ⟨rfl, .inl rfl⟩, Nat.le_refl _, fun b hb => absurd hb List.not_mem_nil, .inl ⟨rfl, rfl⟩⟩
    intro i s h
    rw [Hp.get_put] at h
    split at h
    · cases h; rfl
    · exact hro i s h
  · simp only [Value.cells] at hcs
    cases hcs
    simp only [if_true] at hmm
    subst hmm
    obtain ⟨hs, c, T, fr, hb⟩ := spot_none Try.underlying32 hval
    have c42 : Try.prog.cellsOf 42 = 5 := by kernel_rfl
    rw [c42] at hall
    have each : ∀ j, ∃ b : Bt, j < m → W.cells? 0 (a.add (j * 5)) 5 = some (bV b) ∧ b.rng ∧ D j = bD b := by
      intro j
      by_cases hj : j < m
      · obtain ⟨cs', g1, g2⟩ := hall j hj
        obtain ⟨b, rfl, hr, hd⟩ := bt_cells g2
        exact ⟨b, fun _ => ⟨g1, hr, hd⟩⟩
      · exact ⟨bE, fun h => absurd h hj⟩
    obtain ⟨bf, hbf⟩ := Classical.axiomOfChoice each
    have hget : ∀ j, j < m → ((List.range m).map bf).getD j bE = bf j := fun j hj => by
      rw [List.getD_eq_getElem?_getD, List.getElem?_map, List.getElem?_range hj]; rfl
    have hlen : ((List.range m).map bf).length = m := by simp
    obtain ⟨l, g1, g2, g3⟩ := hrel_row (b := .pl (btP ((List.range m).map bf))) (vs := btP ((List.range m).map bf)) (z := 5) hH hn hro (by decide) hs hb hl (by rw [btP_len, hlen]; omega) (fun i hi => by
      rw [btP_len, hlen] at hi
      rw [btP_get (by rw [hlen]; omega), hget (i / 5) (by omega)]
      have h1 := (hbf (i / 5) (by omega)).1
      have h4 := cells?_get h1 (i % 5) (Nat.mod_lt _ (by decide))
      rw [← h4, cell_at hs hb]
      obtain ⟨s1, s2, s3⟩ := add_spot hs (i / 5 * 5)
      rw [cell_at (a := a.add (i / 5 * 5)) s1 (by rw [s2]; exact hb), s3]
      congr 1; omega) rfl (by simp) (all2_v_mk _)
    refine ⟨l, (List.range m).map bf, len, g1, g2, g3, by rw [hlen]; exact hl, fun b hb' => ?_, .inr ?_⟩
    · obtain ⟨j, hj, rfl⟩ := List.mem_map.1 hb'
      exact (hbf j (List.mem_range.1 hj)).2.1
    · cases hx
      congr 1
      · rw [← List.map_take, List.map_map, List.take_range, Nat.min_eq_left hl]
        refine List.map_congr_left fun j hj => ?_
        exact (hbf j (by have := List.mem_range.1 hj; omega)).2.2
      · rw [← List.map_drop, List.map_map]
        refine List.ext_getElem (by simp) fun j h1 h2 => ?_
        simp only [List.getElem_map, List.getElem_range, List.getElem_drop, Function.comp]
        simp only [List.length_map, List.length_range] at h1
        exact (hbf (len + j) (by omega)).2.2
end Go.Sx
