/- Slots: where they lie, what fits, opening, headers; the steps of a write. -/
import Derived.Test.YtjjnmdpppcmmfaaGreatDoorBtB
import Derived.Sort.Walk0

set_option linter.unusedVariables false
set_option linter.unusedSimpArgs false
set_option maxRecDepth 100000
namespace Go.Sx
attribute [local go_sem ↓] bind_mk intsB_mk strsB_mk svB_mk fnVC ob_some vc_skip vc_exit vc_ret vc_seq vc_block kSeq_normal kSeq_exit kSeq_ret kBlock_normal kBlock_exit kBlock_ret vc_reg vc_regD vc_cond condK_true condK_false vc_loop kLoop_exit kLoop_ret kRoll_normal kRoll_exit kRoll_ret vcOps_nil vcOps_cons gd_bool gd_undef put_some put_none vcT_fin vcT_pure vcT_act vcT_acts vcT_stop stab_none stab_some stabM_nil stabM_cons stabO_ld stabO_ldn stabO_slP stabO_b2s fldOf_ai fldOf_agg fldOf_ait fldOf_aggt intsOf_nil intsOf_cons strsOf_nil strsOf_cons c_omap ob_if lk_nil lk_cons ev_t ev_k z_mov z_pick z_bin z_binA z_binB z_binP z_un z_r2s z_conv z_s2b z_b2s z_mkM z_luM z_upM z_lenM lenMk_mp lenMk_nil plsOf_v z_delM asM_so plV_v plV_agg mpOf_mp mpOf_nil mpUp_mp asM_mp luV_ok luV_v z_allocT aggOf_mk z_boxT z_alloc z_bld z_bldI z_rowI z_rowS z_ld z_ldn z_st z_stn asN_ptr asN_fn z_nilck z_fld z_fadr z_idxA z_idxP z_idxS z_idxV z_slS z_slL z_slP z_mk z_lenS z_lenL z_app appC_ints appC_pl appC_sv appC_strs isS_strs loose_ints loose_pl loose_sv z_slM z_callv callvK_fn callvK_f callvK_yl vc_rangeF rfEnd_eq rfGo_none rfGo_ret rfGo_exit yGo_mk yEnd_n yEnd_r yEnd_e yRdy_mk yMid_n putPs_nil putPs_cons leaf_v leaf_ptr leaf_sl leaf_yl leaf_mp z_appS z_appST z_appZ z_cpyS z_mkfn reps_int reps_str z_rowV z_slnil nilK_zero z_cpy z_call asT_tup z_extT z_box boxOf_ai boxOf_agg boxOf_int boxOf_str boxOf_bool boxOf_ptr boxOf_sl sbin_int sbin_str sbinA_mk ae_nil ae_int ae_str sbinB_mk sbinP_nn sbinP_pn sbinP_np i_add i_sub i_mul i_quo i_rem i_and i_or i_xor i_andNot i_shl i_shr i_eql i_neq i_lss i_leq i_gtr i_geq st_add st_eql st_neq st_lss st_leq st_gtr st_geq bo_eql bo_neq pt_eql pt_neq un_neg un_xor un_not asI_mk asB_mk asS_mk asP_mk asSl_mk asBy_mk bnd_none bnd_some get_mk hput_mk hdel_mk kill_eq wrOf_eq rowOf_eq rsvs_0 rsvs_1 rsvs_2 rsvs_3 rsv_t rsv_c1 rsv_cn nt_v nt_ptr nt_sl nt_agg nt_ai get_ints get_strs get_pl get_sv getN_ints getN_sv set_ints set_strs set_sv setN_ints setN_sv part_ints part_strs part_sv cat_ints cat_strs cat_sv over_ints over_strs over_sv ones_ints ones_strs evs_nil evs_cons condK_eqt condK_eqf det_callP V_ns V_nn V_gs V_gn obC_mk fresh_ev freshT_ev freshR_ev setN_plagg setN_intsv setN_svai setN_svagg over_intsv set_pl setN_pl setN_plai getN_pl getN_strs part_pl cat_pl over_pl over_plints z_mm
attribute [local go_sem] initTm ne_eq not_true_eq_false not_false_eq_true true_and and_true List.length_cons List.length_nil Int.toNat_natCast Nat.add_zero Nat.zero_add Nat.mul_one List.getElem?_cons_zero List.drop_zero List.take_length List.take_succ_cons List.take_zero List.take_nil List.drop_succ_cons Option.map_some Nat.le_refl implies_true List.getElem?_cons_succ decide_true decide_false Bool.not_true Bool.not_false beq_self_eq_true Nat.succ_ne_self Nat.one_ne_zero Nat.zero_ne_one vk_mk hk_mk nk_mk tok_eq plsOf_map intsOf_map bodyOf_pl bodyOf_ints bodyOf_strs bodyOf_sv part_aggv part_agg part_ai part_int part_str part_bool part_sl part_ptr part_nil numsOf_map u_int u_str u_bool u_pnil u_sl u_ptr u_oci u_ocs evq_nil evq_cons fillS_nil fillS_cons u_ocb ones_pl cells_sv cells_ints cells_strs cells_pl smms_nil smms_cons smm_min smm_max plsOf_nil List.nil_append List.all_cons List.all_nil Bool.and_self Bool.true_and Bool.and_true zws_len zw_len zi_len List.set_cons_zero List.set_cons_succ List.flatMap_cons List.flatMap_nil List.append_nil
attribute [local go_sem_proc] Nat.reduceEqDiff Nat.reduceAdd Nat.reduceMul Nat.reduceLT Nat.reduceLeDiff Nat.reduceSub Int.reduceToNat Int.reduceLE Int.reduceLT reduceCtorEq Int.reduceEq Int.reduceGT Int.reduceGE Int.reduceNeg
attribute [local go_sem_proc ↓] reduceIte
section
open Go.Proofs
namespace Sl
variable {H : Hp} {n : Nat} {x : Nat → Option SO} {d d' : Fd} {i a b c : Nat} {u1 u2 u3 : Bool}
def slB (D bs r : Nat) : Body := .sv [.ptr D 0, .v (.int .i64 bs), .v (.int .i64 r)]
def slOK (slot : Int) : Bool := decide (slot = 0 ∨ slot = 1)
def atV (bs r : Nat) (slot : Int) : Int := if slot = 1 then bs + (1 + r) else if slot = 0 then bs else 0
theorem satS {D bs r : Nat} {slot : Int} {w : Bool} (hg : H.get i = some ⟨w, slB D bs r⟩) (hb : bs ≤ 4096) (hr : r ≤ 128) :
    SpecAt Tryz.prog nSAt [.ptr i 0, .v (.int .i64 slot)] H n (.tup [.v (.int .i64 (atV bs r slot)), .v (.bool (slOK slot))]) H n := okT.pure tSAt (by
  unfold mSAt
  unfold slB at hg
  simp -implicitDefEqProofs only [↓fnVC, initTm]
  by_cases h0 : slot = 0
  · subst h0
    have w1 : IntKind.i64.wrap (1 + (r : Int)) = 1 + (r : Int) := wrap_i64 (by omega) (by omega)
    have w2 : IntKind.i64.wrap (0 * (1 + (r : Int))) = 0 := by rw [Int.zero_mul]; rfl
    have w3 : IntKind.i64.wrap ((bs : Int) + 0) = bs := by rw [Int.add_zero]; exact wrap_i64 (by omega) (by omega)
    simp -implicitDefEqProofs only [go_sem, hg, w1, w2, w3]
    rfl
  by_cases h1 : slot = 1
  · subst h1
    have w1 : IntKind.i64.wrap (1 + (r : Int)) = 1 + (r : Int) := wrap_i64 (by omega) (by omega)
    have w2 : IntKind.i64.wrap (1 * (1 + (r : Int))) = 1 + r := by rw [Int.one_mul]; exact w1
    have w3 : IntKind.i64.wrap ((bs : Int) + (1 + r)) = bs + (1 + r) := wrap_i64 (by omega) (by omega)
    simp -implicitDefEqProofs only [go_sem, hg, w1, w2, w3]
    rfl
  · have e1 : slOK slot = false := decide_eq_false (by omega)
    have e2 : atV bs r slot = 0 := by unfold atV; rw [if_neg h1, if_neg h0]
    rw [e1, e2]
    by_cases h2 : slot < 0
    · have a1 := decide_eq_true h2
      simp -implicitDefEqProofs only [go_sem, hg, a1]
    · have a1 := decide_eq_false h2
      have a2 : decide (slot > 1) = true := decide_eq_true (by omega)
      simp -implicitDefEqProofs only [go_sem, hg, a1, a2])
def fitB (r : Nat) (k : Int) : Bool := decide (k ≤ 8192 ∧ k ≤ r * 64)
theorem fitsS {D bs r : Nat} {k : Int} {w : Bool} (hg : H.get i = some ⟨w, slB D bs r⟩) (hr : r ≤ 128) :
    SpecAt Tryz.prog nSFits [.ptr i 0, .v (.int .i64 k)] H n (.v (.bool (fitB r k))) H n := okT.pure tSFits (by
  unfold mSFits
  unfold slB at hg
  have w1 : IntKind.i64.wrap ((r : Int) * 64) = r * 64 := wrap_i64 (by omega) (by omega)
  simp -implicitDefEqProofs only [↓fnVC, initTm]
  by_cases h0 : k ≤ 8192
  · have a0 := decide_eq_true h0
    have e1 : fitB r k = decide (k ≤ (r : Int) * 64) := by unfold fitB; simp [h0]
    rw [e1]
    simp -implicitDefEqProofs only [go_sem, hg, a0, w1]
  · have a0 := decide_eq_false h0
    have e1 : fitB r k = false := decide_eq_false (by omega)
    rw [e1]
    simp -implicitDefEqProofs only [go_sem, hg, a0])
def opP (m : Nat) (bs r : Int) : Prop := 0 ≤ bs ∧ 1 ≤ r ∧ r ≤ 128 ∧ bs + 2 * (1 + r) ≤ m
instance {m : Nat} {bs r : Int} : Decidable (opP m bs r) := by unfold opP; infer_instance
theorem openNo {bs r : Int} {w : Bool} (hg : H.get i = some ⟨true, devB d a b c⟩) (hl : d.seen.length ≤ 4096) (hP : ¬ opP d.seen.length bs r) (h64 : bs < 9223372036854775808 ∧ -9223372036854775808 ≤ bs ∧ r < 9223372036854775808 ∧ -9223372036854775808 ≤ r) :
    SpecAt Tryz.prog nSOpen [.ptr i 0, .v (.int .i64 bs), .v (.int .i64 r)] H n (.tup [.v (.pointer none), .v (.int .i64 1)]) H n := okT.pure tSOpen (by
  unfold mSOpen
  unfold opP at hP
  simp -implicitDefEqProofs only [↓fnVC, initTm]
  by_cases h0 : bs < 0
  · have a0 := decide_eq_true h0
    simp -implicitDefEqProofs only [go_sem, a0]
  have a0 := decide_eq_false h0
  by_cases h1 : r < 1
  · have a1 := decide_eq_true h1
    simp -implicitDefEqProofs only [go_sem, a0, a1]
  have a1 := decide_eq_false h1
  by_cases h2 : r > 128
  · have a2 := decide_eq_true h2
    simp -implicitDefEqProofs only [go_sem, a0, a1, a2]
  have a2 := decide_eq_false h2
  simp -implicitDefEqProofs only [go_sem, a0, a1, a2]
  refine at_call tFSectors (seS hg) ?_
  have w1 : IntKind.i64.wrap (1 + r) = 1 + r := wrap_i64 (by omega) (by omega)
  have w2 : IntKind.i64.wrap (2 * (1 + r)) = 2 * (1 + r) := wrap_i64 (by omega) (by omega)
  have w3 : IntKind.i64.wrap ((d.seen.length : Int) - 2 * (1 + r)) = (d.seen.length : Int) - 2 * (1 + r) := wrap_i64 (by omega) (by omega)
  have a3 : decide (bs > (d.seen.length : Int) - 2 * (1 + r)) = true := decide_eq_true (by omega)
  simp -implicitDefEqProofs only [go_sem, a0, a1, a2, w1, w2, w3, a3])
theorem openW {bs r : Nat} (hl : d.seen.length ≤ 4096) (hP : opP d.seen.length bs r) (ho : d.off = false) :
    fnVC CT mSOpen [.ptr 1 0, .v (.int .i64 bs), .v (.int .i64 r)] (hp3 d x) 5 fun v H' n' => Sub 5 ⟨[(0, .tup [.ptr 5 0, .v (.int .i64 0)])], ⟨devL d 1 2 3 4 [(5, some ⟨true, slB 1 bs r⟩)], x⟩, 6⟩ ⟨[(0, v)], H', n'⟩ := by
  unfold mSOpen
  unfold opP at hP
  have a0 : decide ((bs : Int) < 0) = false := decide_eq_false (by omega)
  have a1 : decide ((r : Int) < 1) = false := decide_eq_false (by omega)
  have a2 : decide ((r : Int) > 128) = false := decide_eq_false (by omega)
  have w1 : IntKind.i64.wrap (1 + (r : Int)) = 1 + r := wrap_i64 (by omega) (by omega)
  have w2 : IntKind.i64.wrap (2 * (1 + (r : Int))) = 2 * (1 + r) := wrap_i64 (by omega) (by omega)
  have w3 : IntKind.i64.wrap ((d.seen.length : Int) - 2 * (1 + r)) = (d.seen.length : Int) - 2 * (1 + r) := wrap_i64 (by omega) (by omega)
  have a3 : decide ((bs : Int) > (d.seen.length : Int) - 2 * (1 + r)) = false := decide_eq_false (by omega)
  unfold hp3
  simp -implicitDefEqProofs only [↓fnVC, initTm]
  simp -implicitDefEqProofs only [go_sem, a0, a1, a2]
  refine at_call tFSectors (seS (d := d) (a := 2) (b := 3) (c := 4) (by rfl)) ?_
  simp -implicitDefEqProofs only [go_sem, w1, w2, w3, a3]
  refine at_call tFOff (offS (d := d) (a := 2) (b := 3) (c := 4) (by rfl)) ?_
  simp -implicitDefEqProofs only [go_sem, ho]
  refine sub_mk [] rfl rfl rfl ?_
  simp only [tmSub, hpSub, objSub, eqTm, eqHp, rn, lk, SV.ren, SV.renC, SV.renB, SV.renA, ren_ints, ren_strs, ren_pl, ren_svs, List.map_cons, List.map_nil, forall_const, Nat.reduceLT, true_and, and_true, ob_some, get_mk, lk_cons, ↓reduceIte, Nat.reduceEqDiff, Nat.reduceAdd, implies_true, reduceCtorEq, slB, devB, devL, secB]
  rfl
theorem openS {bs r : Nat} (h : DevAt H d i a b c) (hl : d.seen.length ≤ 4096) (hP : opP d.seen.length bs r) (ho : d.off = false) (hn : n < 1000) :
    SpecAt Tryz.prog nSOpen [.ptr i 0, .v (.int .i64 bs), .v (.int .i64 r)] H n (.tup [.ptr n 0, .v (.int .i64 0)]) ⟨devL d i a b c ((n, some ⟨true, slB i bs r⟩) :: H.l), H.x⟩ (n + 1) := by
  obtain ⟨hi, ha, hb, hc, ⟨p1, p2, p3, p4⟩, ⟨q1, q2, q3, q4⟩, n1, n2, n3, n4, n5, n6⟩ := h
  have := lift (n := n) (okT.spec tSOpen (openW (x := H.x) hl hP ho)) [(1, i), (2, a), (3, b), (4, c)] rfl rfl rfl (by omega) rfl rfl
    ⟨sub_wr rfl p1 q1 hi rfl, sub_wr rfl p2 q2 ha rfl, sub_wr rfl p3 q3 hb rfl, sub_wr rfl p4 q4 hc rfl, trivial⟩
    (by simp [apartB, apart1, rn, lk, n1, n2, n3, n4, n5, n6, Ne.symm n1, Ne.symm n2, Ne.symm n3, Ne.symm n4, Ne.symm n5, Ne.symm n6]) (by simp [wrNZ, rn, lk]; omega) (by omega)
  exact this
theorem ropenNo {bs r : Int} (hg : RefAt H d i a b u1 u2 u3) (hl : d.seen.length ≤ 4096) (hP : ¬ opP d.seen.length bs r) (h64 : bs < 9223372036854775808 ∧ -9223372036854775808 ≤ bs ∧ r < 9223372036854775808 ∧ -9223372036854775808 ≤ r) :
    SpecAt Tryz.prog nrSOpen [.ptr i 0, .v (.int .i64 bs), .v (.int .i64 r)] H n (.tup [.v (.pointer none), .v (.int .i64 1)]) H n := okT.pure trSOpen (by
  have hgi := hg.gi
  unfold refB at hgi
  unfold mrSOpen
  unfold opP at hP
  simp -implicitDefEqProofs only [↓fnVC, initTm]
  by_cases h0 : bs < 0
  · have a0 := decide_eq_true h0
    simp -implicitDefEqProofs only [go_sem, a0]
  have a0 := decide_eq_false h0
  by_cases h00 : bs > 4096
  · have a00 := decide_eq_true h00
    simp -implicitDefEqProofs only [go_sem, a0, a00]
  have a00 := decide_eq_false h00
  by_cases h1 : r < 1
  · have a1 := decide_eq_true h1
    simp -implicitDefEqProofs only [go_sem, a0, a00, a1]
  have a1 := decide_eq_false h1
  by_cases h2 : r > 128
  · have a2 := decide_eq_true h2
    simp -implicitDefEqProofs only [go_sem, a0, a00, a1, a2]
  have a2 := decide_eq_false h2
  have w1 : IntKind.i64.wrap (1 + r) = 1 + r := wrap_i64 (by omega) (by omega)
  have w2 : IntKind.i64.wrap (2 * (1 + r)) = 2 * (1 + r) := wrap_i64 (by omega) (by omega)
  have w3 : IntKind.i64.wrap (bs + 2 * (1 + r)) = bs + 2 * (1 + r) := wrap_i64 (by omega) (by omega)
  have a3 : decide (bs + 2 * (1 + r) > (d.seen.length : Int)) = true := decide_eq_true (by omega)
  simp -implicitDefEqProofs only [go_sem, a0, a00, a1, a2, w1, w2, w3, hgi, a3])
theorem ropenW {bs r : Nat} (hl : d.seen.length ≤ 4096) (hP : opP d.seen.length bs r) (ho : d.off = false) :
    fnVC CT mrSOpen [.ptr 1 0, .v (.int .i64 bs), .v (.int .i64 r)] ⟨refL d 1 2 3 [], x⟩ 4 fun v H' n' => Sub 4 ⟨[(0, .tup [.ptr 4 0, .v (.int .i64 0)])], ⟨refL d 1 2 3 [(4, some ⟨true, slB 1 bs r⟩)], x⟩, 5⟩ ⟨[(0, v)], H', n'⟩ := by
  unfold mrSOpen
  unfold opP at hP
  have a0 : decide ((bs : Int) < 0) = false := decide_eq_false (by omega)
  have a00 : decide ((bs : Int) > 4096) = false := decide_eq_false (by omega)
  have a1 : decide ((r : Int) < 1) = false := decide_eq_false (by omega)
  have a2 : decide ((r : Int) > 128) = false := decide_eq_false (by omega)
  have w1 : IntKind.i64.wrap (1 + (r : Int)) = 1 + r := wrap_i64 (by omega) (by omega)
  have w2 : IntKind.i64.wrap (2 * (1 + (r : Int))) = 2 * (1 + r) := wrap_i64 (by omega) (by omega)
  have w3 : IntKind.i64.wrap ((bs : Int) + 2 * (1 + r)) = (bs : Int) + 2 * (1 + r) := wrap_i64 (by omega) (by omega)
  have a3 : decide ((bs : Int) + 2 * (1 + r) > (d.seen.length : Int)) = false := decide_eq_false (by omega)
  unfold refL refB strB
  simp -implicitDefEqProofs only [↓fnVC, initTm]
  simp -implicitDefEqProofs only [go_sem, a0, a00, a1, a2, w1, w2, w3, a3, ho]
  refine sub_mk [] rfl rfl rfl ?_
  simp only [tmSub, hpSub, objSub, eqTm, eqHp, rn, lk, SV.ren, SV.renC, SV.renB, SV.renA, ren_ints, ren_strs, ren_pl, ren_svs, List.map_cons, List.map_nil, forall_const, Nat.reduceLT, true_and, and_true, ob_some, get_mk, lk_cons, ↓reduceIte, Nat.reduceEqDiff, Nat.reduceAdd, implies_true, reduceCtorEq, slB]
  rfl
theorem ropenS {bs r : Nat} (h : RefAt H d i a b true true true) (hl : d.seen.length ≤ 4096) (hP : opP d.seen.length bs r) (ho : d.off = false) (hn : n < 1000) :
    SpecAt Tryz.prog nrSOpen [.ptr i 0, .v (.int .i64 bs), .v (.int .i64 r)] H n (.tup [.ptr n 0, .v (.int .i64 0)]) ⟨refL d i a b ((n, some ⟨true, slB i bs r⟩) :: H.l), H.x⟩ (n + 1) := by
  obtain ⟨hi, ha, hb, ⟨p1, p2, p3⟩, ⟨q1, q2, q3⟩, n1, n2, n3⟩ := h
  have := lift (n := n) (okT.spec trSOpen (ropenW (x := H.x) hl hP ho)) [(1, i), (2, a), (3, b)] rfl rfl rfl (by omega) rfl rfl
    ⟨sub_wr rfl p1 q1 hi rfl, sub_wr rfl p2 q2 ha rfl, sub_wr rfl p3 q3 hb rfl, trivial⟩
    (by simp [refL, apartB, apart1, rn, lk, n1, n2, n3, Ne.symm n1, Ne.symm n2, Ne.symm n3]) (by simp [refL, wrNZ, rn, lk]; omega) (by omega)
  exact this
def hdrL (v : Nat) (I : ByteArray) : List Int := be v 1 ++ be I.size 4 ++ bts (sha (bts I)) ++ be v 1
def hdrT (v : Nat) (I : ByteArray) : ByteArray := tx (hdrL v I)
theorem hdr_size {v : Nat} {I : ByteArray} : (hdrT v I).size = 38 := by
  unfold hdrT hdrL
  simp only [tx_sz, List.length_append, be_len, bts_len, sha_size]
theorem sum1S {i : Nat} {s : ByteArray} (hr : rowAt H i (.strs []) = some (.strs [s])) (hs : s.size ≤ 1073741824) : SpecAt Tryz.prog 102 [.sl i 0 1 1] H n (.v (.string (sha (bts s)))) H n := by
  have hc : catb (([s].drop 0).take 1) = bts s := by simp [catb]
  have hk := sumS (n := n) (o := 0) (m := 1) hr (by show 0 + 1 ≤ 1; decide) (by decide) (by rw [hc, bts_len]; omega)
  rw [hc] at hk
  exact hk
end Sl
end
section
/- Slots: a write, step by step. -/
set_option linter.unusedVariables false
set_option linter.unusedSimpArgs false
set_option maxRecDepth 100000
open Go.Proofs
namespace Sl
variable {H : Hp} {n : Nat} {x : Nat → Option SO} {d d' : Fd} {i a b c : Nat} {u1 u2 u3 : Bool}
def thn (p : Int × Fd) (f : Fd → Int × Fd) : Int × Fd := if p.1 = 0 then f p.2 else p
theorem thn_ok {p : Int × Fd} {f : Fd → Int × Fd} (h : p.1 = 0) : thn p f = f p.2 := if_pos h
theorem thn_no {p : Int × Fd} {f : Fd → Int × Fd} (h : p.1 ≠ 0) : thn p f = p := if_neg h
theorem thn_pl {p : Int × Fd} {f : Fd → Int × Fd} {m t : Nat} (hP : Pl p.2 m t) (hf : Pl p.2 m t → Pl (f p.2).2 m (t + 1)) : Pl (thn p f).2 m (t + 1) := by
  unfold thn; split
  · exact hf hP
  · exact hP.more
def chk (I : ByteArray) (j : Nat) : ByteArray := I.extract (64 * j) (min (64 * j + 64) I.size)
def cws (at_ : Int) (I : ByteArray) (p : Int × Fd) : Nat → Int × Fd
  | 0 => p
  | j + 1 => thn (cws at_ I p j) fun d => wrT d (at_ + 1 + j) (chk I j)
def nCh (I : ByteArray) : Nat := (I.size + 63) / 64
def p1 (at_ : Int) (d : Fd) : Int × Fd := thn (wrT d at_ ⟨#[]⟩) baT
def pC (at_ : Int) (I : ByteArray) (d : Fd) (j : Nat) : Int × Fd := cws at_ I (p1 at_ d) j
def p2 (at_ : Int) (I : ByteArray) (d : Fd) : Int × Fd := thn (pC at_ I d (nCh I)) baT
def p3 (at_ : Int) (v : Nat) (I : ByteArray) (d : Fd) : Int × Fd := thn (p2 at_ I d) fun d => wrT d at_ (hdrT v I)
def slW (at_ : Int) (v : Nat) (I : ByteArray) (d : Fd) : Int × Fd := thn (p3 at_ v I d) baT
theorem p1_pl {at_ : Int} {m t : Nat} (hP : Pl d m t) (ht : t + 1000 < 1000000) : Pl (p1 at_ d).2 m (t + 2) :=
  thn_pl (wrT_pl hP (by omega)) fun h => baT_pl h (by omega)
theorem pC_pl {at_ : Int} {I : ByteArray} {m t : Nat} (hP : Pl d m t) (ht : t + 1000 < 1000000) : ∀ {j}, j ≤ 200 → Pl (pC at_ I d j).2 m (t + 2 + j)
  | 0, _ => p1_pl hP ht
  | j + 1, h => thn_pl (pC_pl hP ht (by omega)) fun h => wrT_pl h (by show t + 2 + j < 1000000; omega)
theorem nCh_lt {I : ByteArray} {j : Nat} : j < nCh I ↔ 64 * j < I.size := by unfold nCh; omega
theorem nCh_le {I : ByteArray} (h : I.size ≤ 8192) : nCh I ≤ 128 := by unfold nCh; omega
theorem p2_pl {at_ : Int} {I : ByteArray} {m t : Nat} (hP : Pl d m t) (ht : t + 1000 < 1000000) (hI : I.size ≤ 8192) : Pl (p2 at_ I d).2 m (t + 131) := by
  have h1 := pC_pl (at_ := at_) (I := I) hP ht (j := nCh I) (by have := nCh_le hI; omega)
  have h2 := thn_pl h1 (f := baT) fun h => baT_pl h (by have := nCh_le hI; omega)
  exact h2.mono (by have := nCh_le hI; omega)
theorem p3_pl {at_ : Int} {v : Nat} {I : ByteArray} {m t : Nat} (hP : Pl d m t) (ht : t + 1000 < 1000000) (hI : I.size ≤ 8192) : Pl (p3 at_ v I d).2 m (t + 132) :=
  thn_pl (p2_pl hP ht hI) fun h => wrT_pl h (by omega)
theorem slW_pl {at_ : Int} {v : Nat} {I : ByteArray} {m t : Nat} (hP : Pl d m t) (ht : t + 1000 < 1000000) (hI : I.size ≤ 8192) : Pl (slW at_ v I d).2 m (t + 133) :=
  thn_pl (p3_pl hP ht hI) fun h => baT_pl h (by omega)
def stH (e : Int) (d : Fd) (bs r : Nat) (x : Nat → Option SO) : Hp := ⟨(1, some ⟨true, .sv [.v (.int .i64 e)]⟩) :: (2, some ⟨false, .sv [.ptr 3 0]⟩) :: (3, some ⟨false, slB 4 bs r⟩) :: devL d 4 5 6 7 [], x⟩
def stL (e : Int) (d : Fd) : List (Nat × Option SO) := [(1, some ⟨true, .sv [.v (.int .i64 e)]⟩), (4, some ⟨true, devB d 8 9 10⟩), (5, none), (6, none), (7, none), (8, some ⟨true, secB d.seen⟩), (9, some ⟨true, secB d.safe⟩), (10, some ⟨true, .pl (prow d.pend)⟩)]
theorem sw1W {p : Int × Fd} {bs r : Nat} {k : Int} {s : ByteArray} {m t : Nat} (hP : Pl p.2 m t) (ht : t < 1000000) :
    fnVC CT mSWrite1 [.v (.int .i64 k), .v (.string s), .ptr 1 0, .ptr 2 0] (stH p.1 p.2 bs r x) 8 fun v H' n' => Sub 8 ⟨[(0, .tup [])], ⟨stL (thn p fun d => wrT d k s).1 (thn p fun d => wrT d k s).2, x⟩, 11⟩ ⟨[(0, v)], H', n'⟩ := by
  obtain ⟨e, d⟩ := p
  unfold mSWrite1 stH devL slB devB
  simp -implicitDefEqProofs only [↓fnVC, initTm]
  by_cases h0 : e = 0
  · subst h0
    rw [thn_ok rfl]
    simp -implicitDefEqProofs only [go_sem]
    generalize hw : wrT d k s = q
    obtain ⟨e', d'⟩ := q
    refine at_call tFWrite (wrTS (i := 4) (a := 5) (b := 6) (c := 7) (d := d) ⟨by rfl, by rfl, by rfl, by rfl, by decide⟩ hP ht (by decide) hw) ?_
    unfold devB
    simp -implicitDefEqProofs only [go_sem]
    refine sub_mk [] rfl rfl rfl ?_
    simp only [tmSub, hpSub, objSub, eqTm, eqHp, rn, lk, SV.ren, SV.renC, SV.renB, SV.renA, ren_ints, ren_strs, ren_pl, ren_svs, List.map_cons, List.map_nil, forall_const, Nat.reduceLT, true_and, and_true, ob_some, get_mk, lk_cons, ↓reduceIte, Nat.reduceEqDiff, Nat.reduceAdd, implies_true, reduceCtorEq, stL, devB]
    exact ⟨rfl, rfl⟩
  · have a0 : decide (e = 0) = false := decide_eq_false h0
    rw [thn_no h0]
    simp -implicitDefEqProofs only [go_sem, a0]
    refine sub_mk [(8, 5), (9, 6), (10, 7)] rfl rfl rfl ?_
    simp only [tmSub, hpSub, objSub, eqTm, eqHp, rn, lk, SV.ren, SV.renC, SV.renB, SV.renA, ren_ints, ren_strs, ren_pl, ren_svs, List.map_cons, List.map_nil, forall_const, Nat.reduceLT, true_and, and_true, ob_some, get_mk, lk_cons, ↓reduceIte, Nat.reduceEqDiff, Nat.reduceAdd, implies_true, reduceCtorEq, stL, devB]
    exact ⟨rfl, rfl⟩
theorem sw2W {p : Int × Fd} {bs r : Nat} {m t : Nat} (hP : Pl p.2 m t) (ht : t < 1000000) :
    fnVC CT mSWrite2 [.ptr 1 0, .ptr 2 0] (stH p.1 p.2 bs r x) 8 fun v H' n' => Sub 8 ⟨[(0, .tup [])], ⟨stL (thn p baT).1 (thn p baT).2, x⟩, 11⟩ ⟨[(0, v)], H', n'⟩ := by
  obtain ⟨e, d⟩ := p
  unfold mSWrite2 stH devL slB devB
  simp -implicitDefEqProofs only [↓fnVC, initTm]
  by_cases h0 : e = 0
  · subst h0
    rw [thn_ok rfl]
    simp -implicitDefEqProofs only [go_sem]
    generalize hw : baT d = q
    obtain ⟨e', d'⟩ := q
    refine at_call tFBarrier (baTS (i := 4) (a := 5) (b := 6) (c := 7) (d := d) ⟨by rfl, by rfl, by rfl, by rfl, by decide⟩ hP ht (by decide) hw) ?_
    unfold devB
    simp -implicitDefEqProofs only [go_sem]
    refine sub_mk [] rfl rfl rfl ?_
    simp only [tmSub, hpSub, objSub, eqTm, eqHp, rn, lk, SV.ren, SV.renC, SV.renB, SV.renA, ren_ints, ren_strs, ren_pl, ren_svs, List.map_cons, List.map_nil, forall_const, Nat.reduceLT, true_and, and_true, ob_some, get_mk, lk_cons, ↓reduceIte, Nat.reduceEqDiff, Nat.reduceAdd, implies_true, reduceCtorEq, stL, devB]
    exact ⟨rfl, rfl⟩
  · have a0 : decide (e = 0) = false := decide_eq_false h0
    rw [thn_no h0]
    simp -implicitDefEqProofs only [go_sem, a0]
    refine sub_mk [(8, 5), (9, 6), (10, 7)] rfl rfl rfl ?_
    simp only [tmSub, hpSub, objSub, eqTm, eqHp, rn, lk, SV.ren, SV.renC, SV.renB, SV.renA, ren_ints, ren_strs, ren_pl, ren_svs, List.map_cons, List.map_nil, forall_const, Nat.reduceLT, true_and, and_true, ob_some, get_mk, lk_cons, ↓reduceIte, Nat.reduceEqDiff, Nat.reduceAdd, implies_true, reduceCtorEq, stL, devB]
    exact ⟨rfl, rfl⟩
structure StAt (H : Hp) (e : Int) (d : Fd) (bs r j1 j2 j3 i a b c : Nat) : Prop where
  g1 : H.get j1 = some ⟨true, .sv [.v (.int .i64 e)]⟩
  g2 : ∃ w, H.get j2 = some ⟨w, .sv [.ptr j3 0]⟩
  g3 : ∃ w, H.get j3 = some ⟨w, slB i bs r⟩
  gi : H.get i = some ⟨true, devB d a b c⟩
  ga : H.get a = some ⟨true, secB d.seen⟩
  gb : H.get b = some ⟨true, secB d.safe⟩
  gc : H.get c = some ⟨true, .pl (prow d.pend)⟩
  ne : ([j1, j2, j3, i, a, b, c].all fun k => decide (0 < k ∧ k < 1000)) = true
  ap : ∀ x, apartB [(1, j1), (2, j2), (3, j3), (4, i), (5, a), (6, b), (7, c)] (stH e d bs r x).l (stH e d bs r x).l = true
  nz : ∀ x, wrNZ [(1, j1), (2, j2), (3, j3), (4, i), (5, a), (6, b), (7, c)] (stH e d bs r x).l = true
theorem StAt.sub {e : Int} {bs r j1 j2 j3 : Nat} (h : StAt H e d bs r j1 j2 j3 i a b c) : hpSub [(1, j1), (2, j2), (3, j3), (4, i), (5, a), (6, b), (7, c)] H (stH e d bs r H.x).l := by
  obtain ⟨g1, ⟨w2, g2⟩, ⟨w3, g3⟩, gi, ga, gb, gc, hp, _, _⟩ := h
  simp at hp
  exact ⟨sub_wr rfl hp.1.1 hp.1.2 g1 rfl, sub_ro rfl hp.2.1.1 g2 rfl, sub_ro rfl hp.2.2.1.1 g3 rfl, sub_wr rfl hp.2.2.2.1.1 hp.2.2.2.1.2 gi rfl, sub_wr rfl hp.2.2.2.2.1.1 hp.2.2.2.2.1.2 ga rfl, sub_wr rfl hp.2.2.2.2.2.1.1 hp.2.2.2.2.2.1.2 gb rfl, sub_wr rfl hp.2.2.2.2.2.2.1 hp.2.2.2.2.2.2.2 gc rfl, trivial⟩
def stF (e : Int) (d : Fd) (n j1 i a b c : Nat) (l : List (Nat × Option SO)) : List (Nat × Option SO) := (j1, some ⟨true, .sv [.v (.int .i64 e)]⟩) :: (i, some ⟨true, devB d n (n + 1) (n + 1 + 1)⟩) :: (a, none) :: (b, none) :: (c, none) :: (n, some ⟨true, secB d.seen⟩) :: (n + 1, some ⟨true, secB d.safe⟩) :: (n + 1 + 1, some ⟨true, .pl (prow d.pend)⟩) :: l
theorem stF_eq {e : Int} {d : Fd} {n j1 i a b c : Nat} {l : List (Nat × Option SO)} : stF e d n j1 i a b c l = (j1, some ⟨true, .sv [.v (.int .i64 e)]⟩) :: (i, some ⟨true, devB d n (n + 1) (n + 1 + 1)⟩) :: (a, none) :: (b, none) :: (c, none) :: (n, some ⟨true, secB d.seen⟩) :: (n + 1, some ⟨true, secB d.safe⟩) :: (n + 1 + 1, some ⟨true, .pl (prow d.pend)⟩) :: l := rfl
theorem sw1S {p q : Int × Fd} {bs r j1 j2 j3 : Nat} {k : Int} {s : ByteArray} {m t : Nat} (h : StAt H p.1 p.2 bs r j1 j2 j3 i a b c) (hP : Pl p.2 m t) (ht : t < 1000000) (hn : n + 3 ≤ 1000) (hq : (thn p fun d => wrT d k s) = q) :
    SpecAt Tryz.prog nSWrite1 [.v (.int .i64 k), .v (.string s), .ptr j1 0, .ptr j2 0] H n (.tup []) ⟨stF q.1 q.2 n j1 i a b c H.l, H.x⟩ (n + 3) := by
  subst hq
  have := lift (n := n) (okT.spec tSWrite1 (sw1W (x := H.x) (bs := bs) (r := r) (k := k) (s := s) hP ht)) [(1, j1), (2, j2), (3, j3), (4, i), (5, a), (6, b), (7, c)] rfl rfl rfl (by omega) rfl rfl h.sub
    (h.ap H.x) (h.nz H.x) (by omega)
  exact this
theorem sw2S {p q : Int × Fd} {bs r j1 j2 j3 : Nat} {m t : Nat} (h : StAt H p.1 p.2 bs r j1 j2 j3 i a b c) (hP : Pl p.2 m t) (ht : t < 1000000) (hn : n + 3 ≤ 1000) (hq : thn p baT = q) :
    SpecAt Tryz.prog nSWrite2 [.ptr j1 0, .ptr j2 0] H n (.tup []) ⟨stF q.1 q.2 n j1 i a b c H.l, H.x⟩ (n + 3) := by
  subst hq
  have := lift (n := n) (okT.spec tSWrite2 (sw2W (x := H.x) (bs := bs) (r := r) hP ht)) [(1, j1), (2, j2), (3, j3), (4, i), (5, a), (6, b), (7, c)] rfl rfl rfl (by omega) rfl rfl h.sub
    (h.ap H.x) (h.nz H.x) (by omega)
  exact this
end Sl
end
section
/- Slots: the program's Write. -/
set_option linter.unusedVariables false
set_option linter.unusedSimpArgs false
set_option maxRecDepth 100000
open Go.Proofs
namespace Sl
variable {H : Hp} {n : Nat} {x : Nat → Option SO} {d d' : Fd} {i a b c : Nat} {u1 u2 u3 : Bool}
def swE (r : Nat) (slot ver : Int) (I : ByteArray) : Int := if slOK slot = false ∨ ver < 1 ∨ 255 < ver ∨ I = ⟨#[]⟩ then 1 else if 8192 < I.size ∨ r * 64 < I.size then 4 else 0
def swR (bs r : Nat) (slot ver : Int) (I : ByteArray) (d : Fd) : Int × Fd := if swE r slot ver I = 0 then slW (atV bs r slot) ver.toNat I d else (swE r slot ver I, d)
def swH (d : Fd) (bs r : Nat) (x : Nat → Option SO) : Hp := ⟨(1, some ⟨false, slB 2 bs r⟩) :: devL d 2 3 4 5 [], x⟩
def swL (d : Fd) : List (Nat × Option SO) := [(2, some ⟨true, devB d 6 7 8⟩), (3, none), (4, none), (5, none), (6, some ⟨true, secB d.seen⟩), (7, some ⟨true, secB d.safe⟩), (8, some ⟨true, .pl (prow d.pend)⟩)]
theorem swriteW {bs r : Nat} {slot ver : Int} {I : ByteArray} {m t : Nat} (hb : bs ≤ 4096) (hr : r ≤ 128) (hP : Pl d m t) (ht : t + 1000 < 1000000) :
    fnVC CT mSWrite [.ptr 1 0, .v (.int .i64 slot), .v (.int .i64 ver), .v (.string I)] (swH d bs r x) 6 fun v H' n' => Sub 6 ⟨[(0, .v (.int .i64 (swR bs r slot ver I d).1))], ⟨swL (swR bs r slot ver I d).2, x⟩, 9⟩ ⟨[(0, v)], H', n'⟩ := by
  unfold mSWrite swH devL devB slB
  simp -implicitDefEqProofs only [↓fnVC, initTm]
  simp -implicitDefEqProofs only [go_sem]
  refine at_call tSAt (satS (i := 1) (D := 2) (bs := bs) (r := r) (by rfl) hb hr) ?_
  have bad : ∀ e, e ≠ 0 → swE r slot ver I = e → swR bs r slot ver I d = (e, d) := fun e he h => by unfold swR; rw [h, if_neg he]
  by_cases h0 : slOK slot = false
  · rw [bad 1 (by decide) (if_pos (.inl h0))]
    simp -implicitDefEqProofs only [go_sem, h0]
    refine sub_mk [(6, 3), (7, 4), (8, 5)] rfl rfl rfl ?_
    simp only [tmSub, hpSub, objSub, eqTm, eqHp, rn, lk, SV.ren, SV.renC, SV.renB, SV.renA, ren_ints, ren_strs, ren_pl, ren_svs, SV.v.injEq, Value.int.injEq, Body.ints.injEq, SV.ptr.injEq, SV.sl.injEq, List.map_cons, List.map_nil, forall_const, Nat.reduceLT, imp_self, true_and, and_true, and_self, ob_some, get_mk, lk_cons, ↓reduceIte, Nat.reduceEqDiff, Nat.reduceAdd, false_implies, implies_true, reduceCtorEq, swL, devB]
    exact ⟨rfl, rfl⟩
  have b0 : slOK slot = true := by simpa using h0
  by_cases h1 : ver < 1
  · have a1 := decide_eq_true h1
    rw [bad 1 (by decide) (if_pos (.inr (.inl h1)))]
    simp -implicitDefEqProofs only [go_sem, b0, a1]
    refine sub_mk [(6, 3), (7, 4), (8, 5)] rfl rfl rfl ?_
    simp only [tmSub, hpSub, objSub, eqTm, eqHp, rn, lk, SV.ren, SV.renC, SV.renB, SV.renA, ren_ints, ren_strs, ren_pl, ren_svs, SV.v.injEq, Value.int.injEq, Body.ints.injEq, SV.ptr.injEq, SV.sl.injEq, List.map_cons, List.map_nil, forall_const, Nat.reduceLT, imp_self, true_and, and_true, and_self, ob_some, get_mk, lk_cons, ↓reduceIte, Nat.reduceEqDiff, Nat.reduceAdd, false_implies, implies_true, reduceCtorEq, swL, devB]
    exact ⟨rfl, rfl⟩
  have a1 := decide_eq_false h1
  by_cases h2 : ver > 255
  · have a2 := decide_eq_true h2
    rw [bad 1 (by decide) (if_pos (.inr (.inr (.inl h2))))]
    simp -implicitDefEqProofs only [go_sem, b0, a1, a2]
    refine sub_mk [(6, 3), (7, 4), (8, 5)] rfl rfl rfl ?_
    simp only [tmSub, hpSub, objSub, eqTm, eqHp, rn, lk, SV.ren, SV.renC, SV.renB, SV.renA, ren_ints, ren_strs, ren_pl, ren_svs, SV.v.injEq, Value.int.injEq, Body.ints.injEq, SV.ptr.injEq, SV.sl.injEq, List.map_cons, List.map_nil, forall_const, Nat.reduceLT, imp_self, true_and, and_true, and_self, ob_some, get_mk, lk_cons, ↓reduceIte, Nat.reduceEqDiff, Nat.reduceAdd, false_implies, implies_true, reduceCtorEq, swL, devB]
    exact ⟨rfl, rfl⟩
  have a2 := decide_eq_false h2
  by_cases h3 : I = ⟨#[]⟩
  · have a3 : seq I ⟨#[]⟩ = true := by rw [h3]; exact seq_self _
    rw [bad 1 (by decide) (if_pos (.inr (.inr (.inr h3))))]
    simp -implicitDefEqProofs only [go_sem, b0, a1, a2, a3]
    refine sub_mk [(6, 3), (7, 4), (8, 5)] rfl rfl rfl ?_
    simp only [tmSub, hpSub, objSub, eqTm, eqHp, rn, lk, SV.ren, SV.renC, SV.renB, SV.renA, ren_ints, ren_strs, ren_pl, ren_svs, SV.v.injEq, Value.int.injEq, Body.ints.injEq, SV.ptr.injEq, SV.sl.injEq, List.map_cons, List.map_nil, forall_const, Nat.reduceLT, imp_self, true_and, and_true, and_self, ob_some, get_mk, lk_cons, ↓reduceIte, Nat.reduceEqDiff, Nat.reduceAdd, false_implies, implies_true, reduceCtorEq, swL, devB]
    exact ⟨rfl, rfl⟩
  have a3 : seq I ⟨#[]⟩ = false := seq_ne h3
  simp -implicitDefEqProofs only [go_sem, b0, a1, a2, a3]
  refine at_call tSFits (fitsS (i := 1) (D := 2) (bs := bs) (r := r) (by rfl) hr) ?_
  by_cases h4 : 8192 < I.size ∨ r * 64 < I.size
  · have a4 : fitB r (I.size : Int) = false := decide_eq_false (by omega)
    rw [bad 4 (by decide) (by unfold swE; rw [if_neg (by simp [b0, h1, h3]; omega), if_pos h4])]
    simp -implicitDefEqProofs only [go_sem, a4]
    refine sub_mk [(6, 3), (7, 4), (8, 5)] rfl rfl rfl ?_
    simp only [tmSub, hpSub, objSub, eqTm, eqHp, rn, lk, SV.ren, SV.renC, SV.renB, SV.renA, ren_ints, ren_strs, ren_pl, ren_svs, SV.v.injEq, Value.int.injEq, Body.ints.injEq, SV.ptr.injEq, SV.sl.injEq, List.map_cons, List.map_nil, forall_const, Nat.reduceLT, imp_self, true_and, and_true, and_self, ob_some, get_mk, lk_cons, ↓reduceIte, Nat.reduceEqDiff, Nat.reduceAdd, false_implies, implies_true, reduceCtorEq, swL, devB]
    exact ⟨rfl, rfl⟩
  have a4 : fitB r (I.size : Int) = true := decide_eq_true (by omega)
  have good : swE r slot ver I = 0 := by unfold swE; rw [if_neg (by simp [b0, h1, h3]; omega), if_neg h4]
  obtain ⟨ver, rfl⟩ : ∃ k : Nat, ver = k := ⟨ver.toNat, by omega⟩
  have hgood : swR bs r slot ver I d = slW (atV bs r slot) ver I d := by unfold swR; rw [if_pos good, Int.toNat_natCast]
  rw [hgood]
  clear bad good hgood
  have hI : I.size ≤ 8192 := by omega
  have hat : 0 ≤ atV bs r slot ∧ atV bs r slot ≤ 4300 := by unfold atV; split <;> (try split) <;> omega
  generalize atV bs r slot = at_ at hat ⊢
  simp -implicitDefEqProofs only [go_sem, a4]
  refine in_call mixT tWByte ?_
  unfold mWByte
  simp -implicitDefEqProofs only [↓fnVC, initTm]
  simp -implicitDefEqProofs only [go_sem]
  refine at_call tWNumber (wNum0S (i := 7) (y := ver) (k := 1) (bad := false) (by rfl) (by decide) (by decide) (by decide) (by omega) (fun _ => by omega)) ?_
  simp -implicitDefEqProofs only [go_sem]
  refine in_call mixT tWFour ?_
  unfold mWFour
  simp -implicitDefEqProofs only [↓fnVC, initTm]
  simp -implicitDefEqProofs only [go_sem]
  refine at_call tWNumber (wNumS (i := 7) (r := 8) (y := I.size) (k := 4) (bs := be ver 1) (bad := false) (by rfl) (by rfl) (by decide) (by decide) (by decide) (by decide) (by decide) (by omega) (fun _ => by omega) (by rw [be_len]; decide)) ?_
  simp -implicitDefEqProofs only [go_sem]
  refine at_call t9 (sum1S (s := I) (by rfl) (by omega)) ?_
  simp -implicitDefEqProofs only [go_sem]
  refine at_call tWHash (wHashS (i := 7) (r := 9) (h := sha (bts I)) (bs := be ver 1 ++ be I.size 4) (bad := false) (by rfl) (by rfl) (by decide) (by decide) (by decide) (by decide) (by simp only [List.length_append, be_len]; decide) (by rw [sha_size]; decide)) ?_
  simp -implicitDefEqProofs only [go_sem]
  refine in_call mixT tWByte ?_
  unfold mWByte
  simp -implicitDefEqProofs only [↓fnVC, initTm]
  simp -implicitDefEqProofs only [go_sem]
  refine at_call tWNumber (wNumS (i := 7) (r := 11) (y := ver) (k := 1) (bs := be ver 1 ++ be I.size 4 ++ bts (sha (bts I))) (bad := (false || decide ((sha (bts I)).size ≠ 32))) (by rfl) (by rfl) (by decide) (by decide) (by decide) (by decide) (by decide) (by omega) (fun _ => by omega) (by simp only [List.length_append, be_len, bts_len, sha_size]; decide)) ?_
  simp -implicitDefEqProofs only [go_sem]
  refine at_call tWBytes (wBytesS (i := 7) (r := 12) (bs := be ver 1 ++ be I.size 4 ++ bts (sha (bts I)) ++ be ver 1) (bad := (false || decide ((sha (bts I)).size ≠ 32))) (by rfl) (by rfl) (by decide) rfl) ?_
  have e0 : (false || decide ((sha (bts I)).size ≠ 32)) = false := by rw [sha_size]; rfl
  rw [e0, if_neg Bool.false_ne_true]
  have eh : tx (be ver 1 ++ be I.size 4 ++ bts (sha (bts I)) ++ be ver 1) = hdrT ver I := rfl
  rw [eh]
  simp -implicitDefEqProofs only [go_sem, List.isEmpty_cons, Bool.false_eq_true, if_false]
  refine at_call tSWrite1 (sw1S (p := (0, d)) (bs := bs) (r := r) (j1 := 13) (j2 := 6) (j3 := 1) (i := 2) (a := 3) (b := 4) (c := 5) ⟨by rfl, ⟨_, by rfl⟩, ⟨_, by rfl⟩, by rfl, by rfl, by rfl, by rfl, by decide, fun _ => rfl, fun _ => rfl⟩ hP (by omega) (by decide) rfl) ?_
  rw [thn_ok rfl, stF_eq]
  simp -implicitDefEqProofs only [go_sem, List.isEmpty_cons, Bool.false_eq_true, if_false, devB]
  refine at_call tSWrite2 (sw2S (p := wrT d at_ ⟨#[]⟩) (bs := bs) (r := r) (j1 := 13) (j2 := 6) (j3 := 1) (i := 2) (a := 14) (b := 15) (c := 16) ⟨by rfl, ⟨_, by rfl⟩, ⟨_, by rfl⟩, by rfl, by rfl, by rfl, by rfl, by decide, fun _ => rfl, fun _ => rfl⟩ (wrT_pl hP (by omega)) (by omega) (by decide) rfl) ?_
  rw [stF_eq, show thn (wrT d at_ ⟨#[]⟩) baT = pC at_ I d 0 from rfl]
  simp -implicitDefEqProofs only [go_sem, List.isEmpty_cons, Bool.false_eq_true, if_false, devB]
  have hC := fun j (h : j ≤ nCh I) => pC_pl (at_ := at_) (I := I) hP ht (j := j) (by have := nCh_le hI; omega)
  have hN := nCh_le hI
  refine loop_fam (fun (j : Nat) => j ≤ nCh I)
    (fun j => ⟨[(2, .v (.int .i64 ver)), (3, .v (.string I)), (9, .v (.int .i64 at_)), (12, .v (.string (hdrT ver I))), (14, .ptr 13 0), (15, .fn 106 [.ptr 13 0, .ptr 6 0]), (16, .fn 107 [.ptr 13 0, .ptr 6 0]), (17, .v (.int .i64 j))], ⟨[(1, some ⟨false, slB 2 bs r⟩), (2, some ⟨true, devB (pC at_ I d j).2 17 18 19⟩), (6, some ⟨true, .sv [.ptr 1 0]⟩), (13, some ⟨true, .sv [.v (.int .i64 (pC at_ I d j).1)]⟩), (17, some ⟨true, secB (pC at_ I d j).2.seen⟩), (18, some ⟨true, secB (pC at_ I d j).2.safe⟩), (19, some ⟨true, .pl (prow (pC at_ I d j).2.pend)⟩)], x⟩, 20⟩)
    (fun j => nCh I - j) 0 (Nat.zero_le _) ?_ ?_
  · refine sub_mk [] rfl rfl rfl ?_
    simp only [tmSub, hpSub, objSub, eqTm, eqHp, rn, lk, SV.ren, SV.renC, SV.renB, SV.renA, ren_ints, ren_strs, ren_pl, ren_svs, SV.v.injEq, Value.int.injEq, Body.ints.injEq, SV.ptr.injEq, SV.sl.injEq, List.map_cons, List.map_nil, forall_const, Nat.reduceLT, imp_self, true_and, and_true, and_self, ob_some, get_mk, lk_cons, ↓reduceIte, Nat.reduceEqDiff, Nat.reduceAdd, false_implies, implies_true, reduceCtorEq, slB, devB]
    exact ⟨rfl, rfl, rfl⟩
  · intro j hj
    have w1 : IntKind.i64.wrap ((j : Int) * 64) = ((64 * j : Nat) : Int) := by rw [wrap_i64 (by omega) (by omega)]; omega
    unfold devB slB
    simp -implicitDefEqProofs only [go_sem, w1]
    refine condK_bb (fun c => ?_) (fun c => ?_)
    · have c1 : 64 * j < I.size := by have := of_decide_eq_true c; omega
      have c2 : j < nCh I := nCh_lt.2 c1
      have w2 : IntKind.i64.wrap ((j : Int) + 1) = ((j + 1 : Nat) : Int) := by rw [wrap_i64 (by omega) (by omega)]; omega
      have w3 : IntKind.i64.wrap (((j + 1 : Nat) : Int) * 64) = ((64 * j + 64 : Nat) : Int) := by rw [wrap_i64 (by omega) (by omega)]; omega
      have w4 : min (((64 * j + 64 : Nat) : Int)) (I.size : Int) = ((min (64 * j + 64) I.size : Nat) : Int) := by omega
      have w5 : IntKind.i64.wrap (at_ + 1) = at_ + 1 := wrap_i64 (by omega) (by omega)
      have w6 : IntKind.i64.wrap (at_ + 1 + (j : Int)) = at_ + 1 + j := wrap_i64 (by omega) (by omega)
      simp -implicitDefEqProofs only [go_sem, c, w1, w2, w3, w4, w5, w6]
      refine ⟨by omega, ?_⟩
      refine at_call tSWrite1 (sw1S (p := pC at_ I d j) (bs := bs) (r := r) (j1 := 13) (j2 := 6) (j3 := 1) (i := 2) (a := 17) (b := 18) (c := 19) ⟨by rfl, ⟨_, by rfl⟩, ⟨_, by rfl⟩, by rfl, by rfl, by rfl, by rfl, by decide, fun _ => rfl, fun _ => rfl⟩ (hC j hj) (by omega) (by decide) rfl) ?_
      rw [stF_eq, show (thn (pC at_ I d j) fun d => wrT d (at_ + 1 + j) (I.extract (64 * j) (min (64 * j + 64) I.size))) = pC at_ I d (j + 1) from rfl]
      simp -implicitDefEqProofs only [go_sem, w2, devB]
      refine kLoop_mk (j + 1) (by omega) (by omega) ?_
      refine sub_mk [(17, 20), (18, 21), (19, 22)] rfl rfl rfl ?_
      simp only [tmSub, hpSub, objSub, eqTm, eqHp, rn, lk, SV.ren, SV.renC, SV.renB, SV.renA, ren_ints, ren_strs, ren_pl, ren_svs, SV.v.injEq, Value.int.injEq, Body.ints.injEq, SV.ptr.injEq, SV.sl.injEq, List.map_cons, List.map_nil, forall_const, Nat.reduceLT, imp_self, true_and, and_true, and_self, ob_some, get_mk, lk_cons, ↓reduceIte, Nat.reduceEqDiff, Nat.reduceAdd, false_implies, implies_true, reduceCtorEq, slB, devB]
      exact ⟨rfl, rfl⟩
    · have c1 : j = nCh I := by have := of_decide_eq_false c; have := @nCh_lt I j; omega
      subst c1
      simp -implicitDefEqProofs only [go_sem, c, w1]
      refine at_call tSWrite2 (sw2S (p := pC at_ I d (nCh I)) (bs := bs) (r := r) (j1 := 13) (j2 := 6) (j3 := 1) (i := 2) (a := 17) (b := 18) (c := 19) ⟨by rfl, ⟨_, by rfl⟩, ⟨_, by rfl⟩, by rfl, by rfl, by rfl, by rfl, by decide, fun _ => rfl, fun _ => rfl⟩ (hC (nCh I) hj) (by omega) (by decide) rfl) ?_
      rw [stF_eq, show thn (pC at_ I d (nCh I)) baT = p2 at_ I d from rfl]
      simp -implicitDefEqProofs only [go_sem, devB]
      refine at_call tSWrite1 (sw1S (p := p2 at_ I d) (bs := bs) (r := r) (j1 := 13) (j2 := 6) (j3 := 1) (i := 2) (a := 20) (b := 21) (c := 22) ⟨by rfl, ⟨_, by rfl⟩, ⟨_, by rfl⟩, by rfl, by rfl, by rfl, by rfl, by decide, fun _ => rfl, fun _ => rfl⟩ (p2_pl hP ht hI) (by omega) (by decide) rfl) ?_
      rw [stF_eq, show (thn (p2 at_ I d) fun d => wrT d at_ (hdrT ver I)) = p3 at_ ver I d from rfl]
      simp -implicitDefEqProofs only [go_sem, devB]
      refine at_call tSWrite2 (sw2S (p := p3 at_ ver I d) (bs := bs) (r := r) (j1 := 13) (j2 := 6) (j3 := 1) (i := 2) (a := 23) (b := 24) (c := 25) ⟨by rfl, ⟨_, by rfl⟩, ⟨_, by rfl⟩, by rfl, by rfl, by rfl, by rfl, by decide, fun _ => rfl, fun _ => rfl⟩ (p3_pl hP ht hI) (by omega) (by decide) rfl) ?_
      rw [stF_eq, show thn (p3 at_ ver I d) baT = slW at_ ver I d from rfl]
      simp -implicitDefEqProofs only [go_sem, devB]
      refine sub_mk [(6, 26), (7, 27), (8, 28)] rfl rfl rfl ?_
      simp only [tmSub, hpSub, objSub, eqTm, eqHp, rn, lk, SV.ren, SV.renC, SV.renB, SV.renA, ren_ints, ren_strs, ren_pl, ren_svs, SV.v.injEq, Value.int.injEq, Body.ints.injEq, SV.ptr.injEq, SV.sl.injEq, List.map_cons, List.map_nil, forall_const, Nat.reduceLT, imp_self, true_and, and_true, and_self, ob_some, get_mk, lk_cons, ↓reduceIte, Nat.reduceEqDiff, Nat.reduceAdd, false_implies, implies_true, reduceCtorEq, swL, devB]
      exact ⟨rfl, rfl⟩
theorem swR_pl {bs r : Nat} {slot ver : Int} {I : ByteArray} {m t : Nat} (hP : Pl d m t) (ht : t + 1000 < 1000000) : Pl (swR bs r slot ver I d).2 m (t + 133) := by
  unfold swR
  split
  · rename_i h
    refine slW_pl hP ht ?_
    unfold swE at h
    split at h
    · cases h
    split at h
    · cases h
    omega
  · exact hP.mono (by omega)
def devN (d : Fd) (n i a b c : Nat) (l : List (Nat × Option SO)) : List (Nat × Option SO) := (i, some ⟨true, devB d n (n + 1) (n + 1 + 1)⟩) :: (a, none) :: (b, none) :: (c, none) :: (n, some ⟨true, secB d.seen⟩) :: (n + 1, some ⟨true, secB d.safe⟩) :: (n + 1 + 1, some ⟨true, .pl (prow d.pend)⟩) :: l
theorem devN_eq {d : Fd} {n i a b c : Nat} {l : List (Nat × Option SO)} : devN d n i a b c l = (i, some ⟨true, devB d n (n + 1) (n + 1 + 1)⟩) :: (a, none) :: (b, none) :: (c, none) :: (n, some ⟨true, secB d.seen⟩) :: (n + 1, some ⟨true, secB d.safe⟩) :: (n + 1 + 1, some ⟨true, .pl (prow d.pend)⟩) :: l := rfl
theorem swriteS {bs r q : Nat} {slot ver : Int} {I : ByteArray} {m t : Nat} {w : Bool} (hb : bs ≤ 4096) (hr : r ≤ 128) (hg : H.get q = some ⟨w, slB i bs r⟩) (h : DevAt H d i a b c) (hq : 0 < q ∧ q < 1000 ∧ q ≠ i ∧ q ≠ a ∧ q ≠ b ∧ q ≠ c) (hP : Pl d m t) (ht : t + 1000 < 1000000) (hn : n + 3 ≤ 1000) {p : Int × Fd} (hp : swR bs r slot ver I d = p) :
    SpecAt Tryz.prog nSWrite [.ptr q 0, .v (.int .i64 slot), .v (.int .i64 ver), .v (.string I)] H n (.v (.int .i64 p.1)) ⟨devN p.2 n i a b c H.l, H.x⟩ (n + 3) := by
  subst hp
  obtain ⟨hi, ha, hb', hc, ⟨p1, p2, p3, p4⟩, ⟨q1, q2, q3, q4⟩, n1, n2, n3, n4, n5, n6⟩ := h
  obtain ⟨k1, k2, k3, k4, k5, k6⟩ := hq
  have := lift (n := n) (okT.spec tSWrite (swriteW (x := H.x) (slot := slot) (ver := ver) (I := I) hb hr hP ht)) [(1, q), (2, i), (3, a), (4, b), (5, c)] rfl rfl rfl (by omega) rfl rfl
    ⟨sub_ro rfl k1 hg rfl, sub_wr rfl p1 q1 hi rfl, sub_wr rfl p2 q2 ha rfl, sub_wr rfl p3 q3 hb' rfl, sub_wr rfl p4 q4 hc rfl, trivial⟩
    (by simp [swH, devL, apartB, apart1, rn, lk, n1, n2, n3, n4, n5, n6, k3, k4, k5, k6, Ne.symm n1, Ne.symm n2, Ne.symm n3, Ne.symm n4, Ne.symm n5, Ne.symm n6, Ne.symm k3, Ne.symm k4, Ne.symm k5, Ne.symm k6]) (by simp [swH, devL, wrNZ, rn, lk]; omega) (by omega)
  exact this
end Sl
end
section
/- Slots: the document's Write. -/
set_option linter.unusedVariables false
set_option linter.unusedSimpArgs false
set_option maxRecDepth 100000
open Go.Proofs
namespace Sl
variable {H : Hp} {n : Nat} {x : Nat → Option SO} {d d' : Fd} {i a b c : Nat} {u1 u2 u3 : Bool}
end Sl
end
section
/- Slots: strings.Builder's WriteString; Read. -/
set_option linter.unusedVariables false
set_option linter.unusedSimpArgs false
set_option maxRecDepth 100000
open Go.Proofs
namespace Sl
variable {H : Hp} {n : Nat} {x : Nat → Option SO} {d d' : Fd} {i a b c : Nat} {u1 u2 u3 : Bool}
def secT (d : Fd) (k : Int) : ByteArray := tx (d.seen.getD k.toNat [])
def imgT (at_ : Int) (d : Fd) : Nat → ByteArray
  | 0 => ⟨#[]⟩
  | k + 1 => imgT at_ d k ++ secT d (at_ + 1 + k)
def imgOf (at_ : Int) (d : Fd) (z : Nat) : ByteArray := (imgT at_ d ((z + 63) / 64)).extract 0 z
def srV (img : Nat → ByteArray) (r : Nat) (hs : ByteArray) (v z v2 : Nat) : Nat × ByteArray × Int :=
  if v = 0 ∨ v ≠ v2 ∨ z = 0 ∨ 8192 < z ∨ r * 64 < z then (0, ⟨#[]⟩, 5) else if sha (bts (img z)) ≠ hs then (0, ⟨#[]⟩, 10) else (v, img z, 0)
def srT (bs r : Nat) (slot : Int) (d : Fd) : Nat × ByteArray × Int :=
  if slOK slot = false then (0, ⟨#[]⟩, 1) else if d.off then (0, ⟨#[]⟩, 7) else
    srV (imgOf (atV bs r slot) d) r ((secT d (atV bs r slot)).extract 5 37) (num ((secT d (atV bs r slot)).extract 0 1)) (num ((secT d (atV bs r slot)).extract 1 5)) (num ((secT d (atV bs r slot)).extract 37 38))
def rV (p : Nat × ByteArray × Int) : SV := .tup [.v (.int .i64 p.1), .v (.string p.2.1), .v (.int .i64 p.2.2)]
theorem rdS' {k : Int} {u1 u2 u3 u4 : Bool} (hi : H.get i = some ⟨u1, devB d a b c⟩) (ha : H.get a = some ⟨u2, secB d.seen⟩) (hb : H.get b = some ⟨u3, secB d.safe⟩) (hc : H.get c = some ⟨u4, .pl (prow d.pend)⟩) (ne : 0 < i ∧ 0 < a ∧ 0 < b ∧ 0 < c) (hd : d.ok) : SpecAt Tryz.prog nFRead [.ptr i 0, .v (.int .i64 k)] H n (rdV d k) H n := by
  obtain ⟨p1, p2, p3, p4⟩ := ne
  have := lift (n := n) (ok3.pure tFRead (wF14 (x := H.x) (k := k) hd)) [(1, i), (2, a), (3, b), (4, c)] rfl rfl rfl (by omega) rfl rfl
    ⟨sub_ro rfl p1 hi rfl, sub_ro rfl p2 ha rfl, sub_ro rfl p3 hb rfl, sub_ro rfl p4 hc rfl, trivial⟩ (by simp [apartB, apart1, rn, lk]) (by simp [wrNZ, rn, lk]; try omega) (by omega)
  have hv : ∀ π, (rdV d k).ren π = rdV d k := fun π => by unfold rdV; split <;> (try split) <;> rfl
  rw [hv] at this
  exact this
def srH (d : Fd) (bs r : Nat) (x : Nat → Option SO) : Hp := ⟨[(1, some ⟨false, slB 2 bs r⟩), (2, some ⟨false, devB d 3 4 5⟩), (3, some ⟨false, secB d.seen⟩), (4, some ⟨false, secB d.safe⟩), (5, some ⟨false, .pl (prow d.pend)⟩)], x⟩
theorem secT_size {k : Int} (hd : d.ok) (h0 : 0 ≤ k) (h1 : k < d.seen.length) : (secT d k).size = 64 := by
  unfold secT
  rw [tx_sz]
  exact getD_len hd.seen (by omega)
theorem rdV_at {k : Int} (ho : d.off = false) (h0 : 0 ≤ k) (h1 : k < d.seen.length) : rdV d k = .tup [.v (.string (secT d k)), .v (.int .i64 0)] := by
  unfold rdV; rw [ho, if_neg Bool.false_ne_true, if_neg (by omega)]; rfl
theorem num_lt' {t : ByteArray} (h : t.size ≤ 7) : num t < 72057594037927936 := by
  have := nvl_bound (l := nbs t) nbs_lt (j := (nbs t).length) (Nat.le_refl _)
  rw [List.take_length, nbs_len] at this
  refine Nat.lt_of_lt_of_le this (Nat.le_trans (Nat.pow_le_pow_right (by decide) h) (by decide))
theorem bts_app {a b : ByteArray} : bts (a ++ b) = bts a ++ bts b := by simp [bts]
theorem bts_bytes {a : ByteArray} : ∀ y ∈ bts a, 0 ≤ y ∧ y ≤ 255 := by
  intro y hy
  unfold bts at hy
  obtain ⟨b, _, rfl⟩ := List.mem_map.1 hy
  have := b.toNat_lt
  exact ⟨by omega, by omega⟩
theorem ba_nil {a : ByteArray} : (⟨#[]⟩ : ByteArray) ++ a = a := by apply ByteArray.ext; simp
theorem imgT_size {at_ : Int} (hd : d.ok) (h0 : 0 ≤ at_) : ∀ {j : Nat}, at_ + 1 + j ≤ d.seen.length → (imgT at_ d j).size = 64 * j
  | 0, _ => rfl
  | j + 1, h => by
    show (imgT at_ d j ++ secT d (at_ + 1 + j)).size = _
    rw [ByteArray.size_append, imgT_size hd h0 (by omega), secT_size hd (by omega) (by omega)]
    omega
theorem loopU_fam {C : Tab} {base : Nat} {α : Type} (p : α → Prop) (I : α → St) (μ : α → Nat) (a0 : α) {b : MC} {s : St} {K : Ex → St → Prop} (h0 : p a0) (hs : Sub base (I a0) s)
    (hr : ∀ a, p a → vc C base b (I a) (kLoop base p I μ a K)) : LoopU base (vc C base b) 0 s K := by
  refine ⟨{a // p a}, fun a => I a.1, fun a => μ a.1, ⟨⟨a0, h0⟩, hs⟩, fun a => ?_⟩
  have := hr a.1 a.2
  refine vc_mono (fun e s' h => ?_) this
  cases e with
  | normal =>
    obtain ⟨a', h1, h2, h3⟩ := h
    exact ⟨⟨a', h1⟩, h3, h2⟩
  | exit j => exact h
  | ret => exact h
theorem sreadW {bs r : Nat} {slot : Int} (hb : bs ≤ 4096) (hr : r ≤ 128) (hd : d.ok) (hl : bs + 2 * (1 + r) ≤ d.seen.length) :
    fnVC CT mSRead [.ptr 1 0, .v (.int .i64 slot)] (srH d bs r x) 6 fun v H' n' => Sub 6 ⟨[(0, rV (srT bs r slot d))], ⟨[], x⟩, 6⟩ ⟨[(0, v)], H', n'⟩ := by
  unfold mSRead srH devB slB
  simp -implicitDefEqProofs only [↓fnVC, initTm]
  simp -implicitDefEqProofs only [go_sem]
  refine at_call tSAt (satS (i := 1) (D := 2) (bs := bs) (r := r) (by rfl) hb hr) ?_
  unfold srT
  by_cases h0 : slOK slot = false
  · rw [if_pos h0]
    simp -implicitDefEqProofs only [go_sem, h0, List.isEmpty_cons, Bool.false_eq_true, if_false]
    refine sub_mk [] rfl rfl rfl ?_
    simp only [tmSub, hpSub, objSub, eqTm, eqHp, rn, lk, SV.ren, SV.renC, SV.renB, SV.renA, ren_ints, ren_strs, ren_pl, ren_svs, SV.v.injEq, Value.int.injEq, Body.ints.injEq, SV.ptr.injEq, SV.sl.injEq, List.map_cons, List.map_nil, forall_const, Nat.reduceLT, imp_self, true_and, and_true, and_self, ob_some, get_mk, lk_cons, ↓reduceIte, Nat.reduceEqDiff, Nat.reduceAdd, false_implies, implies_true, reduceCtorEq, rV]
    rfl
  rw [if_neg h0]
  have b0 : slOK slot = true := by simpa using h0
  have hat : 0 ≤ atV bs r slot ∧ atV bs r slot + 1 + r ≤ d.seen.length := by
    unfold atV
    rcases of_decide_eq_true b0 with rfl | rfl
    · rw [if_neg (by decide), if_pos rfl]; omega
    · rw [if_pos rfl]; omega
  generalize atV bs r slot = at_ at hat ⊢
  simp -implicitDefEqProofs only [go_sem, b0, List.isEmpty_cons, Bool.false_eq_true, if_false]
  refine at_call tFRead (rdS' (i := 2) (a := 3) (b := 4) (c := 5) (d := d) (by rfl) (by rfl) (by rfl) (by rfl) (by decide) hd) ?_
  by_cases ho : d.off = true
  · have e1 : rdV d at_ = .tup [.v (.string ⟨#[]⟩), .v (.int .i64 7)] := if_pos ho
    rw [if_pos ho, e1]
    simp -implicitDefEqProofs only [go_sem, List.isEmpty_cons, Bool.false_eq_true, if_false]
    refine sub_mk [] rfl rfl rfl ?_
    simp only [tmSub, hpSub, objSub, eqTm, eqHp, rn, lk, SV.ren, SV.renC, SV.renB, SV.renA, ren_ints, ren_strs, ren_pl, ren_svs, SV.v.injEq, Value.int.injEq, Body.ints.injEq, SV.ptr.injEq, SV.sl.injEq, List.map_cons, List.map_nil, forall_const, Nat.reduceLT, imp_self, true_and, and_true, and_self, ob_some, get_mk, lk_cons, ↓reduceIte, Nat.reduceEqDiff, Nat.reduceAdd, false_implies, implies_true, reduceCtorEq, rV]
    rfl
  rw [if_neg ho, rdV_at (by simpa using ho) hat.1 (by omega)]
  have hsz : (secT d at_).size = 64 := secT_size hd hat.1 (by omega)
  generalize hh : secT d at_ = h at hsz
  simp -implicitDefEqProofs only [go_sem, List.isEmpty_cons, Bool.false_eq_true, if_false]
  refine at_call tPRead (preadS (s := h) (by decide)) ?_
  simp -implicitDefEqProofs only [go_sem, List.isEmpty_cons, Bool.false_eq_true, if_false]
  have f1 := rd_at (s := h) (k := 0) (w := 1) (by omega)
  have f2 := rd_at (s := h) (k := 1) (w := 4) (by omega)
  have f3 := rd_at (s := h) (k := 5) (w := 32) (by omega)
  have f4 := rd_at (s := h) (k := 37) (w := 1) (by omega)
  rw [ext_all] at f1
  have ok : ∀ {s e k}, k ≤ 7 → numOK (rawT s e k) := fun hk => .inl (Nat.le_trans rawT_size hk)
  refine in_call mixT tRByte ?_
  unfold mRByte
  simp -implicitDefEqProofs only [↓fnVC, initTm]
  simp -implicitDefEqProofs only [go_sem]
  refine at_call tRNumber (numSp (i := 6) (s := h) (e := 0) (k := 1) (by rfl) (by decide) (by decide) (ok (by decide))) ?_
  rw [f1.1, f1.2.1, f1.2.2]
  simp -implicitDefEqProofs only [go_sem]
  refine in_call mixT tRFour ?_
  unfold mRFour
  simp -implicitDefEqProofs only [↓fnVC, initTm]
  simp -implicitDefEqProofs only [go_sem]
  refine at_call tRNumber (numSp (i := 6) (s := h.extract 1 h.size) (e := 0) (k := 4) (by rfl) (by decide) (by decide) (ok (by decide))) ?_
  rw [f2.1, f2.2.1, f2.2.2]
  simp -implicitDefEqProofs only [go_sem]
  refine at_call tRHash (hashSp (i := 6) (s := h.extract 5 h.size) (e := 0) (by rfl) (by decide)) ?_
  rw [f3.1, f3.2.1, f3.2.2]
  simp -implicitDefEqProofs only [go_sem]
  refine in_call mixT tRByte ?_
  unfold mRByte
  simp -implicitDefEqProofs only [↓fnVC, initTm]
  simp -implicitDefEqProofs only [go_sem]
  refine at_call tRNumber (numSp (i := 6) (s := h.extract 37 h.size) (e := 0) (k := 1) (by rfl) (by decide) (by decide) (ok (by decide))) ?_
  rw [f4.1, f4.2.1, f4.2.2]
  have k1 : num (h.extract 0 1) < 72057594037927936 := num_lt' (by rw [ByteArray.size_extract]; omega)
  have k2 : num (h.extract 1 5) < 72057594037927936 := num_lt' (by rw [ByteArray.size_extract]; omega)
  have k3 : num (h.extract 37 38) < 72057594037927936 := num_lt' (by rw [ByteArray.size_extract]; omega)
  generalize num (h.extract 0 1) = v1 at k1 ⊢
  generalize num (h.extract 1 (1 + 4)) = z at k2 ⊢
  generalize num (h.extract 37 (37 + 1)) = v2 at k3 ⊢
  have e3 : h.extract 5 (5 + 32) = h.extract 5 37 := rfl
  unfold srV
  rw [e3]
  by_cases c1 : v1 = 0
  · have a1 : decide ((v1 : Int) = 0) = true := decide_eq_true (by omega)
    rw [if_pos (.inl c1)]
    simp -implicitDefEqProofs only [go_sem, a1, List.isEmpty_cons, Bool.false_eq_true, if_false]
    refine sub_mk [] rfl rfl rfl ?_
    simp only [tmSub, hpSub, objSub, eqTm, eqHp, rn, lk, SV.ren, SV.renC, SV.renB, SV.renA, ren_ints, ren_strs, ren_pl, ren_svs, SV.v.injEq, Value.int.injEq, Body.ints.injEq, SV.ptr.injEq, SV.sl.injEq, List.map_cons, List.map_nil, forall_const, Nat.reduceLT, imp_self, true_and, and_true, and_self, ob_some, get_mk, lk_cons, ↓reduceIte, Nat.reduceEqDiff, Nat.reduceAdd, false_implies, implies_true, reduceCtorEq, rV]
    rfl
  have a1 : decide ((v1 : Int) = 0) = false := decide_eq_false (by omega)
  by_cases c2 : v1 ≠ v2
  · have a2 : decide ((v1 : Int) = v2) = false := decide_eq_false (by omega)
    rw [if_pos (.inr (.inl c2))]
    simp -implicitDefEqProofs only [go_sem, a1, a2, List.isEmpty_cons, Bool.false_eq_true, if_false]
    refine sub_mk [] rfl rfl rfl ?_
    simp only [tmSub, hpSub, objSub, eqTm, eqHp, rn, lk, SV.ren, SV.renC, SV.renB, SV.renA, ren_ints, ren_strs, ren_pl, ren_svs, SV.v.injEq, Value.int.injEq, Body.ints.injEq, SV.ptr.injEq, SV.sl.injEq, List.map_cons, List.map_nil, forall_const, Nat.reduceLT, imp_self, true_and, and_true, and_self, ob_some, get_mk, lk_cons, ↓reduceIte, Nat.reduceEqDiff, Nat.reduceAdd, false_implies, implies_true, reduceCtorEq, rV]
    rfl
  have a2 : decide ((v1 : Int) = v2) = true := decide_eq_true (by omega)
  by_cases c3 : z = 0
  · have a3 : decide ((z : Int) = 0) = true := decide_eq_true (by omega)
    rw [if_pos (.inr (.inr (.inl c3)))]
    simp -implicitDefEqProofs only [go_sem, a1, a2, a3, List.isEmpty_cons, Bool.false_eq_true, if_false]
    refine sub_mk [] rfl rfl rfl ?_
    simp only [tmSub, hpSub, objSub, eqTm, eqHp, rn, lk, SV.ren, SV.renC, SV.renB, SV.renA, ren_ints, ren_strs, ren_pl, ren_svs, SV.v.injEq, Value.int.injEq, Body.ints.injEq, SV.ptr.injEq, SV.sl.injEq, List.map_cons, List.map_nil, forall_const, Nat.reduceLT, imp_self, true_and, and_true, and_self, ob_some, get_mk, lk_cons, ↓reduceIte, Nat.reduceEqDiff, Nat.reduceAdd, false_implies, implies_true, reduceCtorEq, rV]
    rfl
  have a3 : decide ((z : Int) = 0) = false := decide_eq_false (by omega)
  simp -implicitDefEqProofs only [go_sem, a1, a2, a3, List.isEmpty_cons, Bool.false_eq_true, if_false]
  refine at_call tSFits (fitsS (i := 1) (D := 2) (bs := bs) (r := r) (by rfl) hr) ?_
  by_cases c4 : 8192 < z ∨ r * 64 < z
  · have a4 : fitB r (z : Int) = false := decide_eq_false (by omega)
    rw [if_pos (.inr (.inr (.inr c4)))]
    simp -implicitDefEqProofs only [go_sem, a4, List.isEmpty_cons, Bool.false_eq_true, if_false]
    refine sub_mk [] rfl rfl rfl ?_
    simp only [tmSub, hpSub, objSub, eqTm, eqHp, rn, lk, SV.ren, SV.renC, SV.renB, SV.renA, ren_ints, ren_strs, ren_pl, ren_svs, SV.v.injEq, Value.int.injEq, Body.ints.injEq, SV.ptr.injEq, SV.sl.injEq, List.map_cons, List.map_nil, forall_const, Nat.reduceLT, imp_self, true_and, and_true, and_self, ob_some, get_mk, lk_cons, ↓reduceIte, Nat.reduceEqDiff, Nat.reduceAdd, false_implies, implies_true, reduceCtorEq, rV]
    rfl
  have a4 : fitB r (z : Int) = true := decide_eq_true (by omega)
  rw [if_neg (by omega)]
  simp -implicitDefEqProofs only [go_sem, a4, List.isEmpty_cons, Bool.false_eq_true, if_false]
  have hmost := hd.most
  have w5 : IntKind.i64.wrap (at_ + 1) = at_ + 1 := wrap_i64 (by omega) (by omega)
  have w6 : IntKind.i64.wrap (at_ + 1 + 0) = at_ + 1 + (0 : Nat) := wrap_i64 (by omega) (by omega)
  have w7 : IntKind.i64.wrap (0 * 64) = 0 := rfl
  have a5 : decide (0 < (z : Int)) = true := decide_eq_true (by omega)
  refine loop_roll 1 ?_
  rw [LoopU_succ]
  simp -implicitDefEqProofs only [go_sem, w7, a5, w5, w6]
  refine at_call tFRead (rdS' (i := 2) (a := 3) (b := 4) (c := 5) (d := d) (by rfl) (by rfl) (by rfl) (by rfl) (by decide) hd) ?_
  rw [rdV_at (k := at_ + 1 + (0 : Nat)) (by simpa using ho) (by omega) (by omega)]
  have s0 : (secT d (at_ + 1 + (0 : Nat))).size = 64 := secT_size hd (by omega) (by omega)
  simp -implicitDefEqProofs only [go_sem, s0]
  refine in_call mixT tBWriteString ?_
  unfold mBWriteString
  simp -implicitDefEqProofs only [↓fnVC, initTm]
  simp -implicitDefEqProofs only [go_sem]
  refine at_ext (enters_mk Tryz.func111 rfl rfl) (ckF (i := 7) (j := 8) (by rfl) (by rfl) rfl) ?_
  simp -implicitDefEqProofs only [go_sem, s0]
  refine ⟨fun h => absurd rfl h, ?_⟩
  have hz : z ≤ 8192 := by omega
  have hR : (z + 63) / 64 ≤ r := by omega
  refine loopU_fam (fun (j : Nat) => 1 ≤ j ∧ j ≤ (z + 63) / 64)
    (fun j => ⟨[(0, .ptr 1 0), (7, .v (.int .i64 at_)), (11, .v (.int .i64 v1)), (12, .v (.int .i64 z)), (13, .v (.string (h.extract 5 37))), (15, .ptr 7 0), (16, .v (.int .i64 j))], ⟨[(1, some ⟨false, slB 2 bs r⟩), (2, some ⟨false, devB d 3 4 5⟩), (3, some ⟨false, secB d.seen⟩), (4, some ⟨false, secB d.safe⟩), (5, some ⟨false, .pl (prow d.pend)⟩), (7, some ⟨true, .sv [.ptr 7 0, .sl 9 0 (imgT at_ d j).size 1]⟩), (9, some ⟨true, .ints .u8 (bts (imgT at_ d j))⟩), (10, some ⟨false, .mp (.shp 9 5 none)⟩)], x⟩, 11⟩)
    (fun j => (z + 63) / 64 - j) 1 ⟨Nat.le_refl _, by omega⟩ ?_ ?_
  · refine sub_mk [] rfl rfl rfl ?_
    simp only [tmSub, hpSub, objSub, eqTm, eqHp, rn, lk, SV.ren, SV.renC, SV.renB, SV.renA, ren_ints, ren_strs, ren_pl, ren_svs, SV.v.injEq, Value.int.injEq, Body.ints.injEq, SV.ptr.injEq, SV.sl.injEq, List.map_cons, List.map_nil, forall_const, Nat.reduceLT, imp_self, true_and, and_true, and_self, ob_some, get_mk, lk_cons, ↓reduceIte, Nat.reduceEqDiff, Nat.reduceAdd, false_implies, implies_true, reduceCtorEq, slB, devB]
    have g1 : imgT at_ d 1 = secT d (at_ + 1 + (0 : Nat)) := by show (⟨#[]⟩ : ByteArray) ++ _ = _; exact ba_nil
    rw [g1, s0]
    exact ⟨rfl, rfl, rfl, rfl, rfl, rfl⟩
  · intro j hj
    have w1 : IntKind.i64.wrap ((j : Int) * 64) = ((64 * j : Nat) : Int) := by rw [wrap_i64 (by omega) (by omega)]; omega
    unfold devB slB
    simp -implicitDefEqProofs only [go_sem, w1]
    refine condK_bb (fun c => ?_) (fun c => ?_)
    · have c1 : 64 * j < z := by have := of_decide_eq_true c; omega
      have w2 : IntKind.i64.wrap ((j : Int) + 1) = ((j + 1 : Nat) : Int) := by rw [wrap_i64 (by omega) (by omega)]; omega
      have w3 : IntKind.i64.wrap (at_ + 1 + (j : Int)) = at_ + 1 + j := wrap_i64 (by omega) (by omega)
      simp -implicitDefEqProofs only [go_sem, w1, w2, w3, w5, c]
      refine at_call tFRead (rdS' (i := 2) (a := 3) (b := 4) (c := 5) (d := d) (by rfl) (by rfl) (by rfl) (by rfl) (by decide) hd) ?_
      rw [rdV_at (k := at_ + 1 + (j : Nat)) (by simpa using ho) (by omega) (by omega)]
      have s0 : (secT d (at_ + 1 + (j : Nat))).size = 64 := secT_size hd (by omega) (by omega)
      simp -implicitDefEqProofs only [go_sem]
      refine in_call mixT tBWriteString ?_
      unfold mBWriteString
      simp -implicitDefEqProofs only [↓fnVC, initTm]
      simp -implicitDefEqProofs only [go_sem]
      refine at_ext (enters_mk Tryz.func111 rfl rfl) (ckU (i := 7) (by rfl) rfl) ?_
      simp -implicitDefEqProofs only [go_sem]
      have sj : (imgT at_ d j).size = 64 * j := imgT_size hd hat.1 (by omega)
      refine ⟨by omega, fun _ => ⟨rfl, 10, ⟨false, .mp (.shp 9 5 none)⟩, rfl, rfl⟩, by rw [bts_len]; exact Nat.le_refl _, ?_⟩
      refine kLoop_mk (j + 1) (by omega) (by omega) ?_
      refine sub_mk [(9, 11), (10, 12)] rfl rfl rfl ?_
      simp only [tmSub, hpSub, objSub, eqTm, eqHp, rn, lk, SV.ren, SV.renC, SV.renB, SV.renA, ren_ints, ren_strs, ren_pl, ren_svs, SV.v.injEq, Value.int.injEq, Body.ints.injEq, SV.ptr.injEq, SV.sl.injEq, List.map_cons, List.map_nil, forall_const, Nat.reduceLT, imp_self, true_and, and_true, and_self, ob_some, get_mk, lk_cons, ↓reduceIte, Nat.reduceEqDiff, Nat.reduceAdd, false_implies, implies_true, reduceCtorEq, slB, devB]
      rw [show imgT at_ d (j + 1) = imgT at_ d j ++ secT d (at_ + 1 + j) from rfl, ByteArray.size_append, bts_app, List.take_of_length_le (by rw [bts_len]; exact Nat.le_refl _)]
      exact ⟨w2, rfl, rfl, rfl, rfl, rfl⟩
    · have c1 : j = (z + 63) / 64 := by have := of_decide_eq_false c; omega
      subst c1
      have sj : (imgT at_ d ((z + 63) / 64)).size = 64 * ((z + 63) / 64) := imgT_size hd hat.1 (by omega)
      simp -implicitDefEqProofs only [go_sem, c, w1]
      refine at_ext (enters_mk Tryz.func80 rfl rfl) (strS (i := 7) (r := 9) (q := 10) (k := (imgT at_ d ((z + 63) / 64)).size) (bs := bts (imgT at_ d ((z + 63) / 64))) (by rfl) rfl (by rfl) (by rw [bts_len]) (by omega) (by omega) (by rfl) rfl bts_bytes) ?_
      rw [tx_bts]
      simp -implicitDefEqProofs only [go_sem]
      refine ⟨⟨by omega, by omega⟩, ?_⟩
      have e9 : (imgT at_ d ((z + 63) / 64)).extract 0 z = imgOf at_ d z := rfl
      rw [e9]
      have e8 : (imgOf at_ d z).size ≤ 8192 := by unfold imgOf; rw [ByteArray.size_extract]; omega
      refine at_call t9 (sum1S (s := imgOf at_ d z) (by rfl) (by omega)) ?_
      by_cases c5 : sha (bts (imgOf at_ d z)) = h.extract 5 37
      · have a5 : seq (sha (bts (imgOf at_ d z))) (h.extract 5 37) = true := by rw [c5]; exact seq_self _
        rw [if_neg (fun h => h c5)]
        simp -implicitDefEqProofs only [go_sem, a5]
        refine sub_mk [] rfl rfl rfl ?_
        simp only [tmSub, hpSub, objSub, eqTm, eqHp, rn, lk, SV.ren, SV.renC, SV.renB, SV.renA, ren_ints, ren_strs, ren_pl, ren_svs, SV.v.injEq, Value.int.injEq, Body.ints.injEq, SV.ptr.injEq, SV.sl.injEq, List.map_cons, List.map_nil, forall_const, Nat.reduceLT, imp_self, true_and, and_true, and_self, ob_some, get_mk, lk_cons, ↓reduceIte, Nat.reduceEqDiff, Nat.reduceAdd, false_implies, implies_true, reduceCtorEq, rV]
      · have a5 : seq (sha (bts (imgOf at_ d z))) (h.extract 5 37) = false := seq_ne c5
        rw [if_pos c5]
        simp -implicitDefEqProofs only [go_sem, a5]
        refine sub_mk [] rfl rfl rfl ?_
        simp only [tmSub, hpSub, objSub, eqTm, eqHp, rn, lk, SV.ren, SV.renC, SV.renB, SV.renA, ren_ints, ren_strs, ren_pl, ren_svs, SV.v.injEq, Value.int.injEq, Body.ints.injEq, SV.ptr.injEq, SV.sl.injEq, List.map_cons, List.map_nil, forall_const, Nat.reduceLT, imp_self, true_and, and_true, and_self, ob_some, get_mk, lk_cons, ↓reduceIte, Nat.reduceEqDiff, Nat.reduceAdd, false_implies, implies_true, reduceCtorEq, rV]
        rfl
end Sl
end
section
/- Slots: Read at any heap; the document's Read. -/
set_option linter.unusedVariables false
set_option linter.unusedSimpArgs false
set_option maxHeartbeats 2000000
set_option maxRecDepth 100000
open Go.Proofs
namespace Sl
variable {H : Hp} {n : Nat} {x : Nat → Option SO} {d d' : Fd} {i a b c : Nat} {u1 u2 u3 : Bool}
theorem sreadS {bs r q : Nat} {slot : Int} {w : Bool} (hb : bs ≤ 4096) (hr : r ≤ 128) (hg : H.get q = some ⟨w, slB i bs r⟩) (h : DevAt H d i a b c) (hq : 0 < q) (hd : d.ok) (hl : bs + 2 * (1 + r) ≤ d.seen.length) {p : Nat × ByteArray × Int} (hp : srT bs r slot d = p) :
    SpecAt Tryz.prog nSRead [.ptr q 0, .v (.int .i64 slot)] H n (rV p) H n := by
  subst hp
  obtain ⟨hi, ha, hb', hc, ⟨p1, p2, p3, p4⟩, ⟨q1, q2, q3, q4⟩, n1, n2, n3, n4, n5, n6⟩ := h
  have := lift_ro (n := n) (okT.spec tSRead (sreadW (x := H.x) (slot := slot) hb hr hd hl)) [(1, q), (2, i), (3, a), (4, b), (5, c)] rfl rfl rfl (by omega) rfl rfl
    ⟨sub_ro rfl hq hg rfl, sub_ro rfl p1 hi rfl, sub_ro rfl p2 ha rfl, sub_ro rfl p3 hb' rfl, sub_ro rfl p4 hc rfl, trivial⟩ (by simp [srH, apartB, apart1, rn, lk]) (by simp [srH, wrNZ, rn, lk]) rfl
  exact this
end Sl
end
section
/- Slots: what a write leaves, step by step; what is then read. -/
set_option linter.unusedVariables false
set_option linter.unusedSimpArgs false
set_option maxRecDepth 100000
open Go.Proofs
namespace Sl
variable {H : Hp} {n : Nat} {x : Nat → Option SO} {d d' : Fd} {i a b c : Nat} {u1 u2 u3 : Bool}
structure GoodP (f0 : Bool) (m : Nat) (st : Int) (X : List (List Int)) (Y : List (Nat × List Int)) (d : Fd) : Prop where
  off : d.off = false
  safe : d.safe = X
  pend : d.pend = Y
  sn : Sn d
  len : d.seen.length = m
  st : d.st = st
  fa : f0 = true → d.fa = 0
def InvP (f0 : Bool) (m : Nat) (P : List (List Int) → List (Nat × List Int) → Prop) (st : Int) (X : List (List Int)) (Y : List (Nat × List Int)) (p : Int × Fd) : Prop :=
  (p.1 = 0 ∧ GoodP f0 m st X Y p.2) ∨ (f0 = false ∧ p.1 = 7 ∧ P p.2.safe p.2.pend)
theorem inv_wr {f0 : Bool} {m : Nat} {P : List (List Int) → List (Nat × List Int) → Prop} {st : Int} {X : List (List Int)} {Y : List (Nat × List Int)} {p : Int × Fd} {k : Nat} {s : ByteArray}
    (h : InvP f0 m P st X Y p) (hP : P X Y) (hk : k < m) (hs : s.size ≤ 64) : InvP f0 m P (st + 1) X (Y ++ [(k, pad64 (bts s))]) (thn p fun d => wrT d k s) := by
  rcases h with ⟨h0, g⟩ | ⟨hf, h7, hp⟩
  · rw [thn_ok h0]
    obtain ⟨e, d⟩ := p
    obtain ⟨g1, g2, g3, g4, g5, g6, g7⟩ := g
    simp only at g1 g2 g3 g4 g5 g6 g7
    unfold wrT
    have hN : wrNo d k s = if d.fa = 1 then some (7, stepD d) else none := by
      unfold wrNo; rw [g1, if_neg Bool.false_ne_true, if_neg (by omega), if_neg (by omega)]
    rw [hN]
    by_cases hfa : d.fa = 1
    · rw [if_pos hfa]
      refine .inr ⟨?_, rfl, ?_⟩
      · cases f0
        · rfl
        · have := g7 rfl; omega
      · show P (stepD d).safe (stepD d).pend
        rw [stepD_safe.1, stepD_safe.2.1, g2, g3]; exact hP
    · rw [if_neg hfa]
      refine .inl ⟨rfl, ⟨?_, ?_, ?_, ?_, ?_, ?_, ?_⟩⟩
      · show (wrD d _ s).off = false
        rw [wrD_off hfa, g1]
      · show (wrD d _ s).safe = X
        rw [wrD_safe, g2]
      · show (wrD d _ s).pend = _
        rw [wrD_pend, g3, Int.toNat_natCast]
      · exact g4.wr
      · show (wrD d _ s).seen.length = _
        rw [wrD_len, g5]
      · show (wrD d _ s).st = _
        rw [wrD_st hfa, g6]
      · intro hf; show (wrD d _ s).fa = _
        exact wrD_fa (g7 hf)
  · have hp1 : p.1 ≠ 0 := by rw [h7]; decide
    rw [thn_no hp1]
    exact .inr ⟨hf, h7, hp⟩
theorem inv_ba {f0 : Bool} {m : Nat} {P : List (List Int) → List (Nat × List Int) → Prop} {st : Int} {X : List (List Int)} {Y : List (Nat × List Int)} {p : Int × Fd}
    (h : InvP f0 m P st X Y p) (hP : P X Y) : InvP f0 m P (st + 1) (setl X Y) [] (thn p baT) := by
  rcases h with ⟨h0, g⟩ | ⟨hf, h7, hp⟩
  · rw [thn_ok h0]
    obtain ⟨e, d⟩ := p
    obtain ⟨g1, g2, g3, g4, g5, g6, g7⟩ := g
    simp only at g1 g2 g3 g4 g5 g6 g7
    unfold baT
    have hN : baNo d = if d.fa = 1 then some (7, stepD d) else none := by
      unfold baNo; rw [g1, if_neg Bool.false_ne_true]
    rw [hN]
    by_cases hfa : d.fa = 1
    · rw [if_pos hfa]
      refine .inr ⟨?_, rfl, ?_⟩
      · cases f0
        · rfl
        · have := g7 rfl; omega
      · show P (stepD d).safe (stepD d).pend
        rw [stepD_safe.1, stepD_safe.2.1, g2, g3]; exact hP
    · rw [if_neg hfa]
      refine .inl ⟨rfl, ⟨?_, ?_, rfl, ?_, ?_, ?_, ?_⟩⟩
      · show (baD d).off = false
        rw [baD_off hfa, g1]
      · show setl d.safe d.pend = _
        rw [g2, g3]
      · show (baD d).seen = setl (baD d).safe (baD d).pend
        rw [g4.ba]; rfl
      · show (baD d).seen.length = _
        rw [baD_seen, g5]
      · show (baD d).st = _
        rw [baD_st hfa, g6]
      · intro hf; exact baD_fa (g7 hf)
  · have hp1 : p.1 ≠ 0 := by rw [h7]; decide
    rw [thn_no hp1]
    exact .inr ⟨hf, h7, hp⟩
def pch (a0 : Nat) (I : ByteArray) (j : Nat) : List (Nat × List Int) := (List.range j).map fun k => (a0 + 1 + k, pad64 (bts (chk I k)))
def z64 : List Int := pad64 (bts ⟨#[]⟩)
def hd64 (v : Nat) (I : ByteArray) : List Int := pad64 (bts (hdrT v I))
theorem pch_succ {a0 : Nat} {I : ByteArray} {j : Nat} : pch a0 I (j + 1) = pch a0 I j ++ [(a0 + 1 + j, pad64 (bts (chk I j)))] := by
  unfold pch; rw [List.range_succ, List.map_append]; rfl
theorem chk_size {I : ByteArray} {j : Nat} : (chk I j).size ≤ 64 := by
  unfold chk; rw [ByteArray.size_extract]; omega
inductive PhA (S : List (List Int)) (a0 v : Nat) (I : ByteArray) : List (List Int) → List (Nat × List Int) → Prop
  | p0 : PhA S a0 v I S []
  | p1 : PhA S a0 v I S [(a0, z64)]
  | p2 (j : Nat) (h : j ≤ nCh I) : PhA S a0 v I (S.set a0 z64) (pch a0 I j)
  | p4 : PhA S a0 v I (setl (S.set a0 z64) (pch a0 I (nCh I))) []
  | p5 : PhA S a0 v I (setl (S.set a0 z64) (pch a0 I (nCh I))) [(a0, hd64 v I)]
def doneS (S : List (List Int)) (a0 v : Nat) (I : ByteArray) : List (List Int) := (setl (S.set a0 z64) (pch a0 I (nCh I))).set a0 (hd64 v I)
theorem slW_inv {f0 : Bool} {m a0 v r : Nat} {st : Int} {S : List (List Int)} {I : ByteArray} (g : GoodP f0 m st S [] d) (hm : a0 + 1 + r ≤ m) (hI : nCh I ≤ r) :
    InvP f0 m (PhA S a0 v I) (st + 5 + nCh I) (doneS S a0 v I) [] (slW a0 v I d) := by
  have hh : (hdrT v I).size ≤ 64 := by rw [hdr_size]; decide
  have h0 : InvP f0 m (PhA S a0 v I) st S [] (0, d) := .inl ⟨rfl, g⟩
  have h1 := inv_wr (k := a0) (s := ⟨#[]⟩) h0 .p0 (by omega) (by decide)
  rw [thn_ok rfl] at h1
  have h2 : InvP f0 m (PhA S a0 v I) (st + 1 + 1) (S.set a0 z64) [] (p1 a0 d) := inv_ba h1 .p1
  have h3 : ∀ j, j ≤ nCh I → InvP f0 m (PhA S a0 v I) (st + 2 + j) (S.set a0 z64) (pch a0 I j) (pC a0 I d j) := by
    intro j
    induction j with
    | zero => intro _; have e : st + 1 + 1 = st + 2 + (0 : Nat) := by omega
              rw [e] at h2; exact h2
    | succ j ih =>
      intro hj
      have := inv_wr (k := a0 + 1 + j) (s := chk I j) (ih (by omega)) (.p2 j (by omega)) (by omega) chk_size
      rw [← pch_succ, show st + 2 + (j : Int) + 1 = st + 2 + ((j + 1 : Nat) : Int) by omega] at this
      exact this
  have h4 : InvP f0 m (PhA S a0 v I) (st + 2 + nCh I + 1) (setl (S.set a0 z64) (pch a0 I (nCh I))) [] (p2 a0 I d) := inv_ba (h3 _ (Nat.le_refl _)) (.p2 _ (Nat.le_refl _))
  have h5 : InvP f0 m (PhA S a0 v I) (st + 2 + nCh I + 1 + 1) (setl (S.set a0 z64) (pch a0 I (nCh I))) [(a0, hd64 v I)] (p3 a0 v I d) := inv_wr h4 .p4 (by omega) hh
  have h6 : InvP f0 m (PhA S a0 v I) (st + 2 + nCh I + 1 + 1 + 1) (doneS S a0 v I) [] (slW a0 v I d) := inv_ba h5 .p5
  rw [show st + 2 + (nCh I : Int) + 1 + 1 + 1 = st + 5 + nCh I by omega] at h6
  exact h6
end Sl
end
section
/- Slots: what is then read. -/
set_option linter.unusedVariables false
set_option linter.unusedSimpArgs false
set_option maxRecDepth 100000
open Go.Proofs
namespace Sl
variable {H : Hp} {n : Nat} {x : Nat → Option SO} {d d' : Fd} {i a b c : Nat} {u1 u2 u3 : Bool}
theorem getD_set_ne {α : Type} {l : List α} {i j : Nat} {v z : α} (h : i ≠ j) : (l.set i v).getD j z = l.getD j z := by
  rw [List.getD_eq_getElem?_getD, List.getElem?_set_ne h, ← List.getD_eq_getElem?_getD]
theorem getD_set_eq {α : Type} {l : List α} {i : Nat} {v z : α} (h : i < l.length) : (l.set i v).getD i z = v := by
  rw [List.getD_eq_getElem?_getD, List.getElem?_set_self h]; rfl
theorem pch_len {a0 j : Nat} {I : ByteArray} : (pch a0 I j).length = j := by simp [pch]
theorem pch_mem {a0 j : Nat} {I : ByteArray} : ∀ w ∈ pch a0 I j, a0 < w.1 ∧ w.1 ≤ a0 + j ∧ w.2.length = 64 := by
  intro w hw
  unfold pch at hw
  obtain ⟨k, hk, rfl⟩ := List.mem_map.1 hw
  have := List.mem_range.1 hk
  exact ⟨by show a0 < a0 + 1 + k; omega, by show a0 + 1 + k ≤ a0 + j; omega, pad64_len (by rw [bts_len]; exact chk_size)⟩
theorem pch_get {a0 j k : Nat} {I : ByteArray} (h : k < j) : (pch a0 I j).getD k (0, []) = (a0 + 1 + k, pad64 (bts (chk I k))) := by
  unfold pch
  rw [List.getD_eq_getElem?_getD, List.getElem?_map, List.getElem?_range h]; rfl
theorem setl_pch {S : List (List Int)} {a0 j k : Nat} {I : ByteArray} (h : k < j) (hl : a0 + 1 + k < S.length) : (setl S (pch a0 I j)).getD (a0 + 1 + k) [] = pad64 (bts (chk I k)) := by
  have := setl_hit (S := S) (ws := pch a0 I j) (t := k) (j := a0 + 1 + k) (by rw [pch_len]; exact h) hl (by rw [pch_get h]) (by
    intro w hw
    unfold pch at hw
    rw [← List.map_drop] at hw
    obtain ⟨q, hq, rfl⟩ := List.mem_map.1 hw
    have : k + 1 ≤ q := by
      rw [List.range_eq_range', List.drop_range'] at hq
      have := List.mem_range'.1 hq
      omega
    show a0 + 1 + q ≠ a0 + 1 + k
    omega)
  rw [this, pch_get h]
theorem done_at {S : List (List Int)} {a0 v : Nat} {I : ByteArray} (h : a0 < S.length) : (doneS S a0 v I).getD a0 [] = hd64 v I := by
  unfold doneS; rw [getD_set_eq (by rw [setl_len, List.length_set]; exact h)]
theorem done_ch {S : List (List Int)} {a0 v k : Nat} {I : ByteArray} (hk : k < nCh I) (h : a0 + 1 + k < S.length) : (doneS S a0 v I).getD (a0 + 1 + k) [] = pad64 (bts (chk I k)) := by
  unfold doneS; rw [getD_set_ne (by omega), setl_pch hk (by rw [List.length_set]; exact h)]
theorem done_ne {S : List (List Int)} {a0 v k : Nat} {I : ByteArray} (hk : k < a0 ∨ a0 + nCh I < k) : (doneS S a0 v I).getD k [] = S.getD k [] := by
  unfold doneS
  rw [getD_set_ne (by omega), setl_none (fun w hw => by have := pch_mem w hw; omega), getD_set_ne (by omega)]
theorem pad_bytes {ys : List Int} (h : ∀ y ∈ ys, 0 ≤ y ∧ y ≤ 255) : ∀ y ∈ pad64 ys, 0 ≤ y ∧ y ≤ 255 := by
  intro y hy
  unfold pad64 at hy
  rcases List.mem_append.1 hy with hy | hy
  · exact h y hy
  · rw [List.eq_of_mem_replicate hy]; decide
theorem pad_split {B : List Int} {j : Nat} (h : 64 * j < B.length) : pad64 ((B.drop (64 * j)).take (min (64 * j + 64) B.length - 64 * j)) = ((B ++ List.replicate 64 0).drop (64 * j)).take 64 := by
  unfold pad64
  rw [List.drop_append_of_le_length (by omega), List.take_append]
  simp only [List.length_take, List.length_drop]
  have e1 : min (64 * j + 64) B.length - 64 * j = min 64 (B.length - 64 * j) := by omega
  rw [e1, List.take_replicate]
  congr 1
  · rw [show min 64 (B.length - 64 * j) = min 64 (B.drop (64 * j)).length by rw [List.length_drop], ← List.take_eq_take_min]
  · congr 1; omega
theorem bts_chk {I : ByteArray} {j : Nat} : bts (chk I j) = ((bts I).drop (64 * j)).take (min (64 * j + 64) (bts I).length - 64 * j) := by
  unfold chk; rw [bts_ext, bts_len]
theorem imgT_done {a0 : Nat} {I : ByteArray} (hc : ∀ k, k < nCh I → d.seen.getD (a0 + 1 + k) [] = pad64 (bts (chk I k))) : ∀ j, j ≤ nCh I → bts (imgT a0 d j) = (bts I ++ List.replicate 64 0).take (64 * j)
  | 0, _ => rfl
  | j + 1, h => by
    have hj : 64 * j < I.size := nCh_lt.1 (by omega)
    show bts (imgT a0 d j ++ secT d ((a0 : Int) + 1 + j)) = _
    rw [bts_app, imgT_done hc j (by omega)]
    have e : secT d ((a0 : Int) + 1 + j) = tx (pad64 (bts (chk I j))) := by
      unfold secT
      rw [show ((a0 : Int) + 1 + j).toNat = a0 + 1 + j by omega, hc j (by omega)]
    rw [e, btx (pad_bytes bts_bytes), bts_chk, pad_split (by rw [bts_len]; exact hj), show 64 * (j + 1) = 64 * j + 64 by omega, List.take_add]
theorem imgOf_done {a0 : Nat} {I : ByteArray} (hc : ∀ k, k < nCh I → d.seen.getD (a0 + 1 + k) [] = pad64 (bts (chk I k))) : imgOf a0 d I.size = I := by
  apply bts_inj
  unfold imgOf
  rw [bts_ext, show (I.size + 63) / 64 = nCh I from rfl, imgT_done hc _ (Nat.le_refl _)]
  have h1 : I.size ≤ 64 * nCh I := by unfold nCh; omega
  have h2 : (bts I).length = I.size := bts_len I
  rw [List.drop_zero, Nat.sub_zero, List.take_take, Nat.min_eq_left h1, List.take_append_of_le_length (by omega), List.take_of_length_le (by omega)]
theorem hdr_bytes {v : Nat} {I : ByteArray} : ∀ y ∈ hdrL v I, 0 ≤ y ∧ y ≤ 255 := by
  intro y hy
  unfold hdrL at hy
  simp only [List.mem_append] at hy
  rcases hy with ((hy | hy) | hy) | hy
  · exact be_bytes y hy
  · exact be_bytes y hy
  · exact bts_bytes y hy
  · exact be_bytes y hy
theorem hd64_eq {v : Nat} {I : ByteArray} : hd64 v I = hdrL v I ++ List.replicate 26 0 := by
  unfold hd64 pad64 hdrT
  rw [btx hdr_bytes]
  have : (hdrL v I).length = 38 := by rw [← tx_sz]; exact hdr_size
  rw [this]
theorem hd64_bytes {v : Nat} {I : ByteArray} : ∀ y ∈ hd64 v I, 0 ≤ y ∧ y ≤ 255 := pad_bytes bts_bytes
theorem hd_f1 {v : Nat} {I : ByteArray} : ((hd64 v I).drop 0).take 1 = be v 1 := by
  rw [hd64_eq]; unfold hdrL
  rw [List.drop_zero, List.append_assoc, List.append_assoc, List.append_assoc, List.take_append_of_le_length (by rw [be_len]; decide), List.take_of_length_le (by rw [be_len]; decide)]
theorem hd_f2 {v : Nat} {I : ByteArray} : ((hd64 v I).drop 1).take 4 = be I.size 4 := by
  rw [hd64_eq]; unfold hdrL
  rw [List.append_assoc, List.append_assoc, List.append_assoc, List.drop_append, be_len, List.drop_of_length_le (by rw [be_len]; decide)]
  rw [List.nil_append, Nat.sub_self, List.drop_zero, List.take_append_of_le_length (by rw [be_len]; decide), List.take_of_length_le (by rw [be_len]; decide)]
theorem hd_f3 {v : Nat} {I : ByteArray} : ((hd64 v I).drop 5).take 32 = bts (sha (bts I)) := by
  have h32 : (bts (sha (bts I))).length = 32 := by rw [bts_len, sha_size]
  rw [hd64_eq]; unfold hdrL
  rw [List.append_assoc, List.append_assoc, List.drop_append, List.drop_of_length_le (by simp only [List.length_append, be_len]; decide)]
  simp only [List.length_append, be_len]
  rw [List.nil_append, Nat.sub_self, List.drop_zero, List.take_append_of_le_length (by omega), List.take_of_length_le (by omega)]
theorem hd_f4 {v : Nat} {I : ByteArray} : ((hd64 v I).drop 37).take 1 = be v 1 := by
  have h32 : (bts (sha (bts I))).length = 32 := by rw [bts_len, sha_size]
  rw [hd64_eq]; unfold hdrL
  rw [List.append_assoc, List.drop_append, List.drop_of_length_le (by simp only [List.length_append, be_len, h32]; decide)]
  simp only [List.length_append, be_len, h32]
  rw [List.nil_append, Nat.sub_self, List.drop_zero, List.take_append_of_le_length (by rw [be_len]; decide), List.take_of_length_le (by rw [be_len]; decide)]
theorem sec_ext {k a b : Nat} {T : List Int} (h : d.seen.getD k [] = T) (hT : ∀ y ∈ T, 0 ≤ y ∧ y ≤ 255) : bts ((secT d k).extract a b) = (T.drop a).take (b - a) := by
  unfold secT
  rw [Int.toNat_natCast, h, bts_ext, btx hT]
theorem srT_done {bs r a0 v : Nat} {slot : Int} {I : ByteArray} (hs : slOK slot = true) (ho : d.off = false) (hat : atV bs r slot = a0) (hh : d.seen.getD a0 [] = hd64 v I) (hc : ∀ k, k < nCh I → d.seen.getD (a0 + 1 + k) [] = pad64 (bts (chk I k)))
    (hv : 1 ≤ v ∧ v < 256) (hI : 1 ≤ I.size ∧ I.size ≤ 8192 ∧ I.size ≤ r * 64) : srT bs r slot d = (v, I, 0) := by
  unfold srT
  rw [if_neg (by rw [hs]; decide), if_neg (by rw [ho]; decide), hat]
  rw [num_be (t := (secT d a0).extract 0 1) (y := v) (k := 1) (by rw [sec_ext hh hd64_bytes]; exact hd_f1) (by omega),
    num_be (t := (secT d a0).extract 1 5) (y := I.size) (k := 4) (by rw [sec_ext hh hd64_bytes]; exact hd_f2) (by omega),
    num_be (t := (secT d a0).extract 37 38) (y := v) (k := 1) (by rw [sec_ext hh hd64_bytes]; exact hd_f4) (by omega)]
  have e : (secT d a0).extract 5 37 = sha (bts I) := bts_inj (by rw [sec_ext hh hd64_bytes]; exact hd_f3)
  rw [e]
  unfold srV
  rw [if_neg (by omega), imgOf_done hc, if_neg (fun h => h rfl)]
theorem imgT_congr {a0 : Nat} : ∀ {j : Nat}, (∀ k, k < j → d'.seen.getD (a0 + 1 + k) [] = d.seen.getD (a0 + 1 + k) []) → imgT a0 d' j = imgT a0 d j
  | 0, _ => rfl
  | j + 1, h => by
    show imgT a0 d' j ++ secT d' ((a0 : Int) + 1 + j) = imgT a0 d j ++ secT d ((a0 : Int) + 1 + j)
    rw [imgT_congr fun k hk => h k (by omega)]
    unfold secT
    rw [show ((a0 : Int) + 1 + j).toNat = a0 + 1 + j by omega, h j (by omega)]
theorem srT_congr {bs r a0 : Nat} {slot : Int} (hs : slOK slot = true) (ho : d.off = false) (ho' : d'.off = false) (hat : atV bs r slot = a0) (h : ∀ k, a0 ≤ k → k ≤ a0 + r → d'.seen.getD k [] = d.seen.getD k []) : srT bs r slot d' = srT bs r slot d := by
  unfold srT
  simp only [hs, ho, ho', hat, Bool.true_eq_false, if_false, Bool.false_eq_true]
  have e : secT d' a0 = secT d a0 := by unfold secT; rw [Int.toNat_natCast, h a0 (Nat.le_refl _) (by omega)]
  rw [e]
  unfold srV
  generalize num ((secT d a0).extract 1 5) = z
  split
  · rfl
  · have e2 : imgOf a0 d' z = imgOf a0 d z := by
      unfold imgOf
      rw [imgT_congr fun k hk => h _ (by omega) (by omega)]
    rw [e2]
end Sl
end
section
/- Slots: the example; nothing is read of, or written to, no slots. -/
set_option linter.unusedVariables false
set_option linter.unusedSimpArgs false
set_option maxRecDepth 100000
open Go.Proofs
namespace Sl
variable {H : Hp} {n : Nat} {x : Nat → Option SO} {d d' : Fd} {i a b c : Nat} {u1 u2 u3 : Bool}
theorem swR_inv {f0 : Bool} {m a0 r bs v : Nat} {st slot : Int} {S : List (List Int)} {I : ByteArray} (g : GoodP f0 m st S [] d) (hm : a0 + 1 + r ≤ m) (hs : slOK slot = true) (hat : atV bs r slot = a0)
    (hv : 1 ≤ v ∧ v < 256) (hI : 1 ≤ I.size ∧ I.size ≤ 8192 ∧ I.size ≤ r * 64) : InvP f0 m (PhA S a0 v I) (st + 5 + nCh I) (doneS S a0 v I) [] (swR bs r slot v I d) := by
  have hE : swE r slot v I = 0 := by
    unfold swE
    rw [if_neg, if_neg (by omega)]
    rw [hs]
    intro h
    rcases h with h | h | h | h
    · cases h
    · omega
    · omega
    · rw [h] at hI; exact absurd hI.1 (by decide)
  unfold swR
  rw [if_pos hE, Int.toNat_natCast, hat]
  exact slW_inv g hm (by unfold nCh; omega)
theorem goodNew {m : Nat} : GoodP true m 0 (List.replicate m (zi 64)) [] (newD m) := ⟨rfl, rfl, rfl, rfl, by simp [newD], rfl, fun _ => rfl⟩
theorem inv_good {m : Nat} {P : List (List Int) → List (Nat × List Int) → Prop} {st : Int} {X : List (List Int)} {Y : List (Nat × List Int)} {p : Int × Fd} (h : InvP true m P st X Y p) : p.1 = 0 ∧ GoodP true m st X Y p.2 := by
  rcases h with h | ⟨h, _⟩
  · exact h
  · cases h
theorem GoodP.seen {f0 : Bool} {m : Nat} {st : Int} {S : List (List Int)} (g : GoodP f0 m st S [] d) : d.seen = S := by
  rw [show d.seen = setl d.safe d.pend from g.sn, g.safe, g.pend]; rfl
theorem srT_wrote {f0 : Bool} {m a0 r bs v : Nat} {st slot : Int} {S : List (List Int)} {I : ByteArray} (g : GoodP f0 m st (doneS S a0 v I) [] d) (hl : S.length = m) (hm : a0 + 1 + r ≤ m) (hs : slOK slot = true) (hat : atV bs r slot = a0)
    (hv : 1 ≤ v ∧ v < 256) (hI : 1 ≤ I.size ∧ I.size ≤ 8192 ∧ I.size ≤ r * 64) : srT bs r slot d = (v, I, 0) := by
  have hN : nCh I ≤ r := by unfold nCh; omega
  refine srT_done hs g.off hat ?_ (fun k hk => ?_) hv hI
  · rw [g.seen]; exact done_at (by omega)
  · rw [g.seen]; exact done_ch hk (by omega)
theorem openNil {bs r : Int} : SpecAt Tryz.prog nSOpen [.v (.pointer none), .v (.int .i64 bs), .v (.int .i64 r)] H n (.tup [.v (.pointer none), .v (.int .i64 1)]) H n := okT.pure tSOpen (by
  unfold mSOpen
  simp -implicitDefEqProofs only [↓fnVC, initTm]
  simp -implicitDefEqProofs only [go_sem, List.isEmpty_cons, Bool.false_eq_true, if_false])
end Sl
end
section
/- Cells: a copy's write, plain (as layer 22's, with any header). -/
set_option linter.unusedVariables false
set_option linter.unusedSimpArgs false
set_option maxRecDepth 100000
open Go.Proofs
variable {H : Hp} {n : Nat} {x : Nat → Option SO} {d d' : Fd} {i a b c : Nat} {u1 u2 u3 : Bool}
def thn (p : Int × Fd) (f : Fd → Int × Fd) : Int × Fd := if p.1 = 0 then f p.2 else p
theorem thn_ok {p : Int × Fd} {f : Fd → Int × Fd} (h : p.1 = 0) : thn p f = f p.2 := if_pos h
theorem thn_no {p : Int × Fd} {f : Fd → Int × Fd} (h : p.1 ≠ 0) : thn p f = p := if_neg h
theorem thn_pl {p : Int × Fd} {f : Fd → Int × Fd} {m t : Nat} (hP : Pl p.2 m t) (hf : Pl p.2 m t → Pl (f p.2).2 m (t + 1)) : Pl (thn p f).2 m (t + 1) := by
  unfold thn; split
  · exact hf hP
  · exact hP.more
def chk (I : ByteArray) (j : Nat) : ByteArray := I.extract (64 * j) (min (64 * j + 64) I.size)
def cws (at_ : Int) (I : ByteArray) (p : Int × Fd) : Nat → Int × Fd
  | 0 => p
  | j + 1 => thn (cws at_ I p j) fun d => wrT d (at_ + 1 + j) (chk I j)
def nCh (I : ByteArray) : Nat := (I.size + 63) / 64
def p1 (at_ : Int) (d : Fd) : Int × Fd := thn (wrT d at_ ⟨#[]⟩) baT
def pC (at_ : Int) (I : ByteArray) (d : Fd) (j : Nat) : Int × Fd := cws at_ I (p1 at_ d) j
def p2 (at_ : Int) (I : ByteArray) (d : Fd) : Int × Fd := thn (pC at_ I d (nCh I)) baT
def p3 (at_ : Int) (Q : ByteArray) (I : ByteArray) (d : Fd) : Int × Fd := thn (p2 at_ I d) fun d => wrT d at_ (Q)
def slW (at_ : Int) (Q : ByteArray) (I : ByteArray) (d : Fd) : Int × Fd := thn (p3 at_ Q I d) baT
theorem p1_pl {at_ : Int} {m t : Nat} (hP : Pl d m t) (ht : t + 1000 < 1000000) : Pl (p1 at_ d).2 m (t + 2) :=
  thn_pl (wrT_pl hP (by omega)) fun h => baT_pl h (by omega)
theorem pC_pl {at_ : Int} {I : ByteArray} {m t : Nat} (hP : Pl d m t) (ht : t + 1000 < 1000000) : ∀ {j}, j ≤ 200 → Pl (pC at_ I d j).2 m (t + 2 + j)
  | 0, _ => p1_pl hP ht
  | j + 1, h => thn_pl (pC_pl hP ht (by omega)) fun h => wrT_pl h (by show t + 2 + j < 1000000; omega)
theorem nCh_lt {I : ByteArray} {j : Nat} : j < nCh I ↔ 64 * j < I.size := by unfold nCh; omega
theorem nCh_le {I : ByteArray} (h : I.size ≤ 8192) : nCh I ≤ 128 := by unfold nCh; omega
theorem p2_pl {at_ : Int} {I : ByteArray} {m t : Nat} (hP : Pl d m t) (ht : t + 1000 < 1000000) (hI : I.size ≤ 8192) : Pl (p2 at_ I d).2 m (t + 131) := by
  have h1 := pC_pl (at_ := at_) (I := I) hP ht (j := nCh I) (by have := nCh_le hI; omega)
  have h2 := thn_pl h1 (f := baT) fun h => baT_pl h (by have := nCh_le hI; omega)
  exact h2.mono (by have := nCh_le hI; omega)
theorem p3_pl {at_ : Int} {Q : ByteArray} {I : ByteArray} {m t : Nat} (hP : Pl d m t) (ht : t + 1000 < 1000000) (hI : I.size ≤ 8192) : Pl (p3 at_ Q I d).2 m (t + 132) :=
  thn_pl (p2_pl hP ht hI) fun h => wrT_pl h (by omega)
theorem slW_pl {at_ : Int} {Q : ByteArray} {I : ByteArray} {m t : Nat} (hP : Pl d m t) (ht : t + 1000 < 1000000) (hI : I.size ≤ 8192) : Pl (slW at_ Q I d).2 m (t + 133) :=
  thn_pl (p3_pl hP ht hI) fun h => baT_pl h (by omega)
structure GoodP (f0 : Bool) (m : Nat) (st : Int) (X : List (List Int)) (Y : List (Nat × List Int)) (d : Fd) : Prop where
  off : d.off = false
  safe : d.safe = X
  pend : d.pend = Y
  sn : Sn d
  len : d.seen.length = m
  st : d.st = st
  fa : f0 = true → d.fa = 0
def InvP (f0 : Bool) (m : Nat) (P : List (List Int) → List (Nat × List Int) → Prop) (st : Int) (X : List (List Int)) (Y : List (Nat × List Int)) (p : Int × Fd) : Prop :=
  (p.1 = 0 ∧ GoodP f0 m st X Y p.2) ∨ (f0 = false ∧ p.1 = 7 ∧ P p.2.safe p.2.pend)
theorem inv_wr {f0 : Bool} {m : Nat} {P : List (List Int) → List (Nat × List Int) → Prop} {st : Int} {X : List (List Int)} {Y : List (Nat × List Int)} {p : Int × Fd} {k : Nat} {s : ByteArray}
    (h : InvP f0 m P st X Y p) (hP : P X Y) (hk : k < m) (hs : s.size ≤ 64) : InvP f0 m P (st + 1) X (Y ++ [(k, pad64 (bts s))]) (thn p fun d => wrT d k s) := by
  rcases h with ⟨h0, g⟩ | ⟨hf, h7, hp⟩
  · rw [thn_ok h0]
    obtain ⟨e, d⟩ := p
    obtain ⟨g1, g2, g3, g4, g5, g6, g7⟩ := g
    simp only at g1 g2 g3 g4 g5 g6 g7
    unfold wrT
    have hN : wrNo d k s = if d.fa = 1 then some (7, stepD d) else none := by
      unfold wrNo; rw [g1, if_neg Bool.false_ne_true, if_neg (by omega), if_neg (by omega)]
    rw [hN]
    by_cases hfa : d.fa = 1
    · rw [if_pos hfa]
      refine .inr ⟨?_, rfl, ?_⟩
      · cases f0
        · rfl
        · have := g7 rfl; omega
      · show P (stepD d).safe (stepD d).pend
        rw [stepD_safe.1, stepD_safe.2.1, g2, g3]; exact hP
    · rw [if_neg hfa]
      refine .inl ⟨rfl, ⟨?_, ?_, ?_, ?_, ?_, ?_, ?_⟩⟩
      · show (wrD d _ s).off = false
        rw [wrD_off hfa, g1]
      · show (wrD d _ s).safe = X
        rw [wrD_safe, g2]
      · show (wrD d _ s).pend = _
        rw [wrD_pend, g3, Int.toNat_natCast]
      · exact g4.wr
      · show (wrD d _ s).seen.length = _
        rw [wrD_len, g5]
      · show (wrD d _ s).st = _
        rw [wrD_st hfa, g6]
      · intro hf; show (wrD d _ s).fa = _
        exact wrD_fa (g7 hf)
  · have hp1 : p.1 ≠ 0 := by rw [h7]; decide
    rw [thn_no hp1]
    exact .inr ⟨hf, h7, hp⟩
theorem inv_ba {f0 : Bool} {m : Nat} {P : List (List Int) → List (Nat × List Int) → Prop} {st : Int} {X : List (List Int)} {Y : List (Nat × List Int)} {p : Int × Fd}
    (h : InvP f0 m P st X Y p) (hP : P X Y) : InvP f0 m P (st + 1) (setl X Y) [] (thn p baT) := by
  rcases h with ⟨h0, g⟩ | ⟨hf, h7, hp⟩
  · rw [thn_ok h0]
    obtain ⟨e, d⟩ := p
    obtain ⟨g1, g2, g3, g4, g5, g6, g7⟩ := g
    simp only at g1 g2 g3 g4 g5 g6 g7
    unfold baT
    have hN : baNo d = if d.fa = 1 then some (7, stepD d) else none := by
      unfold baNo; rw [g1, if_neg Bool.false_ne_true]
    rw [hN]
    by_cases hfa : d.fa = 1
    · rw [if_pos hfa]
      refine .inr ⟨?_, rfl, ?_⟩
      · cases f0
        · rfl
        · have := g7 rfl; omega
      · show P (stepD d).safe (stepD d).pend
        rw [stepD_safe.1, stepD_safe.2.1, g2, g3]; exact hP
    · rw [if_neg hfa]
      refine .inl ⟨rfl, ⟨?_, ?_, rfl, ?_, ?_, ?_, ?_⟩⟩
      · show (baD d).off = false
        rw [baD_off hfa, g1]
      · show setl d.safe d.pend = _
        rw [g2, g3]
      · show (baD d).seen = setl (baD d).safe (baD d).pend
        rw [g4.ba]; rfl
      · show (baD d).seen.length = _
        rw [baD_seen, g5]
      · show (baD d).st = _
        rw [baD_st hfa, g6]
      · intro hf; exact baD_fa (g7 hf)
  · have hp1 : p.1 ≠ 0 := by rw [h7]; decide
    rw [thn_no hp1]
    exact .inr ⟨hf, h7, hp⟩
def pch (a0 : Nat) (I : ByteArray) (j : Nat) : List (Nat × List Int) := (List.range j).map fun k => (a0 + 1 + k, pad64 (bts (chk I k)))
def z64 : List Int := pad64 (bts ⟨#[]⟩)
def hd64 (Q : ByteArray) : List Int := pad64 (bts Q)
theorem pch_succ {a0 : Nat} {I : ByteArray} {j : Nat} : pch a0 I (j + 1) = pch a0 I j ++ [(a0 + 1 + j, pad64 (bts (chk I j)))] := by
  unfold pch; rw [List.range_succ, List.map_append]; rfl
theorem chk_size {I : ByteArray} {j : Nat} : (chk I j).size ≤ 64 := by
  unfold chk; rw [ByteArray.size_extract]; omega
inductive PhA (S : List (List Int)) (a0 : Nat) (Q : ByteArray) (I : ByteArray) : List (List Int) → List (Nat × List Int) → Prop
  | p0 : PhA S a0 Q I S []
  | p1 : PhA S a0 Q I S [(a0, z64)]
  | p2 (j : Nat) (h : j ≤ nCh I) : PhA S a0 Q I (S.set a0 z64) (pch a0 I j)
  | p4 : PhA S a0 Q I (setl (S.set a0 z64) (pch a0 I (nCh I))) []
  | p5 : PhA S a0 Q I (setl (S.set a0 z64) (pch a0 I (nCh I))) [(a0, hd64 Q)]
def doneS (S : List (List Int)) (a0 : Nat) (Q : ByteArray) (I : ByteArray) : List (List Int) := (setl (S.set a0 z64) (pch a0 I (nCh I))).set a0 (hd64 Q)
theorem slW_inv {f0 : Bool} {m a0 r : Nat} {st : Int} {S : List (List Int)} {I Q : ByteArray} (hh : Q.size ≤ 64) (g : GoodP f0 m st S [] d) (hm : a0 + 1 + r ≤ m) (hI : nCh I ≤ r) :
    InvP f0 m (PhA S a0 Q I) (st + 5 + nCh I) (doneS S a0 Q I) [] (slW a0 Q I d) := by
  have h0 : InvP f0 m (PhA S a0 Q I) st S [] (0, d) := .inl ⟨rfl, g⟩
  have h1 := inv_wr (k := a0) (s := ⟨#[]⟩) h0 .p0 (by omega) (by decide)
  rw [thn_ok rfl] at h1
  have h2 : InvP f0 m (PhA S a0 Q I) (st + 1 + 1) (S.set a0 z64) [] (p1 a0 d) := inv_ba h1 .p1
  have h3 : ∀ j, j ≤ nCh I → InvP f0 m (PhA S a0 Q I) (st + 2 + j) (S.set a0 z64) (pch a0 I j) (pC a0 I d j) := by
    intro j
    induction j with
    | zero => intro _; have e : st + 1 + 1 = st + 2 + (0 : Nat) := by omega
              rw [e] at h2; exact h2
    | succ j ih =>
      intro hj
      have := inv_wr (k := a0 + 1 + j) (s := chk I j) (ih (by omega)) (.p2 j (by omega)) (by omega) chk_size
      rw [← pch_succ, show st + 2 + (j : Int) + 1 = st + 2 + ((j + 1 : Nat) : Int) by omega] at this
      exact this
  have h4 : InvP f0 m (PhA S a0 Q I) (st + 2 + nCh I + 1) (setl (S.set a0 z64) (pch a0 I (nCh I))) [] (p2 a0 I d) := inv_ba (h3 _ (Nat.le_refl _)) (.p2 _ (Nat.le_refl _))
  have h5 : InvP f0 m (PhA S a0 Q I) (st + 2 + nCh I + 1 + 1) (setl (S.set a0 z64) (pch a0 I (nCh I))) [(a0, hd64 Q)] (p3 a0 Q I d) := inv_wr h4 .p4 (by omega) hh
  have h6 : InvP f0 m (PhA S a0 Q I) (st + 2 + nCh I + 1 + 1 + 1) (doneS S a0 Q I) [] (slW a0 Q I d) := inv_ba h5 .p5
  rw [show st + 2 + (nCh I : Int) + 1 + 1 + 1 = st + 5 + nCh I by omega] at h6
  exact h6
end
section
/- Cells: names, bytes. -/
set_option linter.unusedVariables false
set_option linter.unusedSimpArgs false
set_option maxRecDepth 100000
open Go.Proofs
variable {H : Hp} {n : Nat} {x : Nat → Option SO} {i : Nat}
theorem srtK_len {es : List (Value × Value)} : (srtK es).length = es.length := by unfold srtK; rw [List.length_map, List.length_mergeSort, List.length_map]
theorem namesW {es : List (Value × Value)} (hk : keysS es = true) (hs : ∀ e ∈ es, (keyB e).length ≤ maxLen) (hl : es.length ≤ 1000000) :
    fnVC CT mcnames [.mp 1] ⟨[(1, some ⟨false, .mp (.map es)⟩)], x⟩ 2 fun v H' n' => Sub 2 ⟨[(0, .sl 2 0 es.length 1)], ⟨[(2, some ⟨true, .strs (srtK es)⟩)], x⟩, 3⟩ ⟨[(0, v)], H', n'⟩ := by
  unfold mcnames
  simp -implicitDefEqProofs only [↓fnVC, initTm]
  simp -implicitDefEqProofs only [go_sem]
  refine at_ext (enters_mk Tryz.func120 rfl rfl) (keysT (i := 1) (by rfl) (by decide)) ?_
  simp -implicitDefEqProofs only [go_sem]
  refine at_ext (enters_mk Tryz.func119 rfl rfl) (sortedT (i := 1) (j := 3) (k := 2) (by rfl) rfl (by rfl) rfl (by rfl) rfl hk hs hl (by decide)) ?_
  simp -implicitDefEqProofs only [go_sem]
  refine sub_mk [(2, 4)] rfl rfl rfl ?_
  simp only [tmSub, hpSub, objSub, eqTm, eqHp, rn, lk, SV.ren, SV.renC, SV.renB, SV.renA, ren_ints, ren_strs, ren_pl, ren_svs, SV.v.injEq, Value.int.injEq, Body.ints.injEq, SV.ptr.injEq, SV.sl.injEq, List.map_cons, List.map_nil, forall_const, Nat.reduceLT, imp_self, true_and, and_true, and_self, ob_some, get_mk, lk_cons, ↓reduceIte, Nat.reduceEqDiff, Nat.reduceAdd, false_implies, implies_true, reduceCtorEq]
theorem namesS {es : List (Value × Value)} {s : SO} (hg : H.get i = some s) (hb : s.b = .mp (.map es)) (hi : 0 < i) (hk : keysS es = true) (hs : ∀ e ∈ es, (keyB e).length ≤ maxLen) (hl : es.length ≤ 1000000) (hn : n + 1 ≤ 1000) :
    SpecAt Tryz.prog ncnames [.mp i] H n (.sl n 0 es.length 1) ⟨(n, some ⟨true, .strs (srtK es)⟩) :: H.l, H.x⟩ (n + 1) := by
  have := lift (n := n) (okT.spec tcnames (namesW (x := H.x) hk hs hl)) [(1, i)] rfl rfl rfl (by omega) rfl rfl
    ⟨sub_ro rfl hi hg hb, trivial⟩ (by simp [apartB, apart1, rn, lk]) (by simp [wrNZ, rn, lk]) (by omega)
  exact this
structure Es (es : List (Value × Value)) : Prop where
  keys : keysS es = true
  kl : ∀ e ∈ es, (keyB e).length ≤ 32
  vals : ∀ e ∈ es, ∃ t : ByteArray, e.2 = .agg ⟨[.string t]⟩ ∧ t.size ≤ 65535
  len : es.length ≤ 64
  ne : ∀ e ∈ es, keyB e ≠ []
  nd : (es.map keyB).Nodup
def tOf (es : List (Value × Value)) (name : ByteArray) : ByteArray := match luS es name with
  | some (.agg ⟨[.string t]⟩) => t
  | _ => ⟨#[]⟩
theorem lu_some {es : List (Value × Value)} (hk : keysS es = true) {s : ByteArray} (h : s.data.toList ∈ es.map keyB) : ∃ e ∈ es, luS es s = some e.2 := by
  induction es with
  | nil => cases h
  | cons e es ih =>
    unfold keysS at hk
    rw [List.all_cons, Bool.and_eq_true] at hk
    unfold luS
    by_cases c : keyIs e.1 s = true
    · rw [if_pos c]; exact ⟨e, List.mem_cons_self .., rfl⟩
    · rw [if_neg c]
      rw [List.map_cons] at h
      rcases List.mem_cons.1 h with h | h
      · exfalso
        apply c
        have h1 := hk.1
        unfold keyB at h
        cases hq : e.1 <;> simp [hq] at h1
        rename_i q
        rw [hq] at h
        simp only at h
        unfold keyIs
        have : q = s := by apply ByteArray.ext; exact (Array.toList_inj.1 h).symm
        exact decide_eq_true this
      · obtain ⟨e', h1, h2⟩ := ih hk.2 h
        exact ⟨e', List.mem_cons_of_mem _ h1, h2⟩
theorem srtK_mem {es : List (Value × Value)} {s : ByteArray} (h : s ∈ srtK es) : s.data.toList ∈ es.map keyB := by
  unfold srtK at h
  obtain ⟨l, hl, rfl⟩ := List.mem_map.1 h
  exact (List.mergeSort_perm _ _).mem_iff.1 hl
theorem Es.at_ {es : List (Value × Value)} (h : Es es) {s : ByteArray} (hs : s ∈ srtK es) : luS es s = some (.agg ⟨[.string (tOf es s)]⟩) ∧ (tOf es s).size ≤ 65535 ∧ s.size ≤ 32 := by
  have hm := srtK_mem hs
  obtain ⟨e, he, hl⟩ := lu_some h.keys hm
  obtain ⟨t, ht, htz⟩ := h.vals e he
  have e1 : tOf es s = t := by unfold tOf; rw [hl, ht]
  rw [e1, hl, ht]
  refine ⟨rfl, htz, ?_⟩
  obtain ⟨e', he', hk'⟩ := List.mem_map.1 hm
  have := h.kl e' he'
  rw [hk'] at this
  rw [Array.length_toList] at this
  exact this
def nmAt (es : List (Value × Value)) (j : Nat) : ByteArray := (srtK es).getD j .empty
def encL (es : List (Value × Value)) : Nat → List Int
  | 0 => be es.length 2
  | j + 1 => encL es j ++ (be (nmAt es j).size 2 ++ bts (nmAt es j)) ++ (be (tOf es (nmAt es j)).size 2 ++ bts (tOf es (nmAt es j)))
def encB (es : List (Value × Value)) : ByteArray := tx (encL es es.length)
theorem nmAt_mem {es : List (Value × Value)} {j : Nat} (h : j < es.length) : nmAt es j ∈ srtK es := by
  unfold nmAt
  rw [List.getD_eq_getElem?_getD, List.getElem?_eq_getElem (by rw [srtK_len]; exact h)]
  exact List.getElem_mem _
theorem encL_len {es : List (Value × Value)} (h : Es es) : ∀ {j}, j ≤ es.length → (encL es j).length ≤ 2 + j * 65600
  | 0, _ => by unfold encL; rw [be_len]; omega
  | j + 1, hj => by
    have ih := encL_len h (j := j) (by omega)
    obtain ⟨h1, h2, h3⟩ := h.at_ (nmAt_mem (es := es) (j := j) (by omega))
    unfold encL
    simp only [List.length_append, be_len, bts_len]
    omega
theorem bytesW {es : List (Value × Value)} (h : Es es) : fnVC CT mcbytes [.mp 1] ⟨[(1, some ⟨false, .mp (.map es)⟩)], x⟩ 2 fun v H' n' => Sub 2 ⟨[(0, .v (.string (encB es)))], ⟨[], x⟩, 2⟩ ⟨[(0, v)], H', n'⟩ := by
  have hlen := h.len
  unfold mcbytes
  simp -implicitDefEqProofs only [↓fnVC, initTm]
  simp -implicitDefEqProofs only [go_sem]
  refine in_call mixT tWTwo ?_
  unfold mWTwo
  simp -implicitDefEqProofs only [↓fnVC, initTm]
  simp -implicitDefEqProofs only [go_sem]
  refine at_call tWNumber (wNum0S (i := 2) (k := 2) (y := es.length) (by rfl) (by decide) (by decide) (by decide) (by omega) (fun _ => by omega)) ?_
  simp -implicitDefEqProofs only [go_sem]
  refine at_call tcnames (namesS (i := 1) (by rfl) rfl (by decide) h.keys (fun e he => Nat.le_trans (h.kl e he) (by decide)) (by omega) (by decide)) ?_
  simp -implicitDefEqProofs only [go_sem]
  refine loop_fam (fun (j : Nat) => j ≤ es.length) (fun j => ⟨[(0, .mp 1), (3, .ptr 2 0), (12, .sl 4 0 es.length 1), (13, .v (.int .i64 es.length)), (14, .v (.int .i64 j))], ⟨[(1, some ⟨false, .mp (.map es)⟩), (2, some (wrO 3 (encL es j).length false)), (3, some ⟨true, .ints .u8 (encL es j)⟩), (4, some ⟨true, .strs (srtK es)⟩)], x⟩, 5⟩) (fun j => es.length - j) 0 (Nat.zero_le _) ?_ ?_
  · unfold wrO
    refine sub_mk [] rfl rfl rfl ?_
    simp only [tmSub, hpSub, objSub, eqTm, eqHp, rn, lk, SV.ren, SV.renC, SV.renB, SV.renA, ren_ints, ren_strs, ren_pl, ren_svs, SV.v.injEq, Value.int.injEq, Body.ints.injEq, SV.ptr.injEq, SV.sl.injEq, List.map_cons, List.map_nil, forall_const, Nat.reduceLT, imp_self, true_and, and_true, and_self, ob_some, get_mk, lk_cons, ↓reduceIte, Nat.reduceEqDiff, Nat.reduceAdd, false_implies, implies_true, reduceCtorEq]
    repeat' (first | rfl | apply And.intro)
  · intro j hj
    simp -implicitDefEqProofs only [go_sem]
    refine condK_bb (fun c => ?_) (fun c => ?_)
    · have c1 : j < es.length := by have := of_decide_eq_true c; omega
      have hb := encL_len h hj
      obtain ⟨h1, h2, h3⟩ := h.at_ (nmAt_mem c1)
      have w2 : IntKind.i64.wrap ((j : Int) + 1) = ((j + 1 : Nat) : Int) := by rw [wrap_i64 (by omega) (by omega)]; omega
      have hnm : (srtK es).getD j .empty = nmAt es j := rfl
      have hsl : j < (srtK es).length := by rw [srtK_len]; exact c1
      simp -implicitDefEqProofs only [go_sem, c]
      refine ⟨⟨by omega, by omega⟩, hsl, ?_⟩
      rw [hnm]
      refine at_call tWText (wTextS (i := 2) (r := 3) (s := nmAt es j) (bs := encL es j) (by omega) (by omega) (by rfl) (by rfl) (by decide) (by decide) (by decide) (by decide)) ?_
      have hk := h.keys
      simp -implicitDefEqProofs only [go_sem, asM_so, hk, hnm]
      rw [h1]
      simp -implicitDefEqProofs only [go_sem, luV_v, Option.getD_some, elemSV]
      refine at_call tWText (wTextS (i := 2) (r := 5) (s := tOf es (nmAt es j)) (bs := encL es j ++ (be (nmAt es j).size 2 ++ bts (nmAt es j))) (by omega) (by simp only [List.length_append, be_len, bts_len]; omega) (by rfl) (by rfl) (by decide) (by decide) (by decide) (by decide)) ?_
      simp -implicitDefEqProofs only [go_sem, w2]
      refine kLoop_mk (j + 1) (by omega) (by omega) ?_
      unfold wrO
      refine sub_mk [(3, 6)] rfl rfl rfl ?_
      simp only [tmSub, hpSub, objSub, eqTm, eqHp, rn, lk, SV.ren, SV.renC, SV.renB, SV.renA, ren_ints, ren_strs, ren_pl, ren_svs, SV.v.injEq, Value.int.injEq, Body.ints.injEq, SV.ptr.injEq, SV.sl.injEq, List.map_cons, List.map_nil, forall_const, Nat.reduceLT, imp_self, true_and, and_true, and_self, ob_some, get_mk, lk_cons, ↓reduceIte, Nat.reduceEqDiff, Nat.reduceAdd, false_implies, implies_true, reduceCtorEq]
      repeat' (first | rfl | apply And.intro)
    · have c1 : j = es.length := by have := of_decide_eq_false c; omega
      subst c1
      simp -implicitDefEqProofs only [go_sem, c]
      refine at_call tWBytes (wBytesS (i := 2) (r := 3) (bs := encL es es.length) (bad := false) (by rfl) (by rfl) (by decide) rfl) ?_
      rw [if_neg Bool.false_ne_true]
      simp -implicitDefEqProofs only [go_sem]
      refine sub_mk [] rfl rfl rfl ?_
      simp only [tmSub, hpSub, objSub, eqTm, eqHp, rn, lk, SV.ren, SV.renC, SV.renB, SV.renA, ren_ints, ren_strs, ren_pl, ren_svs, SV.v.injEq, Value.int.injEq, Body.ints.injEq, SV.ptr.injEq, SV.sl.injEq, List.map_cons, List.map_nil, forall_const, Nat.reduceLT, imp_self, true_and, and_true, and_self, ob_some, get_mk, lk_cons, ↓reduceIte, Nat.reduceEqDiff, Nat.reduceAdd, false_implies, implies_true, reduceCtorEq]
      rfl
end
section
/- Cells: Get, Put, Drop, Undo. -/
set_option linter.unusedVariables false
set_option linter.unusedSimpArgs false
set_option maxRecDepth 100000
open Go.Proofs
variable {H : Hp} {n : Nat} {x : Nat → Option SO} {i : Nat} {d : Fd}
structure Ce where
  base : Nat
  half : Nat
  num : Nat
  last : Nat
  dead : Bool
  now : List (Value × Value)
  was : List (Value × Value)
def cellB (C : Ce) (D M W : Nat) : Body := .sv [.ptr D 0, .v (.int .i64 C.base), .v (.int .i64 C.half), .mp M, .mp W, .v (.int .i64 C.num), .v (.int .i64 C.last), .v (.bool C.dead)]
def ceL (C : Ce) (d : Fd) : List (Nat × Option SO) := (1, some ⟨true, cellB C 2 6 7⟩) :: devL d 2 3 4 5 [(6, some ⟨true, .mp (.map C.now)⟩), (7, some ⟨true, .mp (.map C.was)⟩)]
def ceH (C : Ce) (d : Fd) (x : Nat → Option SO) : Hp := ⟨ceL C d, x⟩
def getV (es : List (Value × Value)) (name : ByteArray) : SV := .tup [.v (.string (tOf es name)), .v (.bool (luS es name).isSome)]
theorem lu_mem {es : List (Value × Value)} {s : ByteArray} {v : Value} (h : luS es s = some v) : ∃ e ∈ es, e.2 = v := by
  induction es with
  | nil => cases h
  | cons e es ih =>
    unfold luS at h
    split at h
    · cases h; exact ⟨e, List.mem_cons_self .., rfl⟩
    · obtain ⟨e', h1, h2⟩ := ih h; exact ⟨e', List.mem_cons_of_mem _ h1, h2⟩
theorem Es.lu {es : List (Value × Value)} (h : Es es) (name : ByteArray) : (luS es name = none ∧ tOf es name = ⟨#[]⟩) ∨ luS es name = some (.agg ⟨[.string (tOf es name)]⟩) := by
  cases hl : luS es name with
  | none => exact .inl ⟨rfl, by unfold tOf; rw [hl]⟩
  | some v =>
    right
    obtain ⟨e, he, rfl⟩ := lu_mem hl
    obtain ⟨t, ht, _⟩ := h.vals e he
    have : tOf es name = t := by unfold tOf; rw [hl, ht]
    rw [this, ht]
theorem Es.get {es : List (Value × Value)} (h : Es es) (name : ByteArray) : luV (luS es name) (.agg ⟨[.string ⟨#[]⟩]⟩) true = .tup [.agg [.v (.string (tOf es name))], .v (.bool (luS es name).isSome)] := by
  rcases h.lu name with ⟨h1, h2⟩ | h1
  · rw [h1, h2]; rfl
  · rw [h1]; rfl
theorem Es.el {es : List (Value × Value)} (h : Es es) (name : ByteArray) : elemSV ((luS es name).getD (.agg ⟨[.string ⟨#[]⟩]⟩)) = .agg [.v (.string (tOf es name))] := by
  rcases h.lu name with ⟨h1, h2⟩ | h1
  · rw [h1, h2]; rfl
  · rw [h1]; rfl
def putE (es : List (Value × Value)) (name text : ByteArray) : Int :=
  if name.size = 0 ∨ 32 < name.size then 1 else if 65535 < text.size then 4 else if (luS es name).isSome = false ∧ 64 ≤ es.length then 6 else 0
def putEs (es : List (Value × Value)) (name text : ByteArray) : List (Value × Value) := if putE es name text = 0 then upS es name (.agg ⟨[.string text]⟩) else es
theorem spl1 {a b : SV} : splice [a] 0 [b] = [b] := rfl
theorem putE_1 {es : List (Value × Value)} {name text : ByteArray} (h : name.size = 0 ∨ 32 < name.size) : putE es name text = 1 := if_pos h
theorem putW {C : Ce} {name text : ByteArray} (h : Es C.now) : fnVC CT mCPut [.ptr 1 0, .v (.string name), .v (.string text)] (ceH C d x) 8 fun v H' n' => Sub 8 ⟨[(0, .v (.int .i64 (putE C.now name text)))], ceH { C with now := putEs C.now name text } d x, 8⟩ ⟨[(0, v)], H', n'⟩ := by
  have hk := h.keys
  have hg := h.el name
  have hlen := h.len
  have keep : ∀ {e : Int}, e ≠ 0 → putE C.now name text = e → ceH { C with now := putEs C.now name text } d x = ceH C d x := fun h0 h1 => by
    unfold putEs; rw [if_neg (by rw [h1]; exact h0)]
  unfold mCPut
  rw [show ceH C d x = ⟨ceL C d, x⟩ from rfl]
  unfold ceL devL cellB
  simp -implicitDefEqProofs only [↓fnVC, initTm]
  simp -implicitDefEqProofs only [go_sem]
  refine in_call mixT tCGet ?_
  unfold mCGet
  simp -implicitDefEqProofs only [↓fnVC, initTm]
  simp -implicitDefEqProofs only [go_sem, asM_so, hk, hg, spl1]
  by_cases c1 : name.size = 0
  · have a1 : seq name ⟨#[]⟩ = true := seq_emp c1
    simp -implicitDefEqProofs only [go_sem, a1]
    rw [keep (by decide) (putE_1 (.inl c1)), putE_1 (.inl c1)]
    unfold ceH ceL devL cellB
    refine sub_mk [] rfl rfl rfl ?_
    simp only [tmSub, hpSub, objSub, eqTm, eqHp, rn, lk, SV.ren, SV.renC, SV.renB, SV.renA, ren_ints, ren_strs, ren_pl, ren_svs, List.map_cons, List.map_nil, forall_const, Nat.reduceLT, true_and, and_true, ob_some, get_mk, lk_cons, ↓reduceIte, Nat.reduceEqDiff, Nat.reduceAdd, implies_true, reduceCtorEq]
    repeat' (first | rfl | apply And.intro)
  have a1 : seq name ⟨#[]⟩ = false := seq_nemp c1
  by_cases c2 : 32 < name.size
  · have a2 : decide ((name.size : Int) > 32) = true := decide_eq_true (by omega)
    simp -implicitDefEqProofs only [go_sem, a1, a2]
    rw [keep (by decide) (putE_1 (.inr c2)), putE_1 (.inr c2)]
    unfold ceH ceL devL cellB
    refine sub_mk [] rfl rfl rfl ?_
    simp only [tmSub, hpSub, objSub, eqTm, eqHp, rn, lk, SV.ren, SV.renC, SV.renB, SV.renA, ren_ints, ren_strs, ren_pl, ren_svs, List.map_cons, List.map_nil, forall_const, Nat.reduceLT, true_and, and_true, ob_some, get_mk, lk_cons, ↓reduceIte, Nat.reduceEqDiff, Nat.reduceAdd, implies_true, reduceCtorEq]
    repeat' (first | rfl | apply And.intro)
  have a2 : decide ((name.size : Int) > 32) = false := decide_eq_false (by omega)
  simp -implicitDefEqProofs only [go_sem, a1, a2]
  by_cases c3 : 65535 < text.size
  · have a3 : decide ((text.size : Int) > 65535) = true := decide_eq_true (by omega)
    have he : putE C.now name text = 4 := by unfold putE; rw [if_neg (by omega), if_pos c3]
    simp -implicitDefEqProofs only [go_sem, a3]
    rw [keep (by decide) he, he]
    unfold ceH ceL devL cellB
    refine sub_mk [] rfl rfl rfl ?_
    simp only [tmSub, hpSub, objSub, eqTm, eqHp, rn, lk, SV.ren, SV.renC, SV.renB, SV.renA, ren_ints, ren_strs, ren_pl, ren_svs, List.map_cons, List.map_nil, forall_const, Nat.reduceLT, true_and, and_true, ob_some, get_mk, lk_cons, ↓reduceIte, Nat.reduceEqDiff, Nat.reduceAdd, implies_true, reduceCtorEq]
    repeat' (first | rfl | apply And.intro)
  have a3 : decide ((text.size : Int) > 65535) = false := decide_eq_false (by omega)
  simp -implicitDefEqProofs only [go_sem, a3]
  by_cases c4 : (luS C.now name).isSome = false ∧ 64 ≤ C.now.length
  · have a4 : decide ((C.now.length : Int) ≥ 64) = true := decide_eq_true (by omega)
    have he : putE C.now name text = 6 := by unfold putE; rw [if_neg (by omega), if_neg c3, if_pos c4]
    have a5 := c4.1
    simp -implicitDefEqProofs only [go_sem, a4, a5, asM_so]
    rw [keep (by decide) he, he]
    unfold ceH ceL devL cellB
    refine sub_mk [] rfl rfl rfl ?_
    simp only [tmSub, hpSub, objSub, eqTm, eqHp, rn, lk, SV.ren, SV.renC, SV.renB, SV.renA, ren_ints, ren_strs, ren_pl, ren_svs, List.map_cons, List.map_nil, forall_const, Nat.reduceLT, true_and, and_true, ob_some, get_mk, lk_cons, ↓reduceIte, Nat.reduceEqDiff, Nat.reduceAdd, implies_true, reduceCtorEq]
    repeat' (first | rfl | apply And.intro)
  have he : putE C.now name text = 0 := by unfold putE; rw [if_neg (by omega), if_neg c3, if_neg c4]
  have hes : putEs C.now name text = upS C.now name (.agg ⟨[.string text]⟩) := if_pos he
  rw [he, hes]
  cases a5 : (luS C.now name).isSome with
  | true =>
    simp -implicitDefEqProofs only [go_sem, a5, asM_so, hk, spl1]
    unfold ceH ceL devL cellB
    refine sub_mk [] rfl rfl rfl ?_
    simp only [tmSub, hpSub, objSub, eqTm, eqHp, rn, lk, SV.ren, SV.renC, SV.renB, SV.renA, ren_ints, ren_strs, ren_pl, ren_svs, List.map_cons, List.map_nil, forall_const, Nat.reduceLT, true_and, and_true, ob_some, get_mk, lk_cons, ↓reduceIte, Nat.reduceEqDiff, Nat.reduceAdd, implies_true, reduceCtorEq]
    repeat' (first | rfl | apply And.intro)
  | false =>
    have a4 : decide ((C.now.length : Int) ≥ 64) = false := decide_eq_false (fun h => c4 ⟨a5, by omega⟩)
    simp -implicitDefEqProofs only [go_sem, a4, a5, asM_so, hk, spl1]
    unfold ceH ceL devL cellB
    refine sub_mk [] rfl rfl rfl ?_
    simp only [tmSub, hpSub, objSub, eqTm, eqHp, rn, lk, SV.ren, SV.renC, SV.renB, SV.renA, ren_ints, ren_strs, ren_pl, ren_svs, List.map_cons, List.map_nil, forall_const, Nat.reduceLT, true_and, and_true, ob_some, get_mk, lk_cons, ↓reduceIte, Nat.reduceEqDiff, Nat.reduceAdd, implies_true, reduceCtorEq]
    repeat' (first | rfl | apply And.intro)
theorem dropW {C : Ce} {name : ByteArray} (h : Es C.now) : fnVC CT mCDrop [.ptr 1 0, .v (.string name)] (ceH C d x) 8 fun v H' n' => Sub 8 ⟨[(0, .v (.bool (luS C.now name).isSome))], ceH { C with now := dlS C.now name } d x, 8⟩ ⟨[(0, v)], H', n'⟩ := by
  have hk := h.keys
  have hg := h.el name
  have hno : ∀ {es : List (Value × Value)}, luS es name = none → dlS es name = es := by
    intro es
    induction es with
    | nil => intro _; rfl
    | cons e es ih =>
      intro hl
      unfold luS at hl
      unfold dlS
      split at hl
      · cases hl
      · rename_i hc; rw [if_neg hc, ih hl]
  unfold mCDrop
  rw [show ceH C d x = ⟨ceL C d, x⟩ from rfl]
  unfold ceL devL cellB
  simp -implicitDefEqProofs only [↓fnVC, initTm]
  simp -implicitDefEqProofs only [go_sem]
  refine in_call mixT tCGet ?_
  unfold mCGet
  simp -implicitDefEqProofs only [↓fnVC, initTm]
  simp -implicitDefEqProofs only [go_sem, asM_so, hk, hg, spl1]
  cases a5 : (luS C.now name).isSome with
  | true =>
    simp -implicitDefEqProofs only [go_sem, a5, asM_so, hk, spl1]
    unfold ceH ceL devL cellB
    refine sub_mk [] rfl rfl rfl ?_
    simp only [tmSub, hpSub, objSub, eqTm, eqHp, rn, lk, SV.ren, SV.renC, SV.renB, SV.renA, ren_ints, ren_strs, ren_pl, ren_svs, List.map_cons, List.map_nil, forall_const, Nat.reduceLT, true_and, and_true, ob_some, get_mk, lk_cons, ↓reduceIte, Nat.reduceEqDiff, Nat.reduceAdd, implies_true, reduceCtorEq]
    repeat' (first | rfl | apply And.intro)
  | false =>
    rw [show dlS C.now name = C.now from hno (by cases hq : luS C.now name with | none => rfl | some v => rw [hq] at a5; cases a5)]
    simp -implicitDefEqProofs only [go_sem, a5, asM_so, hk, spl1]
    unfold ceH ceL devL cellB
    refine sub_mk [] rfl rfl rfl ?_
    simp only [tmSub, hpSub, objSub, eqTm, eqHp, rn, lk, SV.ren, SV.renC, SV.renB, SV.renA, ren_ints, ren_strs, ren_pl, ren_svs, List.map_cons, List.map_nil, forall_const, Nat.reduceLT, true_and, and_true, ob_some, get_mk, lk_cons, ↓reduceIte, Nat.reduceEqDiff, Nat.reduceAdd, implies_true, reduceCtorEq]
    repeat' (first | rfl | apply And.intro)
end
section
/- Cells: a copy is written. -/
set_option linter.unusedVariables false
set_option linter.unusedSimpArgs false
set_option maxRecDepth 100000
open Go.Proofs
variable {H : Hp} {n : Nat} {x : Nat → Option SO} {i : Nat} {d d' : Fd}
def ceD (C : Ce) (d : Fd) (x : Nat → Option SO) : Hp := ⟨[(1, some ⟨true, cellB C 2 6 7⟩), (2, some ⟨true, devB d 8 9 10⟩), (3, none), (4, none), (5, none), (6, some ⟨true, .mp (.map C.now)⟩), (7, some ⟨true, .mp (.map C.was)⟩), (8, some ⟨true, secB d.seen⟩), (9, some ⟨true, secB d.safe⟩), (10, some ⟨true, .pl (prow d.pend)⟩)], x⟩
theorem spl2 {a b c e : SV} : splice (splice [a, b] 0 [c]) 1 [e] = [c, e] := rfl
theorem spl2' {a b c e : SV} : splice [a, b] 0 [c, e] = [c, e] := rfl
theorem spl2m {a b : SV} {u v : Value} : splice [a, b] 0 (List.map SV.v [u, v]) = [.v u, .v v] := rfl
theorem spl21 {a b c : SV} : splice [a, b] 1 [c] = [a, c] := rfl
theorem cws_no {at_ : Int} {I : ByteArray} {p : Int × Fd} (h : p.1 ≠ 0) : ∀ j, cws at_ I p j = p
  | 0 => rfl
  | j + 1 => by
    show thn (cws at_ I p j) _ = p
    rw [cws_no h j]; exact thn_no h
theorem slW_1 {at_ : Int} {I Q : ByteArray} (h : (wrT d at_ ⟨#[]⟩).1 ≠ 0) : slW at_ Q I d = wrT d at_ ⟨#[]⟩ := by
  have e1 : p1 at_ d = wrT d at_ ⟨#[]⟩ := thn_no h
  have e2 : ∀ j, pC at_ I d j = wrT d at_ ⟨#[]⟩ := fun j => by unfold pC; rw [e1]; exact cws_no h j
  unfold slW p3 p2
  rw [e2, thn_no h, thn_no h, thn_no h]
theorem slW_2 {at_ : Int} {I Q : ByteArray} (h : (p1 at_ d).1 ≠ 0) : slW at_ Q I d = p1 at_ d := by
  have e2 : ∀ j, pC at_ I d j = p1 at_ d := fun j => cws_no h j
  unfold slW p3 p2
  rw [e2, thn_no h, thn_no h, thn_no h]
theorem cws_add {at_ : Int} {I : ByteArray} {p : Int × Fd} {j : Nat} (h : (cws at_ I p j).1 ≠ 0) : ∀ k, cws at_ I p (j + k) = cws at_ I p j
  | 0 => rfl
  | k + 1 => by
    show thn (cws at_ I p (j + k)) _ = _
    rw [cws_add h k]; exact thn_no h
theorem slW_3 {at_ : Int} {I Q : ByteArray} {j : Nat} (hj : j ≤ nCh I) (h : (pC at_ I d j).1 ≠ 0) : slW at_ Q I d = pC at_ I d j := by
  have e2 : pC at_ I d (nCh I) = pC at_ I d j := by
    obtain ⟨k, hk⟩ : ∃ k, nCh I = j + k := ⟨nCh I - j, by omega⟩
    rw [hk]; exact cws_add h k
  unfold slW p3 p2
  rw [e2, thn_no h, thn_no h, thn_no h]
theorem slW_4 {at_ : Int} {I Q : ByteArray} (h : (p2 at_ I d).1 ≠ 0) : slW at_ Q I d = p2 at_ I d := by
  unfold slW p3
  rw [thn_no h, thn_no h]
theorem slW_5 {at_ : Int} {I Q : ByteArray} (h : (p3 at_ Q I d).1 ≠ 0) : slW at_ Q I d = p3 at_ Q I d := thn_no h
set_option maxHeartbeats 2000000 in
theorem cwriteW {C : Ce} {first m t : Nat} {I Q : ByteArray} (hP : Pl d m t) (ht : t + 1000 < 1000000) (hI0 : 0 < I.size) (hI : I.size ≤ 8192) (hQ0 : 0 < Q.size) (hQ : Q.size ≤ 64) (hf : first ≤ 1000000) :
    fnVC CT mCwrite [.ptr 1 0, .v (.int .i64 first), .v (.string I), .v (.string Q)] (ceH C d x) 8 fun v H' n' => Sub 8 ⟨[(0, .v (.int .i64 (slW first Q I d).1))], ceD C (slW first Q I d).2 x, 11⟩ ⟨[(0, v)], H', n'⟩ := by
  unfold mCwrite
  rw [show ceH C d x = ⟨ceL C d, x⟩ from rfl]
  unfold ceL devL cellB
  have w1 : IntKind.i64.wrap ((first : Int) + 1) = ((first + 1 : Nat) : Int) := by rw [wrap_i64 (by omega) (by omega)]; omega
  simp -implicitDefEqProofs only [↓fnVC, initTm]
  simp -implicitDefEqProofs only [go_sem, w1, spl2, List.cons_append]
  refine loop_roll 4 ?_
  rw [LoopU_succ]
  have f0 : decide ((0 : Int) < ((3 : Nat) : Int)) = true := rfl
  have f1 : decide ((1 : Int) < ((3 : Nat) : Int)) = true := rfl
  have f2 : decide ((2 : Int) < ((3 : Nat) : Int)) = true := rfl
  have f3 : decide ((3 : Int) < ((3 : Nat) : Int)) = false := rfl
  have g0 : IntKind.i64.wrap (0 + 1) = 1 := rfl
  have g1 : IntKind.i64.wrap (1 + 1) = 2 := rfl
  have g2 : IntKind.i64.wrap (2 + 1) = 3 := rfl
  have nil0 : (⟨#[]⟩ : ByteArray).extract 0 0 = ⟨#[]⟩ := ba_zero (by rw [ex_size]; rfl)
  simp -implicitDefEqProofs only [go_sem, f0, spl2, spl2']
  refine ⟨by decide, ?_⟩
  simp -implicitDefEqProofs only [go_sem, spl2m]
  have nsz : min ((#[] : Array UInt8).size : Int) 64 = ((0 : Nat) : Int) := rfl
  have nil1 : (⟨#[]⟩ : ByteArray).extract 0 (#[] : Array UInt8).size = ⟨#[]⟩ := ba_zero (by rw [ex_size]; rfl)
  have emp : seq (⟨#[]⟩ : ByteArray) ⟨#[]⟩ = true := seq_self _
  refine loop_roll 1 ?_
  rw [LoopU_succ]
  simp -implicitDefEqProofs only [go_sem, spl2m, nsz, nil0]
  refine ⟨⟨by decide, by decide⟩, ?_⟩
  obtain ⟨⟨e1, d1⟩, hq1⟩ : ∃ q, wrT d first ⟨#[]⟩ = q := ⟨_, rfl⟩
  have hP1 : Pl d1 m (t + 1) := by have := wrT_pl (k := first) (s := ⟨#[]⟩) hP (by omega); rw [hq1] at this; exact this
  refine at_call tFWrite (wrTS (i := 2) (a := 3) (b := 4) (c := 5) ⟨by rfl, by rfl, by rfl, by rfl, by decide⟩ hP (by omega) (by decide) hq1) ?_
  by_cases x1 : e1 = 0
  rotate_left
  · have b1 : decide (e1 = 0) = false := decide_eq_false x1
    simp -implicitDefEqProofs only [go_sem, b1]
    rw [show slW first Q I d = (e1, d1) from (slW_1 (by rw [hq1]; exact x1)).trans hq1]
    unfold ceD cellB
    refine sub_mk [(8, 10), (9, 11), (10, 12)] rfl rfl rfl ?_
    simp only [tmSub, hpSub, objSub, eqTm, eqHp, rn, lk, SV.ren, SV.renC, SV.renB, SV.renA, ren_ints, ren_strs, ren_pl, ren_svs, SV.v.injEq, Value.int.injEq, Body.ints.injEq, SV.ptr.injEq, SV.sl.injEq, List.map_cons, List.map_nil, forall_const, Nat.reduceLT, imp_self, true_and, and_true, and_self, ob_some, get_mk, lk_cons, ↓reduceIte, Nat.reduceEqDiff, Nat.reduceAdd, false_implies, implies_true, reduceCtorEq]
    repeat' (first | rfl | apply And.intro)
  have b1 : decide (e1 = 0) = true := decide_eq_true x1
  simp -implicitDefEqProofs only [go_sem, b1, nil1, emp, spl21]
  refine ⟨⟨by decide, by decide, by decide⟩, ?_⟩
  obtain ⟨⟨e2, d2⟩, hq2⟩ : ∃ q, baT d1 = q := ⟨_, rfl⟩
  have hP2 : Pl d2 m (t + 2) := by have := baT_pl hP1 (by omega); rw [hq2] at this; exact this
  refine at_call tFBarrier (baTS (i := 2) (a := 10) (b := 11) (c := 12) ⟨by rfl, by rfl, by rfl, by rfl, by decide⟩ hP1 (by omega) (by decide) hq2) ?_
  have hp1 : p1 first d = (e2, d2) := by unfold p1; rw [thn_ok (by rw [hq1]; exact x1), hq1]; exact hq2
  by_cases x2 : e2 = 0
  rotate_left
  · have b2 : decide (e2 = 0) = false := decide_eq_false x2
    simp -implicitDefEqProofs only [go_sem, b2]
    rw [show slW first Q I d = (e2, d2) from (slW_2 (by rw [hp1]; exact x2)).trans hp1]
    unfold ceD cellB
    refine sub_mk [(8, 13), (9, 14), (10, 15)] rfl rfl rfl ?_
    simp only [tmSub, hpSub, objSub, eqTm, eqHp, rn, lk, SV.ren, SV.renC, SV.renB, SV.renA, ren_ints, ren_strs, ren_pl, ren_svs, SV.v.injEq, Value.int.injEq, Body.ints.injEq, SV.ptr.injEq, SV.sl.injEq, List.map_cons, List.map_nil, forall_const, Nat.reduceLT, imp_self, true_and, and_true, and_self, ob_some, get_mk, lk_cons, ↓reduceIte, Nat.reduceEqDiff, Nat.reduceAdd, false_implies, implies_true, reduceCtorEq]
    repeat' (first | rfl | apply And.intro)
  have b2 : decide (e2 = 0) = true := decide_eq_true x2
  simp -implicitDefEqProofs only [go_sem, b2, g0]
  rw [LoopU_succ]
  simp -implicitDefEqProofs only [go_sem, f1, spl2']
  refine ⟨by decide, ?_⟩
  simp -implicitDefEqProofs only [go_sem, spl2m, g0]
  refine loop_fam (fun (q : Nat × Fd) => pC first I d q.1 = (0, q.2) ∧ q.1 < nCh I ∧ Pl q.2 m (t + 2 + q.1))
    (fun q => ⟨[(0, .ptr 1 0), (10, .ptr 16 0), (11, .v (.int .i64 ((first : Int) + 1 + q.1))), (24, .sl 8 0 3 2), (25, .v (.int .i64 (3 : Nat))), (26, .v (.int .i64 1))],
      ⟨[(1, some ⟨true, cellB C 2 6 7⟩), (2, some ⟨true, devB q.2 13 14 15⟩), (6, some ⟨true, .mp (.map C.now)⟩), (7, some ⟨true, .mp (.map C.was)⟩), (8, some ⟨true, .pl [.int .i64 first, .string ⟨#[]⟩, .int .i64 (first + 1 : Nat), .string I, .int .i64 first, .string Q]⟩), (13, some ⟨true, secB q.2.seen⟩), (14, some ⟨true, secB q.2.safe⟩), (15, some ⟨true, .pl (prow q.2.pend)⟩), (16, some ⟨true, .sv [.v (.int .i64 (first + 1 : Nat)), .v (.string (I.extract (64 * q.1) I.size))]⟩)], x⟩, 17⟩)
    (fun q => nCh I - q.1) (0, d2) ⟨by show p1 first d = _; rw [hp1, x2], nCh_lt.2 (by omega), hP2⟩ ?_ ?_
  · have hII : I.extract (64 * 0) I.size = I := ext_all I
    unfold cellB
    refine sub_mk [] rfl rfl rfl ?_
    simp only [tmSub, hpSub, objSub, eqTm, eqHp, rn, lk, SV.ren, SV.renC, SV.renB, SV.renA, ren_ints, ren_strs, ren_pl, ren_svs, SV.v.injEq, Value.int.injEq, Body.ints.injEq, SV.ptr.injEq, SV.sl.injEq, List.map_cons, List.map_nil, forall_const, Nat.reduceLT, imp_self, true_and, and_true, and_self, ob_some, get_mk, lk_cons, ↓reduceIte, Nat.reduceEqDiff, Nat.reduceAdd, false_implies, implies_true, reduceCtorEq]
    rw [hII]
    refine ⟨by omega, ?_⟩
    repeat' (first | rfl | apply And.intro)
  rintro ⟨j, dj⟩ ⟨hpj, hj, hPj⟩
  have hpj : pC first I d j = (0, dj) := hpj
  have hj : j < nCh I := hj
  have hPj : Pl dj m (t + 2 + j) := hPj
  have hj64 := nCh_lt.1 hj
  have hnc := nCh_le hI
  have hrz : (I.extract (64 * j) I.size).size = I.size - 64 * j := by rw [ex_size]; omega
  have mn : min (((I.extract (64 * j) I.size).size : Nat) : Int) 64 = ((min (I.size - 64 * j) 64 : Nat) : Int) := by rw [hrz]; omega
  have ml : min (I.size - 64 * j) 64 ≤ I.size - 64 * j := Nat.min_le_left _ _
  have hchk : (I.extract (64 * j) I.size).extract 0 (min (I.size - 64 * j) 64) = chk I j := by
    rw [ext_ext (by omega)]
    unfold chk
    congr 1
    omega
  have hrest : (I.extract (64 * j) I.size).extract (min (I.size - 64 * j) 64) (I.extract (64 * j) I.size).size = I.extract (64 * (j + 1)) I.size := by
    rw [hrz, ext_ext (by omega)]
    by_cases c : 64 * (j + 1) ≤ I.size
    · congr 1 <;> omega
    · have z1 : I.extract (64 * (j + 1)) I.size = ⟨#[]⟩ := ba_zero (by rw [ex_size]; omega)
      have z2 : I.extract (64 * j + min (I.size - 64 * j) 64) (64 * j + (I.size - 64 * j)) = ⟨#[]⟩ := ba_zero (by rw [ex_size]; omega)
      rw [z1, z2]
  have hpn : pC first I d (j + 1) = wrT dj ((first : Int) + 1 + j) (chk I j) := by
    have hpj2 : cws first I (p1 first d) j = (0, dj) := hpj
    show thn (cws first I (p1 first d) j) (fun d => wrT d ((first : Int) + 1 + j) (chk I j)) = _
    rw [hpj2]
    exact thn_ok rfl
  have wj : IntKind.i64.wrap ((first : Int) + 1 + (j : Int) + 1) = (first : Int) + 1 + ((j + 1 : Nat) : Int) := by rw [wrap_i64 (by omega) (by omega)]; omega
  unfold cellB
  simp -implicitDefEqProofs only [go_sem, mn, hchk]
  refine ⟨⟨by omega, by omega⟩, ?_⟩
  obtain ⟨⟨e3, d3⟩, hq3⟩ : ∃ q, wrT dj ((first : Int) + 1 + j) (chk I j) = q := ⟨_, rfl⟩
  have hP3 : Pl d3 m (t + 2 + (j + 1)) := by have := wrT_pl (k := (first : Int) + 1 + j) (s := chk I j) hPj (by omega); rw [hq3] at this; exact this
  refine at_call tFWrite (wrTS (i := 2) (a := 13) (b := 14) (c := 15) ⟨by rfl, by rfl, by rfl, by rfl, by decide⟩ hPj (by omega) (by decide) hq3) ?_
  rw [hq3] at hpn
  by_cases x3 : e3 = 0
  rotate_left
  · have b3 : decide (e3 = 0) = false := decide_eq_false x3
    simp -implicitDefEqProofs only [go_sem, b3]
    rw [show slW first Q I d = (e3, d3) from (slW_3 (j := j + 1) (by omega) (by rw [hpn]; exact x3)).trans hpn]
    unfold ceD cellB
    refine sub_mk [(8, 17), (9, 18), (10, 19)] rfl rfl rfl ?_
    simp only [tmSub, hpSub, objSub, eqTm, eqHp, rn, lk, SV.ren, SV.renC, SV.renB, SV.renA, ren_ints, ren_strs, ren_pl, ren_svs, SV.v.injEq, Value.int.injEq, Body.ints.injEq, SV.ptr.injEq, SV.sl.injEq, List.map_cons, List.map_nil, forall_const, Nat.reduceLT, imp_self, true_and, and_true, and_self, ob_some, get_mk, lk_cons, ↓reduceIte, Nat.reduceEqDiff, Nat.reduceAdd, false_implies, implies_true, reduceCtorEq]
    repeat' (first | rfl | apply And.intro)
  have b3 : decide (e3 = 0) = true := decide_eq_true x3
  simp -implicitDefEqProofs only [go_sem, b3, hrest, spl21]
  refine ⟨⟨by omega, by omega, by omega⟩, ?_⟩
  simp -implicitDefEqProofs only [go_sem, b3, hrest, spl21]
  by_cases x4 : 64 * (j + 1) < I.size
  · have hl : seq (I.extract (64 * (j + 1)) I.size) ⟨#[]⟩ = false := seq_nemp (by rw [ex_size]; omega)
    simp -implicitDefEqProofs only [go_sem, hl, wj]
    refine kLoop_mk (j + 1, d3) ⟨by rw [hpn, x3], nCh_lt.2 x4, hP3⟩ (by show nCh I - (j + 1) < nCh I - j; omega) ?_
    refine sub_mk [(13, 17), (14, 18), (15, 19)] rfl rfl rfl ?_
    simp only [tmSub, hpSub, objSub, eqTm, eqHp, rn, lk, SV.ren, SV.renC, SV.renB, SV.renA, ren_ints, ren_strs, ren_pl, ren_svs, SV.v.injEq, Value.int.injEq, Body.ints.injEq, SV.ptr.injEq, SV.sl.injEq, List.map_cons, List.map_nil, forall_const, Nat.reduceLT, imp_self, true_and, and_true, and_self, ob_some, get_mk, lk_cons, ↓reduceIte, Nat.reduceEqDiff, Nat.reduceAdd, false_implies, implies_true, reduceCtorEq]
    repeat' (first | rfl | apply And.intro)
  have hl : seq (I.extract (64 * (j + 1)) I.size) ⟨#[]⟩ = true := seq_emp (by rw [ex_size]; omega)
  have hjn : j + 1 = nCh I := by
    have h1 : ¬j + 1 < nCh I := fun h => x4 (nCh_lt.1 h)
    omega
  simp -implicitDefEqProofs only [go_sem, hl]
  obtain ⟨⟨e4, d4⟩, hq4⟩ : ∃ q, baT d3 = q := ⟨_, rfl⟩
  have hP4 : Pl d4 m (t + 2 + (j + 1) + 1) := by have := baT_pl hP3 (by omega); rw [hq4] at this; exact this
  refine at_call tFBarrier (baTS (i := 2) (a := 17) (b := 18) (c := 19) ⟨by rfl, by rfl, by rfl, by rfl, by decide⟩ hP3 (by omega) (by decide) hq4) ?_
  have hp2 : p2 first I d = (e4, d4) := by
    unfold p2
    rw [← hjn, hpn, x3]
    exact hq4
  by_cases x5 : e4 = 0
  rotate_left
  · have b5 : decide (e4 = 0) = false := decide_eq_false x5
    simp -implicitDefEqProofs only [go_sem, b5]
    rw [show slW first Q I d = (e4, d4) from (slW_4 (by rw [hp2]; exact x5)).trans hp2]
    unfold ceD cellB
    refine sub_mk [(8, 20), (9, 21), (10, 22)] rfl rfl rfl ?_
    simp only [tmSub, hpSub, objSub, eqTm, eqHp, rn, lk, SV.ren, SV.renC, SV.renB, SV.renA, ren_ints, ren_strs, ren_pl, ren_svs, SV.v.injEq, Value.int.injEq, Body.ints.injEq, SV.ptr.injEq, SV.sl.injEq, List.map_cons, List.map_nil, forall_const, Nat.reduceLT, imp_self, true_and, and_true, and_self, ob_some, get_mk, lk_cons, ↓reduceIte, Nat.reduceEqDiff, Nat.reduceAdd, false_implies, implies_true, reduceCtorEq]
    repeat' (first | rfl | apply And.intro)
  have b5 : decide (e4 = 0) = true := decide_eq_true x5
  simp -implicitDefEqProofs only [go_sem, b5, g1]
  rw [LoopU_succ]
  simp -implicitDefEqProofs only [go_sem, f2, spl2']
  refine ⟨by decide, ?_⟩
  have hQn : min ((Q.size : Nat) : Int) 64 = ((Q.size : Nat) : Int) := by omega
  have hQe : Q.extract 0 Q.size = Q := ext_all Q
  have hQz : seq (Q.extract Q.size Q.size) ⟨#[]⟩ = true := seq_emp (by rw [ex_size]; omega)
  simp -implicitDefEqProofs only [go_sem, spl2m, g1]
  refine loop_roll 1 ?_
  rw [LoopU_succ]
  simp -implicitDefEqProofs only [go_sem, spl2m, hQn, hQe]
  refine ⟨⟨by omega, by omega⟩, ?_⟩
  obtain ⟨⟨e5, d5⟩, hq5⟩ : ∃ q, wrT d4 first Q = q := ⟨_, rfl⟩
  have hP5 : Pl d5 m (t + 2 + (j + 1) + 1 + 1) := by have := wrT_pl (k := first) (s := Q) hP4 (by omega); rw [hq5] at this; exact this
  refine at_call tFWrite (wrTS (i := 2) (a := 20) (b := 21) (c := 22) ⟨by rfl, by rfl, by rfl, by rfl, by decide⟩ hP4 (by omega) (by decide) hq5) ?_
  have hp3 : p3 first Q I d = (e5, d5) := by unfold p3; rw [hp2, x5]; exact hq5
  by_cases x6 : e5 = 0
  rotate_left
  · have b6 : decide (e5 = 0) = false := decide_eq_false x6
    simp -implicitDefEqProofs only [go_sem, b6]
    rw [show slW first Q I d = (e5, d5) from (slW_5 (by rw [hp3]; exact x6)).trans hp3]
    unfold ceD cellB
    refine sub_mk [(8, 24), (9, 25), (10, 26)] rfl rfl rfl ?_
    simp only [tmSub, hpSub, objSub, eqTm, eqHp, rn, lk, SV.ren, SV.renC, SV.renB, SV.renA, ren_ints, ren_strs, ren_pl, ren_svs, SV.v.injEq, Value.int.injEq, Body.ints.injEq, SV.ptr.injEq, SV.sl.injEq, List.map_cons, List.map_nil, forall_const, Nat.reduceLT, imp_self, true_and, and_true, and_self, ob_some, get_mk, lk_cons, ↓reduceIte, Nat.reduceEqDiff, Nat.reduceAdd, false_implies, implies_true, reduceCtorEq]
    repeat' (first | rfl | apply And.intro)
  have b6 : decide (e5 = 0) = true := decide_eq_true x6
  simp -implicitDefEqProofs only [go_sem, b6, spl21]
  refine ⟨⟨by omega, by omega, by omega⟩, ?_⟩
  simp -implicitDefEqProofs only [go_sem, b6, hQz, spl21]
  obtain ⟨⟨e6, d6⟩, hq6⟩ : ∃ q, baT d5 = q := ⟨_, rfl⟩
  refine at_call tFBarrier (baTS (i := 2) (a := 24) (b := 25) (c := 26) ⟨by rfl, by rfl, by rfl, by rfl, by decide⟩ hP5 (by omega) (by decide) hq6) ?_
  have hsl : slW first Q I d = (e6, d6) := by unfold slW; rw [hp3, x6]; exact hq6
  rw [hsl]
  by_cases x7 : e6 = 0
  rotate_left
  · have b7 : decide (e6 = 0) = false := decide_eq_false x7
    simp -implicitDefEqProofs only [go_sem, b7]
    unfold ceD cellB
    refine sub_mk [(8, 27), (9, 28), (10, 29)] rfl rfl rfl ?_
    simp only [tmSub, hpSub, objSub, eqTm, eqHp, rn, lk, SV.ren, SV.renC, SV.renB, SV.renA, ren_ints, ren_strs, ren_pl, ren_svs, SV.v.injEq, Value.int.injEq, Body.ints.injEq, SV.ptr.injEq, SV.sl.injEq, List.map_cons, List.map_nil, forall_const, Nat.reduceLT, imp_self, true_and, and_true, and_self, ob_some, get_mk, lk_cons, ↓reduceIte, Nat.reduceEqDiff, Nat.reduceAdd, false_implies, implies_true, reduceCtorEq]
    repeat' (first | rfl | apply And.intro)
  have b7 : decide (e6 = 0) = true := decide_eq_true x7
  simp -implicitDefEqProofs only [go_sem, b7, g2]
  rw [LoopU_succ]
  simp -implicitDefEqProofs only [go_sem, f3]
  rw [x7]
  unfold ceD cellB
  refine sub_mk [(8, 27), (9, 28), (10, 29)] rfl rfl rfl ?_
  simp only [tmSub, hpSub, objSub, eqTm, eqHp, rn, lk, SV.ren, SV.renC, SV.renB, SV.renA, ren_ints, ren_strs, ren_pl, ren_svs, SV.v.injEq, Value.int.injEq, Body.ints.injEq, SV.ptr.injEq, SV.sl.injEq, List.map_cons, List.map_nil, forall_const, Nat.reduceLT, imp_self, true_and, and_true, and_self, ob_some, get_mk, lk_cons, ↓reduceIte, Nat.reduceEqDiff, Nat.reduceAdd, false_implies, implies_true, reduceCtorEq]
  repeat' (first | rfl | apply And.intro)
end
section
/- Cells: at any heap; Commit. -/
set_option linter.unusedVariables false
set_option linter.unusedSimpArgs false
set_option maxRecDepth 100000
open Go.Proofs
variable {H : Hp} {n : Nat} {x : Nat → Option SO} {i D a b c M W : Nat} {d d' : Fd} {C C' : Ce}
def ceP (i D a b c M W : Nat) : List (Nat × Nat) := [(1, i), (2, D), (3, a), (4, b), (5, c), (6, M), (7, W)]
structure CellAt (H : Hp) (C : Ce) (d : Fd) (i D a b c M W : Nat) : Prop where
  gi : H.get i = some ⟨true, cellB C D M W⟩
  gD : H.get D = some ⟨true, devB d a b c⟩
  ga : H.get a = some ⟨true, secB d.seen⟩
  gb : H.get b = some ⟨true, secB d.safe⟩
  gc : H.get c = some ⟨true, .pl (prow d.pend)⟩
  gM : H.get M = some ⟨true, .mp (.map C.now)⟩
  gW : H.get W = some ⟨true, .mp (.map C.was)⟩
  ne : ([i, D, a, b, c, M, W].all fun k => decide (0 < k ∧ k < 1000)) = true
  ap : apartB (ceP i D a b c M W) (ceL C d) (ceL C d) = true
  nz : wrNZ (ceP i D a b c M W) (ceL C d) = true
theorem CellAt.sub (h : CellAt H C d i D a b c M W) : hpSub (ceP i D a b c M W) H (ceL C d) := by
  obtain ⟨g1, g2, g3, g4, g5, g6, g7, hp, _, _⟩ := h
  simp at hp
  exact ⟨sub_wr rfl hp.1.1 hp.1.2 g1 rfl, sub_wr rfl hp.2.1.1 hp.2.1.2 g2 rfl, sub_wr rfl hp.2.2.1.1 hp.2.2.1.2 g3 rfl, sub_wr rfl hp.2.2.2.1.1 hp.2.2.2.1.2 g4 rfl, sub_wr rfl hp.2.2.2.2.1.1 hp.2.2.2.2.1.2 g5 rfl, sub_wr rfl hp.2.2.2.2.2.1.1 hp.2.2.2.2.2.1.2 g6 rfl, sub_wr rfl hp.2.2.2.2.2.2.1 hp.2.2.2.2.2.2.2 g7 rfl, trivial⟩
theorem putS {name text : ByteArray} (h : CellAt H C d i D a b c M W) (hE : Es C.now) :
    SpecAt Tryz.prog nCPut [.ptr i 0, .v (.string name), .v (.string text)] H n (.v (.int .i64 (putE C.now name text)))
      ⟨(i, some ⟨true, cellB C D M W⟩) :: (D, some ⟨true, devB d a b c⟩) :: (a, some ⟨true, secB d.seen⟩) :: (b, some ⟨true, secB d.safe⟩) :: (c, some ⟨true, .pl (prow d.pend)⟩) :: (M, some ⟨true, .mp (.map (putEs C.now name text))⟩) :: (W, some ⟨true, .mp (.map C.was)⟩) :: H.l, H.x⟩ n := by
  have := lift (n := n) (okT.spec tCPut (putW (x := H.x) (d := d) (C := C) (name := name) (text := text) hE)) (ceP i D a b c M W) rfl rfl rfl (by omega) rfl rfl h.sub h.ap h.nz (by omega)
  exact this
theorem dropS {name : ByteArray} (h : CellAt H C d i D a b c M W) (hE : Es C.now) :
    SpecAt Tryz.prog nCDrop [.ptr i 0, .v (.string name)] H n (.v (.bool (luS C.now name).isSome))
      ⟨(i, some ⟨true, cellB C D M W⟩) :: (D, some ⟨true, devB d a b c⟩) :: (a, some ⟨true, secB d.seen⟩) :: (b, some ⟨true, secB d.safe⟩) :: (c, some ⟨true, .pl (prow d.pend)⟩) :: (M, some ⟨true, .mp (.map (dlS C.now name))⟩) :: (W, some ⟨true, .mp (.map C.was)⟩) :: H.l, H.x⟩ n := by
  have := lift (n := n) (okT.spec tCDrop (dropW (x := H.x) (d := d) (C := C) (name := name) hE)) (ceP i D a b c M W) rfl rfl rfl (by omega) rfl rfl h.sub h.ap h.nz (by omega)
  exact this
theorem cwriteS {first m t : Nat} {I Q : ByteArray} (h : CellAt H C d i D a b c M W) (hP : Pl d m t) (ht : t + 1000 < 1000000) (hI0 : 0 < I.size) (hI : I.size ≤ 8192) (hQ0 : 0 < Q.size) (hQ : Q.size ≤ 64) (hf : first ≤ 1000000) (hn : n + 3 ≤ 1000) {e : Int} (hq : slW first Q I d = (e, d')) :
    SpecAt Tryz.prog nCwrite [.ptr i 0, .v (.int .i64 first), .v (.string I), .v (.string Q)] H n (.v (.int .i64 e))
      ⟨(i, some ⟨true, cellB C D M W⟩) :: (D, some ⟨true, devB d' n (n + 1) (n + 1 + 1)⟩) :: (a, none) :: (b, none) :: (c, none) :: (M, some ⟨true, .mp (.map C.now)⟩) :: (W, some ⟨true, .mp (.map C.was)⟩) :: (n, some ⟨true, secB d'.seen⟩) :: (n + 1, some ⟨true, secB d'.safe⟩) :: (n + 1 + 1, some ⟨true, .pl (prow d'.pend)⟩) :: H.l, H.x⟩ (n + 3) := by
  have e1 : (slW first Q I d).1 = e := by rw [hq]
  have e2 : (slW first Q I d).2 = d' := by rw [hq]
  subst e1; subst e2
  have := lift (n := n) (okT.spec tCwrite (cwriteW (x := H.x) (C := C) hP ht hI0 hI hQ0 hQ hf)) (ceP i D a b c M W) rfl rfl rfl (by omega) rfl rfl h.sub h.ap h.nz (by omega)
  exact this
theorem bytesS {es : List (Value × Value)} {s : SO} (hg : H.get i = some s) (hb : s.b = .mp (.map es)) (hi : 0 < i) (h : Es es) : SpecAt Tryz.prog ncbytes [.mp i] H n (.v (.string (encB es))) H n := by
  have := lift_ro (n := n) (okT.spec tcbytes (bytesW (x := H.x) h)) [(1, i)] rfl rfl rfl (by omega) rfl rfl ⟨sub_ro rfl hi hg hb, trivial⟩ (by simp [apartB, apart1, rn, lk]) (by simp [wrNZ, rn, lk]) rfl
  exact this
def hdC (k z : Nat) : ByteArray := tx (be k 8 ++ be z 4 ++ be k 8)
theorem hdC_size {k z : Nat} : (hdC k z).size = 20 := by unfold hdC; rw [tx_sz]; simp only [List.length_append, be_len]
theorem encB_pos {es : List (Value × Value)} : 0 < (encB es).size := by
  unfold encB
  rw [tx_sz]
  have : ∀ j, 2 ≤ (encL es j).length := by
    intro j
    induction j with
    | zero => unfold encL; rw [be_len]; exact Nat.le_refl _
    | succ j ih => unfold encL; simp only [List.length_append]; omega
  have := this es.length
  omega
def ceTo (C : Ce) : Nat := C.base + (1 - C.last) * C.half
def coQ (C : Ce) (d : Fd) : Int × Fd := slW (ceTo C) (hdC (C.num + 1) (encB C.now).size) (encB C.now) d
def coR (C : Ce) (d : Fd) : Int × Ce × Fd :=
  if C.dead then (7, C, d) else if 64 * (C.half - 1) < (encB C.now).size then (4, C, d)
  else if (coQ C d).1 ≠ 0 then ((coQ C d).1, { C with dead := true }, (coQ C d).2) else (0, { C with last := 1 - C.last, num := C.num + 1, was := C.now }, (coQ C d).2)
structure Ce.ok (C : Ce) : Prop where
  now : Es C.now
  was : Es C.was
  half : 2 ≤ C.half ∧ C.half ≤ 129
  base : C.base ≤ 4096
  last : C.last ≤ 1
  num : C.num < 1000000000000
def ceK (C : Ce) (d : Fd) (x : Nat → Option SO) : Hp := ⟨[(1, some ⟨true, cellB C 2 6 11⟩), (2, some ⟨true, devB d 8 9 10⟩), (3, none), (4, none), (5, none), (6, some ⟨true, .mp (.map C.now)⟩), (7, none), (8, some ⟨true, secB d.seen⟩), (9, some ⟨true, secB d.safe⟩), (10, some ⟨true, .pl (prow d.pend)⟩), (11, some ⟨true, .mp (.map C.was)⟩)], x⟩
set_option maxHeartbeats 2000000 in
theorem commitW {m t : Nat} (hC : C.ok) (hP : Pl d m t) (ht : t + 1000 < 1000000) : fnVC CT mCCommit [.ptr 1 0] (ceH C d x) 8 fun v H' n' => Sub 8 ⟨[(0, .v (.int .i64 (coR C d).1))], ceK (coR C d).2.1 (coR C d).2.2 x, 12⟩ ⟨[(0, v)], H', n'⟩ := by
  obtain ⟨hE, hW, ⟨hh1, hh2⟩, hbs, hla, hnu⟩ := hC
  unfold mCCommit
  rw [show ceH C d x = ⟨ceL C d, x⟩ from rfl]
  unfold ceL devL cellB
  simp -implicitDefEqProofs only [↓fnVC, initTm]
  by_cases c1 : C.dead = true
  · rw [c1]
    simp -implicitDefEqProofs only [go_sem]
    rw [show coR C d = (7, C, d) from if_pos c1]
    unfold ceK cellB
    refine sub_mk [(8, 3), (9, 4), (10, 5), (11, 7)] rfl rfl rfl ?_
    simp only [tmSub, hpSub, objSub, eqTm, eqHp, rn, lk, SV.ren, SV.renC, SV.renB, SV.renA, ren_ints, ren_strs, ren_pl, ren_svs, List.map_cons, List.map_nil, forall_const, Nat.reduceLT, true_and, and_true, ob_some, get_mk, lk_cons, ↓reduceIte, Nat.reduceEqDiff, Nat.reduceAdd, implies_true, reduceCtorEq]
    rw [c1]
    repeat' (first | rfl | apply And.intro)
  have c1' : C.dead = false := by simpa using c1
  rw [c1']
  simp -implicitDefEqProofs only [go_sem]
  refine at_call tcbytes (bytesS (i := 6) (by rfl) rfl (by decide) hE) ?_
  simp -implicitDefEqProofs only [go_sem]
  refine in_call mixT tCroom ?_
  unfold mCroom
  simp -implicitDefEqProofs only [↓fnVC, initTm]
  have w1 : IntKind.i64.wrap ((C.half : Int) - 1) = ((C.half - 1 : Nat) : Int) := by rw [wrap_i64 (by omega) (by omega)]; omega
  have w2 : IntKind.i64.wrap (64 * ((C.half - 1 : Nat) : Int)) = ((64 * (C.half - 1) : Nat) : Int) := by rw [wrap_i64 (by omega) (by omega)]; omega
  simp -implicitDefEqProofs only [go_sem, w1, w2]
  by_cases c2 : 64 * (C.half - 1) < (encB C.now).size
  · have b2 : decide (((encB C.now).size : Int) > ((64 * (C.half - 1) : Nat) : Int)) = true := decide_eq_true (by omega)
    simp -implicitDefEqProofs only [go_sem, b2]
    rw [show coR C d = (4, C, d) by unfold coR; rw [if_neg c1, if_pos c2]]
    unfold ceK cellB
    refine sub_mk [(8, 3), (9, 4), (10, 5), (11, 7)] rfl rfl rfl ?_
    simp only [tmSub, hpSub, objSub, eqTm, eqHp, rn, lk, SV.ren, SV.renC, SV.renB, SV.renA, ren_ints, ren_strs, ren_pl, ren_svs, List.map_cons, List.map_nil, forall_const, Nat.reduceLT, true_and, and_true, ob_some, get_mk, lk_cons, ↓reduceIte, Nat.reduceEqDiff, Nat.reduceAdd, implies_true, reduceCtorEq]
    rw [c1']
    repeat' (first | rfl | apply And.intro)
  have b2 : decide (((encB C.now).size : Int) > ((64 * (C.half - 1) : Nat) : Int)) = false := decide_eq_false (by omega)
  have b3 : decide ((C.num : Int) ≥ 9223372036854775806) = false := decide_eq_false (by omega)
  have w3 : IntKind.i64.wrap (1 - (C.last : Int)) = ((1 - C.last : Nat) : Int) := by rw [wrap_i64 (by omega) (by omega)]; omega
  have w4 : IntKind.i64.wrap ((C.num : Int) + 1) = ((C.num + 1 : Nat) : Int) := by rw [wrap_i64 (by omega) (by omega)]; omega
  simp -implicitDefEqProofs only [go_sem, b2, b3, w3, w4]
  have hsz : (encB C.now).size < 4294967296 := by omega
  generalize hs : encB C.now = sB at *
  refine in_call mixT tWEight ?_
  unfold mWEight
  simp -implicitDefEqProofs only [↓fnVC, initTm]
  simp -implicitDefEqProofs only [go_sem]
  refine at_call tWNumber (wNum0S (i := 8) (k := 8) (y := C.num + 1) (by rfl) (by decide) (by decide) (by decide) (by omega) (fun h => absurd h (by decide))) ?_
  simp -implicitDefEqProofs only [go_sem]
  refine at_call tWFour (wFourS (i := 8) (r := 9) (y := sB.size) (bs := be (C.num + 1) 8) hsz (by rw [be_len]; decide) (by rfl) (by rfl) (by decide) (by decide) (by decide) (by decide)) ?_
  simp -implicitDefEqProofs only [go_sem, w4]
  refine in_call mixT tWEight ?_
  unfold mWEight
  simp -implicitDefEqProofs only [↓fnVC, initTm]
  simp -implicitDefEqProofs only [go_sem]
  refine at_call tWNumber (wNumS (i := 8) (r := 10) (k := 8) (y := C.num + 1) (bs := be (C.num + 1) 8 ++ be sB.size 4) (bad := false) (by rfl) (by rfl) (by decide) (by decide) (by decide) (by decide) (by decide) (by omega) (fun h => absurd h (by decide)) (by rw [List.length_append, be_len, be_len]; decide)) ?_
  simp -implicitDefEqProofs only [go_sem]
  refine at_call tWBytes (wBytesS (i := 8) (r := 11) (bs := be (C.num + 1) 8 ++ be sB.size 4 ++ be (C.num + 1) 8) (bad := false) (by rfl) (by rfl) (by decide) rfl) ?_
  rw [if_neg Bool.false_ne_true, show tx (be (C.num + 1) 8 ++ be sB.size 4 ++ be (C.num + 1) 8) = hdC (C.num + 1) sB.size from rfl]
  simp -implicitDefEqProofs only [go_sem]
  refine in_call mixT tCfirst ?_
  unfold mCfirst
  simp -implicitDefEqProofs only [↓fnVC, initTm]
  have hm : (1 - C.last) * C.half ≤ 129 := by
    have : 1 - C.last ≤ 1 := by omega
    calc (1 - C.last) * C.half ≤ 1 * C.half := Nat.mul_le_mul_right _ this
      _ ≤ 129 := by omega
  have w5 : IntKind.i64.wrap (((1 - C.last : Nat) : Int) * (C.half : Int)) = (((1 - C.last) * C.half : Nat) : Int) := by
    rw [← Int.natCast_mul]; exact wrap_i64 (by omega) (by omega)
  have w6 : IntKind.i64.wrap ((C.base : Int) + (((1 - C.last) * C.half : Nat) : Int)) = ((ceTo C : Nat) : Int) := by
    unfold ceTo; rw [wrap_i64 (by omega) (by omega)]; omega
  have hto : ceTo C ≤ 1000000 := by unfold ceTo; omega
  simp -implicitDefEqProofs only [go_sem, w5, w6]
  have hq0 : coQ C d = slW (ceTo C) (hdC (C.num + 1) sB.size) sB d := by unfold coQ; rw [hs]
  obtain ⟨⟨e, d'⟩, hq⟩ : ∃ q, slW (ceTo C) (hdC (C.num + 1) sB.size) sB d = q := ⟨_, rfl⟩
  rw [hq] at hq0
  refine at_call tCwrite (cwriteS (i := 1) (D := 2) (a := 3) (b := 4) (c := 5) (M := 6) (W := 7) (C := { C with dead := false }) ⟨by rfl, by rfl, by rfl, by rfl, by rfl, by rfl, by rfl, by decide, rfl, rfl⟩ hP ht (by rw [← hs]; exact encB_pos) (by omega) (by rw [hdC_size]; decide) (by rw [hdC_size]; decide) hto (by decide) hq) ?_
  by_cases c3 : e = 0
  · have b4 : decide (e = 0) = true := decide_eq_true c3
    unfold cellB
    simp -implicitDefEqProofs only [go_sem, b4]
    refine at_ext (enters_mk Tryz.func49 rfl rfl) (cloneT (i := 6) (by rfl) rfl (by decide)) ?_
    simp -implicitDefEqProofs only [go_sem, b4, w4]
    refine ⟨rfl, ?_⟩
    rw [show coR C d = (0, { C with last := 1 - C.last, num := C.num + 1, was := C.now }, d') by unfold coR; rw [if_neg c1, hs, if_neg c2, hq0, if_neg (fun h => h c3)]]
    unfold ceK cellB
    refine sub_mk [(8, 12), (9, 13), (10, 14), (11, 15)] rfl rfl rfl ?_
    simp only [tmSub, hpSub, objSub, eqTm, eqHp, rn, lk, SV.ren, SV.renC, SV.renB, SV.renA, ren_ints, ren_strs, ren_pl, ren_svs, List.map_cons, List.map_nil, forall_const, Nat.reduceLT, true_and, and_true, ob_some, get_mk, lk_cons, ↓reduceIte, Nat.reduceEqDiff, Nat.reduceAdd, implies_true, reduceCtorEq]
    rw [c1']
    repeat' (first | rfl | apply And.intro)
  · have b4 : decide (e = 0) = false := decide_eq_false c3
    unfold cellB
    simp -implicitDefEqProofs only [go_sem, b4]
    rw [show coR C d = (e, { C with dead := true }, d') by unfold coR; rw [if_neg c1, hs, if_neg c2, hq0, if_pos c3]]
    unfold ceK cellB
    refine sub_mk [(8, 12), (9, 13), (10, 14), (11, 7)] rfl rfl rfl ?_
    simp only [tmSub, hpSub, objSub, eqTm, eqHp, rn, lk, SV.ren, SV.renC, SV.renB, SV.renA, ren_ints, ren_strs, ren_pl, ren_svs, List.map_cons, List.map_nil, forall_const, Nat.reduceLT, true_and, and_true, ob_some, get_mk, lk_cons, ↓reduceIte, Nat.reduceEqDiff, Nat.reduceAdd, implies_true, reduceCtorEq]
    repeat' (first | rfl | apply And.intro)
end
section
/- Cells: readers. -/
set_option linter.unusedVariables false
set_option linter.unusedSimpArgs false
set_option maxRecDepth 100000
open Go.Proofs
variable {H : Hp} {n : Nat} {x : Nat → Option SO} {i : Nat}
theorem rdOS {f : Nat} {m : MFn} {args : List SV} {v : SV} {s s' : ByteArray} {e e' : Int} (t : trFn Tryz.prog f = some m) (ha : ∀ π, args.map (SV.ren π) = args) (hlt : args.all (ltT 2) = true) (hv : ∀ π, v.ren π = v)
    (hm : ∀ x, fnVC CT m (.ptr 1 0 :: args) ⟨[(1, some (rdO s e))], x⟩ 2 fun w H' n' => Sub 2 ⟨[(0, v)], ⟨[(1, some (rdO s' e'))], x⟩, 2⟩ ⟨[(0, w)], H', n'⟩)
    (hg : H.get i = some (rdO s e)) (hi : 0 < i ∧ i < 1000) : SpecAt Tryz.prog f (.ptr i 0 :: args) H n v ⟨(i, some (rdO s' e')) :: H.l, H.x⟩ n := by
  have := lift (n := n) (okT.spec t (hm H.x)) [(1, i)] rfl rfl (by rw [List.all_cons, hlt]; rfl) (by omega) rfl rfl
    ⟨sub_wr rfl hi.1 hi.2 hg rfl, trivial⟩ (by simp [apartB, apart1, rn, lk]) (by simp [wrNZ, rn, lk]; omega) (by omega)
  rw [hv, List.map_cons, ha] at this
  exact this
theorem textS {nm rest : ByteArray} {most : Nat} (hn : nm.size ≤ most) (hm : most ≤ 65535) (hg : H.get i = some (rdO (tx (be nm.size 2) ++ (nm ++ rest)) 0)) (hi : 0 < i ∧ i < 1000) :
    SpecAt Tryz.prog nRText [.ptr i 0, .v (.int .i64 most)] H n (.v (.string nm)) ⟨(i, some (rdO rest 0)) :: H.l, H.x⟩ n := rdOS tRText (fun _ => rfl) rfl (fun _ => rfl) (by
  intro x
  have hA : (tx (be nm.size 2)).size = 2 := by rw [tx_sz, be_len]
  have hb : bts (tx (be nm.size 2)) = be nm.size 2 := btx be_bytes
  have hnum : num (tx (be nm.size 2)) = nm.size := num_be hb (by omega)
  have hz : (tx (be nm.size 2) ++ (nm ++ rest)).size = 2 + (nm.size + rest.size) := by rw [ByteArray.size_append, ByteArray.size_append, hA]
  have hz2 : (nm ++ rest).size = nm.size + rest.size := ByteArray.size_append
  have r1 : rawT (tx (be nm.size 2) ++ (nm ++ rest)) 0 2 = tx (be nm.size 2) := by unfold rawT; rw [if_neg (by omega)]; exact ex_a hA
  have r2 : rawS (tx (be nm.size 2) ++ (nm ++ rest)) 0 2 = nm ++ rest := by unfold rawS; rw [if_neg (by omega)]; exact ex_r hA
  have r3 : rawE (tx (be nm.size 2) ++ (nm ++ rest)) 0 2 = 0 := by unfold rawE; rw [if_neg (by omega), if_neg (by omega)]
  have q1 : rawT (nm ++ rest) 0 nm.size = nm := by unfold rawT; rw [if_neg (by omega)]; exact ex_a rfl
  have q2 : rawS (nm ++ rest) 0 nm.size = rest := by unfold rawS; rw [if_neg (by omega)]; exact ex_r rfl
  have q3 : rawE (nm ++ rest) 0 nm.size = 0 := by unfold rawE; rw [if_neg (by omega), if_neg (by omega)]
  unfold mRText
  simp -implicitDefEqProofs only [↓fnVC, initTm]
  simp -implicitDefEqProofs only [go_sem]
  refine at_call tRErr (errS (s := tx (be nm.size 2) ++ (nm ++ rest)) (e := 0) (by rfl)) ?_
  unfold rdO
  simp -implicitDefEqProofs only [go_sem]
  refine at_call tRTwo (twoS (i := 1) (s := tx (be nm.size 2) ++ (nm ++ rest)) (e := 0) (by rfl) (by decide)) ?_
  rw [r1, r2, r3, hnum]
  have mx : max (most : Int) 0 = (most : Int) := by omega
  have b1 : decide ((nm.size : Int) > (most : Int)) = false := decide_eq_false (by omega)
  simp -implicitDefEqProofs only [go_sem, mx, b1]
  refine at_call tRRaw (rawSp (i := 1) (s := nm ++ rest) (e := 0) (k := nm.size) (by rfl) (by decide) (by omega)) ?_
  rw [q1, q2, q3]
  unfold rdO
  simp -implicitDefEqProofs only [go_sem]
  refine sub_mk [] rfl rfl rfl ?_
  simp only [tmSub, hpSub, objSub, eqTm, eqHp, rn, lk, SV.ren, SV.renC, SV.renB, SV.renA, ren_ints, ren_strs, ren_pl, ren_svs, List.map_cons, List.map_nil, forall_const, Nat.reduceLT, true_and, and_true, ob_some, get_mk, lk_cons, ↓reduceIte, Nat.reduceEqDiff, Nat.reduceAdd, implies_true, reduceCtorEq]) hg hi
theorem endS0 (hg : H.get i = some (rdO ⟨#[]⟩ 0)) (hi : 0 < i ∧ i < 1000) : SpecAt Tryz.prog nREnd [.ptr i 0] H n (.v (.int .i64 0)) ⟨(i, some (rdO ⟨#[]⟩ 0)) :: H.l, H.x⟩ n := rdOS (args := []) tREnd (fun _ => rfl) rfl (fun _ => rfl) (by
  intro x
  unfold mREnd
  simp -implicitDefEqProofs only [↓fnVC, initTm]
  unfold rdO
  simp -implicitDefEqProofs only [go_sem]
  refine in_call mixT tRLeft ?_
  unfold mRLeft
  simp -implicitDefEqProofs only [↓fnVC, initTm]
  simp -implicitDefEqProofs only [go_sem]
  have b1 : decide (((#[] : Array UInt8).size : Int) > 0) = false := rfl
  simp -implicitDefEqProofs only [go_sem, b1]
  refine at_call tRErr (errS (s := ⟨#[]⟩) (e := 0) (by rfl)) ?_
  simp -implicitDefEqProofs only [go_sem]
  refine sub_mk [] rfl rfl rfl ?_
  simp only [tmSub, hpSub, objSub, eqTm, eqHp, rn, lk, SV.ren, SV.renC, SV.renB, SV.renA, ren_ints, ren_strs, ren_pl, ren_svs, List.map_cons, List.map_nil, forall_const, Nat.reduceLT, true_and, and_true, ob_some, get_mk, lk_cons, ↓reduceIte, Nat.reduceEqDiff, Nat.reduceAdd, implies_true, reduceCtorEq]) hg hi
end
section
/- Cells: names rise. -/
set_option linter.unusedVariables false
set_option linter.unusedSimpArgs false
set_option maxRecDepth 100000
open Go.Proofs
theorem srtL {es : List (Value × Value)} : (srtK es).map (fun s => s.data.toList) = (es.map keyB).mergeSort fun x y => decide (x ≤ y) := by
  unfold srtK
  rw [List.map_map]
  exact List.map_id _
theorem srt_pw {es : List (Value × Value)} : ((srtK es).map fun s => s.data.toList).Pairwise (· ≤ ·) := by
  rw [srtL]
  have := List.pairwise_mergeSort (le := fun x y : List UInt8 => decide (x ≤ y)) (fun a b c h1 h2 => by
    simp only [decide_eq_true_eq] at h1 h2 ⊢; exact List.le_trans h1 h2) (fun a b => by
    rcases List.le_total a b with h | h
    · simp [h]
    · simp [h]) (es.map keyB)
  exact this.imp fun h => of_decide_eq_true h
theorem srt_nd {es : List (Value × Value)} (h : (es.map keyB).Nodup) : (srtK es).Nodup := by
  have : ((srtK es).map fun s => s.data.toList).Nodup := by
    rw [srtL]
    exact (List.mergeSort_perm _ _).nodup_iff.2 h
  exact List.Pairwise.imp (fun h e => h (by rw [e])) (List.pairwise_map.1 this)
theorem sle_ff {s t : ByteArray} (h : t.data.toList ≤ s.data.toList) (hn : s ≠ t) : sle s t = false := by
  unfold sle
  rw [bytesLess_eq]
  have h1 : s.toList = s.data.toList := Go.Lib.toList_data s
  have h2 : t.toList = t.data.toList := Go.Lib.toList_data t
  rw [h1, h2]
  have h3 : decide (s.data.toList < t.data.toList) = false := decide_eq_false (List.not_lt.2 h)
  rw [h3, Bool.false_or]
  refine Bool.eq_false_iff.2 fun e => hn ?_
  have e := eq_of_beq e
  exact ByteArray.ext (Array.toList_inj.1 e)
theorem sle_emp {s : ByteArray} (h : s.size ≠ 0) : sle s ⟨#[]⟩ = false :=
  sle_ff (s := s) (t := ⟨#[]⟩) (List.nil_le _) (fun e => h (by rw [e]; rfl))
theorem nm_get {es : List (Value × Value)} {j : Nat} (h : j < es.length) : (srtK es)[j]? = some (nmAt es j) := by
  unfold nmAt
  rw [List.getD_eq_getElem?_getD, List.getElem?_eq_getElem (by rw [srtK_len]; exact h)]
  rfl
theorem nm_le {es : List (Value × Value)} {i j : Nat} (hij : i < j) (h : j < es.length) : (nmAt es i).data.toList ≤ (nmAt es j).data.toList := by
  have hp := srt_pw (es := es)
  rw [List.pairwise_iff_getElem] at hp
  have := hp i j (by rw [List.length_map, srtK_len]; omega) (by rw [List.length_map, srtK_len]; omega) hij
  rw [List.getElem_map, List.getElem_map] at this
  have e1 : (srtK es)[i]'(by rw [srtK_len]; omega) = nmAt es i := by
    have := nm_get (es := es) (j := i) (by omega); rw [List.getElem?_eq_getElem (by rw [srtK_len]; omega)] at this; exact Option.some.inj this
  have e2 : (srtK es)[j]'(by rw [srtK_len]; omega) = nmAt es j := by
    have := nm_get (es := es) h; rw [List.getElem?_eq_getElem (by rw [srtK_len]; omega)] at this; exact Option.some.inj this
  rw [e1, e2] at this
  exact this
theorem nm_ne {es : List (Value × Value)} (hn : (es.map keyB).Nodup) {i j : Nat} (hij : i < j) (h : j < es.length) : nmAt es j ≠ nmAt es i := by
  have hp := srt_nd hn
  unfold List.Nodup at hp
  rw [List.pairwise_iff_getElem] at hp
  have := hp i j (by rw [srtK_len]; omega) (by rw [srtK_len]; omega) hij
  have e1 : (srtK es)[i]'(by rw [srtK_len]; omega) = nmAt es i := by
    have := nm_get (es := es) (j := i) (by omega); rw [List.getElem?_eq_getElem (by rw [srtK_len]; omega)] at this; exact Option.some.inj this
  have e2 : (srtK es)[j]'(by rw [srtK_len]; omega) = nmAt es j := by
    have := nm_get (es := es) h; rw [List.getElem?_eq_getElem (by rw [srtK_len]; omega)] at this; exact Option.some.inj this
  rw [e1, e2] at this
  exact fun e => this e.symm
theorem Es.nmpos {es : List (Value × Value)} (h : Es es) {j : Nat} (hj : j < es.length) : (nmAt es j).size ≠ 0 := by
  intro e
  have hm := srtK_mem (nmAt_mem hj)
  obtain ⟨e', he', hk'⟩ := List.mem_map.1 hm
  refine h.ne e' he' ?_
  rw [hk', ba_zero e]
theorem Es.sle_ff {es : List (Value × Value)} (h : Es es) {j : Nat} (hj : j < es.length) : sle (nmAt es j) (if j = 0 then ⟨#[]⟩ else nmAt es (j - 1)) = false := by
  by_cases h0 : j = 0
  · rw [if_pos h0]; exact sle_emp (h.nmpos hj)
  · rw [if_neg h0]; exact Sx.sle_ff (nm_le (by omega) hj) (nm_ne h.nd (by omega) hj)
theorem up_new {f : ByteArray → Value} {s : ByteArray} {y : Value} : ∀ {l : List ByteArray}, s ∉ l → upS (l.map fun nm => (.string nm, f nm)) s y = (l.map fun nm => (.string nm, f nm)) ++ [(.string s, y)]
  | [], _ => rfl
  | t :: l, h => by
    have h1 : t ≠ s := fun e => h (by rw [e]; exact List.mem_cons_self ..)
    have h2 : s ∉ l := fun e => h (List.mem_cons_of_mem _ e)
    rw [List.map_cons]
    unfold upS
    rw [if_neg (by unfold keyIs; rw [decide_eq_true_eq]; exact h1), up_new h2]
    rfl
def srtE (es : List (Value × Value)) : List (Value × Value) := (srtK es).map fun nm => (.string nm, .agg ⟨[.string (tOf es nm)]⟩)
theorem srtE_up {es : List (Value × Value)} (h : (es.map keyB).Nodup) {j : Nat} (hj : j < es.length) :
    upS ((srtE es).take j) (nmAt es j) (.agg ⟨[.string (tOf es (nmAt es j))]⟩) = (srtE es).take (j + 1) := by
  have hn : nmAt es j ∉ (srtK es).take j := by
    intro hm
    obtain ⟨i, hi, e⟩ := List.getElem_of_mem hm
    rw [List.length_take] at hi
    rw [List.getElem_take] at e
    have e1 : (srtK es)[i]'(by omega) = nmAt es i := by
      have := nm_get (es := es) (j := i) (by omega); rw [List.getElem?_eq_getElem (by omega)] at this; exact Option.some.inj this
    rw [e1] at e
    exact nm_ne h (by omega) hj e.symm
  unfold srtE
  rw [← List.map_take, up_new hn, ← List.map_take, List.take_add_one, nm_get hj]
  simp
theorem srtE_keys {es : List (Value × Value)} {j : Nat} : keysS ((srtE es).take j) = true := by
  unfold keysS srtE
  rw [List.all_eq_true]
  intro e he
  obtain ⟨nm, _, rfl⟩ := List.mem_map.1 (List.mem_of_mem_take he)
  rfl
theorem srtE_len {es : List (Value × Value)} : (srtE es).length = es.length := by unfold srtE; rw [List.length_map, srtK_len]
end
section
/- Cells: a content is read. -/
set_option linter.unusedVariables false
set_option linter.unusedSimpArgs false
set_option maxRecDepth 100000
open Go.Proofs
variable {H : Hp} {n : Nat} {x : Nat → Option SO} {i : Nat}
def suf (es : List (Value × Value)) : List ByteArray → ByteArray
  | [] => ⟨#[]⟩
  | nm :: l => tx (be nm.size 2) ++ (nm ++ (tx (be (tOf es nm).size 2) ++ (tOf es nm ++ suf es l)))
theorem enc_suf {es : List (Value × Value)} : ∀ j, j ≤ es.length → tx (encL es j) ++ suf es ((srtK es).drop j) = tx (be es.length 2) ++ suf es (srtK es)
  | 0, _ => rfl
  | j + 1, h => by
    rw [← enc_suf j (by omega)]
    have hd : (srtK es).drop j = nmAt es j :: (srtK es).drop (j + 1) := by
      have hl : j < (srtK es).length := by rw [srtK_len]; omega
      rw [List.drop_eq_getElem_cons hl]
      congr 1
      unfold nmAt
      rw [List.getD_eq_getElem?_getD, List.getElem?_eq_getElem hl]
      rfl
    rw [hd]
    show tx (encL es j ++ (be (nmAt es j).size 2 ++ bts (nmAt es j)) ++ (be (tOf es (nmAt es j)).size 2 ++ bts (tOf es (nmAt es j)))) ++ _ = _ ++ (tx (be (nmAt es j).size 2) ++ (nmAt es j ++ (tx (be (tOf es (nmAt es j)).size 2) ++ (tOf es (nmAt es j) ++ suf es _))))
    simp only [tx_app, tx_bts, ByteArray.append_assoc]
theorem encB_suf {es : List (Value × Value)} : encB es = tx (be es.length 2) ++ suf es (srtK es) := by
  rw [← enc_suf es.length (Nat.le_refl _)]
  rw [List.drop_of_length_le (by rw [srtK_len]; exact Nat.le_refl _)]
  exact app_nil.symm
theorem readW' {es : List (Value × Value)} (h : Es es) : fnVC CT mcread [.v (.string (encB es))] ⟨[], x⟩ 1 fun v H' n' => Sub 1 ⟨[(0, .tup [.mp 1, .v (.bool true)])], ⟨[(1, some ⟨true, .mp (.map (srtE es))⟩)], x⟩, 2⟩ ⟨[(0, v)], H', n'⟩ := by
  have hlen := h.len
  rw [encB_suf]
  have hA : (tx (be es.length 2)).size = 2 := by rw [tx_sz, be_len]
  have hnum : num (tx (be es.length 2)) = es.length := num_be (btx be_bytes) (by omega)
  unfold mcread
  simp -implicitDefEqProofs only [↓fnVC, initTm]
  simp -implicitDefEqProofs only [go_sem]
  refine at_call tPRead (preadS (by decide)) ?_
  simp -implicitDefEqProofs only [go_sem]
  generalize hs : suf es (srtK es) = sf
  have r1 : rawT (tx (be es.length 2) ++ sf) 0 2 = tx (be es.length 2) := by unfold rawT; rw [if_neg (by rw [ByteArray.size_append]; omega)]; exact ex_a hA
  have r2 : rawS (tx (be es.length 2) ++ sf) 0 2 = sf := by unfold rawS; rw [if_neg (by rw [ByteArray.size_append]; omega)]; exact ex_r hA
  have r3 : rawE (tx (be es.length 2) ++ sf) 0 2 = 0 := by unfold rawE; rw [if_neg (by omega), if_neg (by rw [ByteArray.size_append]; omega)]
  refine at_call tRTwo (twoS (i := 1) (s := tx (be es.length 2) ++ sf) (e := 0) (by rfl) (by decide)) ?_
  rw [r1, r2, r3, hnum]
  have b1 : decide ((es.length : Int) > 64) = false := decide_eq_false (by omega)
  simp -implicitDefEqProofs only [go_sem, b1]
  refine loop_fam (fun (j : Nat) => j ≤ es.length) (fun j => ⟨[(4, .ptr 1 0), (5, .mp 2), (6, .v (.string (if j = 0 then ⟨#[]⟩ else nmAt es (j - 1)))), (16, .v (.int .i64 es.length)), (17, .v (.int .i64 j))], ⟨[(1, some (rdO (suf es ((srtK es).drop j)) 0)), (2, some ⟨true, .mp (.map ((srtE es).take j))⟩)], x⟩, 3⟩) (fun j => es.length - j) 0 (Nat.zero_le _) ?_ ?_
  · unfold rdO
    refine sub_mk [] rfl rfl rfl ?_
    simp only [tmSub, hpSub, objSub, eqTm, eqHp, rn, lk, SV.ren, SV.renC, SV.renB, SV.renA, ren_ints, ren_strs, ren_pl, ren_svs, List.map_cons, List.map_nil, forall_const, Nat.reduceLT, true_and, and_true, ob_some, get_mk, lk_cons, ↓reduceIte, Nat.reduceEqDiff, Nat.reduceAdd, implies_true, reduceCtorEq]
    rw [List.drop_zero, hs]
    repeat' (first | rfl | apply And.intro)
  · intro j hj
    simp -implicitDefEqProofs only [go_sem]
    refine condK_bb (fun c => ?_) (fun c => ?_)
    · have c1 : j < es.length := by have := of_decide_eq_true c; omega
      have hd : (srtK es).drop j = nmAt es j :: (srtK es).drop (j + 1) := by
        have hl : j < (srtK es).length := by rw [srtK_len]; omega
        rw [List.drop_eq_getElem_cons hl]
        congr 1
        unfold nmAt
        rw [List.getD_eq_getElem?_getD, List.getElem?_eq_getElem hl]
        rfl
      obtain ⟨h1, h2, h3⟩ := h.at_ (nmAt_mem c1)
      rw [hd, show suf es (nmAt es j :: (srtK es).drop (j + 1)) = tx (be (nmAt es j).size 2) ++ (nmAt es j ++ (tx (be (tOf es (nmAt es j)).size 2) ++ (tOf es (nmAt es j) ++ suf es ((srtK es).drop (j + 1))))) from rfl]
      simp -implicitDefEqProofs only [go_sem, c]
      refine at_call tRText (textS (i := 1) (nm := nmAt es j) (rest := tx (be (tOf es (nmAt es j)).size 2) ++ (tOf es (nmAt es j) ++ suf es ((srtK es).drop (j + 1)))) (most := 32) h3 (by decide) (by rfl) (by decide)) ?_
      simp -implicitDefEqProofs only [go_sem]
      have b2 := h.sle_ff c1
      simp -implicitDefEqProofs only [go_sem, b2]
      refine at_call tRText (textS (i := 1) (nm := tOf es (nmAt es j)) (rest := suf es ((srtK es).drop (j + 1))) (most := 65535) h2 (by decide) (by rfl) (by decide)) ?_
      have w2 : IntKind.i64.wrap ((j : Int) + 1) = ((j + 1 : Nat) : Int) := by rw [wrap_i64 (by omega) (by omega)]; omega
      have hup := srtE_up h.nd c1
      simp -implicitDefEqProofs only [go_sem, spl1, w2]
      rw [hup]
      refine ⟨srtE_keys, ?_⟩
      refine kLoop_mk (j + 1) (by omega) (by omega) ?_
      unfold rdO
      refine sub_mk [] rfl rfl rfl ?_
      simp only [tmSub, hpSub, objSub, eqTm, eqHp, rn, lk, SV.ren, SV.renC, SV.renB, SV.renA, ren_ints, ren_strs, ren_pl, ren_svs, List.map_cons, List.map_nil, forall_const, Nat.reduceLT, true_and, and_true, ob_some, get_mk, lk_cons, ↓reduceIte, Nat.reduceEqDiff, Nat.reduceAdd, implies_true, reduceCtorEq]
      repeat' (first | rfl | apply And.intro)
    · have c1 : j = es.length := by have := of_decide_eq_false c; omega
      subst c1
      simp -implicitDefEqProofs only [go_sem, c]
      have hd : (srtK es).drop es.length = [] := List.drop_of_length_le (by rw [srtK_len]; exact Nat.le_refl _)
      rw [hd]
      refine at_call tREnd (endS0 (i := 1) (by rfl) (by decide)) ?_
      simp -implicitDefEqProofs only [go_sem]
      have ht : (srtE es).take es.length = srtE es := List.take_of_length_le (by rw [srtE_len]; exact Nat.le_refl _)
      rw [ht]
      refine sub_mk [(1, 2)] rfl rfl rfl ?_
      simp only [tmSub, hpSub, objSub, eqTm, eqHp, rn, lk, SV.ren, SV.renC, SV.renB, SV.renA, ren_ints, ren_strs, ren_pl, ren_svs, List.map_cons, List.map_nil, forall_const, Nat.reduceLT, true_and, and_true, ob_some, get_mk, lk_cons, ↓reduceIte, Nat.reduceEqDiff, Nat.reduceAdd, implies_true, reduceCtorEq]
      rfl
theorem readS {es : List (Value × Value)} (h : Es es) (hn : n + 1 ≤ 1000) : SpecAt Tryz.prog ncread [.v (.string (encB es))] H n (.tup [.mp n, .v (.bool true)]) ⟨(n, some ⟨true, .mp (.map (srtE es))⟩) :: H.l, H.x⟩ (n + 1) := by
  have := lift (n := n) (okT.spec tcread (readW' (x := H.x) h)) [] rfl rfl rfl (by omega) rfl rfl
    trivial (by simp [apartB, apart1, rn, lk]) (by simp [wrNZ, rn, lk]) (by omega)
  exact this
end
section
/- Cells: a copy is read. -/
set_option linter.unusedVariables false
set_option linter.unusedSimpArgs false
set_option maxRecDepth 100000
open Go.Proofs
variable {H : Hp} {n : Nat} {x : Nat → Option SO} {d d' : Fd} {i a b c : Nat} {u1 u2 u3 : Bool}
def secT (d : Fd) (k : Int) : ByteArray := tx (d.seen.getD k.toNat [])
def imgT (at_ : Int) (d : Fd) : Nat → ByteArray
  | 0 => ⟨#[]⟩
  | k + 1 => imgT at_ d k ++ secT d (at_ + 1 + k)
theorem rdS' {k : Int} {u1 u2 u3 u4 : Bool} (hi : H.get i = some ⟨u1, devB d a b c⟩) (ha : H.get a = some ⟨u2, secB d.seen⟩) (hb : H.get b = some ⟨u3, secB d.safe⟩) (hc : H.get c = some ⟨u4, .pl (prow d.pend)⟩) (ne : 0 < i ∧ 0 < a ∧ 0 < b ∧ 0 < c) (hd : d.ok) : SpecAt Tryz.prog nFRead [.ptr i 0, .v (.int .i64 k)] H n (rdV d k) H n := by
  obtain ⟨p1, p2, p3, p4⟩ := ne
  have := lift (n := n) (ok3.pure tFRead (wF14 (x := H.x) (k := k) hd)) [(1, i), (2, a), (3, b), (4, c)] rfl rfl rfl (by omega) rfl rfl
    ⟨sub_ro rfl p1 hi rfl, sub_ro rfl p2 ha rfl, sub_ro rfl p3 hb rfl, sub_ro rfl p4 hc rfl, trivial⟩ (by simp [apartB, apart1, rn, lk]) (by simp [wrNZ, rn, lk]; try omega) (by omega)
  have hv : ∀ π, (rdV d k).ren π = rdV d k := fun π => by unfold rdV; split <;> (try split) <;> rfl
  rw [hv] at this
  exact this
theorem secT_size {k : Int} (hd : d.ok) (h0 : 0 ≤ k) (h1 : k < d.seen.length) : (secT d k).size = 64 := by
  unfold secT
  rw [tx_sz]
  exact getD_len hd.seen (by omega)
theorem rdV_at {k : Int} (ho : d.off = false) (h0 : 0 ≤ k) (h1 : k < d.seen.length) : rdV d k = .tup [.v (.string (secT d k)), .v (.int .i64 0)] := by
  unfold rdV; rw [ho, if_neg Bool.false_ne_true, if_neg (by omega)]; rfl
theorem imgT_size {at_ : Int} (hd : d.ok) (h0 : 0 ≤ at_) : ∀ {j : Nat}, at_ + 1 + j ≤ d.seen.length → (imgT at_ d j).size = 64 * j
  | 0, _ => rfl
  | j + 1, h => by
    show (imgT at_ d j ++ secT d (at_ + 1 + j)).size = _
    rw [ByteArray.size_append, imgT_size hd h0 (by omega), secT_size hd (by omega) (by omega)]
    omega
def opB (B h num last : Nat) (D W : Nat) : Body := .sv [.ptr D 0, .v (.int .i64 B), .v (.int .i64 h), .v (.map none), .mp W, .v (.int .i64 num), .v (.int .i64 last), .v (.bool false)]
def opH (B h num last : Nat) (we : List (Value × Value)) (d : Fd) (x : Nat → Option SO) : Hp := ⟨[(1, some ⟨false, opB B h num last 2 6⟩), (2, some ⟨false, devB d 3 4 5⟩), (3, some ⟨false, secB d.seen⟩), (4, some ⟨false, secB d.safe⟩), (5, some ⟨false, .pl (prow d.pend)⟩), (6, some ⟨false, .mp (.map we)⟩)], x⟩
def NoHd (s : ByteArray) : Prop := preE s 0 = 0 ∧ preE (s.extract 12 s.size) 0 = 0 ∧ (num (s.extract 0 8) = 0 ∨ num (s.extract 0 8) ≠ num (s.extract 12 20)) ∧ num (s.extract 0 8) < 9223372036854775808 ∧ num (s.extract 12 20) < 9223372036854775808
theorem copiedN {B h nu la k : Nat} {we : List (Value × Value)} (hB : B ≤ 4096) (hh : 2 ≤ h ∧ h ≤ 129) (hk : k ≤ 1) (hd : d.ok) (ho : d.off = false) (hl : B + k * h + h ≤ d.seen.length) (hN : NoHd (secT d (B + k * h : Nat))) :
    fnVC CT mCcopied [.ptr 1 0, .v (.int .i64 k)] (opH B h nu la we d x) 7 fun v H' n' => Sub 7 ⟨[(0, .tup [.v (.int .i64 0), .v (.map none), .v (.bool false)])], ⟨[], x⟩, 7⟩ ⟨[(0, v)], H', n'⟩ := by
  unfold mCcopied opH opB devB
  simp -implicitDefEqProofs only [↓fnVC, initTm]
  simp -implicitDefEqProofs only [go_sem]
  refine in_call mixT tCfirst ?_
  unfold mCfirst
  simp -implicitDefEqProofs only [↓fnVC, initTm]
  have hm : k * h ≤ 129 := by
    calc k * h ≤ 1 * h := Nat.mul_le_mul_right _ hk
      _ ≤ 129 := by omega
  have w5 : IntKind.i64.wrap ((k : Int) * (h : Int)) = ((k * h : Nat) : Int) := by
    rw [← Int.natCast_mul]; exact wrap_i64 (by omega) (by omega)
  have w6 : IntKind.i64.wrap ((B : Int) + ((k * h : Nat) : Int)) = ((B + k * h : Nat) : Int) := by
    rw [wrap_i64 (by omega) (by omega)]; omega
  simp -implicitDefEqProofs only [go_sem, w5, w6]
  refine at_call tFRead (rdS' (i := 2) (a := 3) (b := 4) (c := 5) (d := d) (by rfl) (by rfl) (by rfl) (by rfl) (by decide) hd) ?_
  rw [rdV_at (k := (B + k * h : Nat)) ho (by omega) (by omega)]
  have hsz : (secT d (B + k * h : Nat)).size = 64 := secT_size hd (by omega) (by omega)
  generalize secT d (B + k * h : Nat) = s at hN hsz
  obtain ⟨e1, e2, hnn, l1, l2⟩ := hN
  simp -implicitDefEqProofs only [go_sem]
  refine at_call tPRead (preadS (s := s) (by decide)) ?_
  simp -implicitDefEqProofs only [go_sem]
  have f1 := rd_at (s := s) (k := 0) (w := 8) (by omega)
  have f2 := rd_at (s := s) (k := 8) (w := 4) (by omega)
  have f3 := rd_at (s := s) (k := 12) (w := 8) (by omega)
  rw [ext_all] at f1
  refine at_call tREight (eightSp (i := 7) (s := s) (e := 0) (by rfl) (by decide)) ?_
  rw [e1, f1.1, f1.2.1, f1.2.2]
  simp -implicitDefEqProofs only [go_sem]
  refine at_call tRFour (fourS (i := 7) (s := s.extract 8 s.size) (e := 0) (by rfl) (by decide)) ?_
  rw [f2.1, f2.2.1, f2.2.2]
  simp -implicitDefEqProofs only [go_sem]
  refine at_call tREight (eightSp (i := 7) (s := s.extract 12 s.size) (e := 0) (by rfl) (by decide)) ?_
  rw [e2, f3.1, f3.2.1, f3.2.2]
  rw [show 12 + 8 = 20 from rfl]
  simp -implicitDefEqProofs only [go_sem]
  by_cases c1 : num (s.extract 0 8) = 0
  · have a1 : decide ((num (s.extract 0 8) : Int) = 0) = true := decide_eq_true (by omega)
    simp -implicitDefEqProofs only [go_sem, a1]
    refine sub_mk [] rfl rfl rfl ?_
    simp only [tmSub, hpSub, objSub, eqTm, eqHp, rn, lk, SV.ren, SV.renC, SV.renB, SV.renA, ren_ints, ren_strs, ren_pl, ren_svs, SV.v.injEq, Value.int.injEq, Body.ints.injEq, SV.ptr.injEq, SV.sl.injEq, List.map_cons, List.map_nil, forall_const, Nat.reduceLT, imp_self, true_and, and_true, and_self, ob_some, get_mk, lk_cons, ↓reduceIte, Nat.reduceEqDiff, Nat.reduceAdd, false_implies, implies_true, reduceCtorEq]
  have a1 : decide ((num (s.extract 0 8) : Int) = 0) = false := decide_eq_false (by omega)
  by_cases c2 : num (s.extract 0 8) = 9223372036854775807
  · have a2 : decide ((num (s.extract 0 8) : Int) = 9223372036854775807) = true := decide_eq_true (by omega)
    simp -implicitDefEqProofs only [go_sem, a1, a2]
    refine sub_mk [] rfl rfl rfl ?_
    simp only [tmSub, hpSub, objSub, eqTm, eqHp, rn, lk, SV.ren, SV.renC, SV.renB, SV.renA, ren_ints, ren_strs, ren_pl, ren_svs, SV.v.injEq, Value.int.injEq, Body.ints.injEq, SV.ptr.injEq, SV.sl.injEq, List.map_cons, List.map_nil, forall_const, Nat.reduceLT, imp_self, true_and, and_true, and_self, ob_some, get_mk, lk_cons, ↓reduceIte, Nat.reduceEqDiff, Nat.reduceAdd, false_implies, implies_true, reduceCtorEq]
  have a2 : decide ((num (s.extract 0 8) : Int) = 9223372036854775807) = false := decide_eq_false (by omega)
  have a3 : decide ((num (s.extract 0 8) : Int) = (num (s.extract 12 20) : Int)) = false := decide_eq_false (by omega)
  simp -implicitDefEqProofs only [go_sem, a1, a2, a3, Bool.not_false]
  refine sub_mk [] rfl rfl rfl ?_
  simp only [tmSub, hpSub, objSub, eqTm, eqHp, rn, lk, SV.ren, SV.renC, SV.renB, SV.renA, ren_ints, ren_strs, ren_pl, ren_svs, SV.v.injEq, Value.int.injEq, Body.ints.injEq, SV.ptr.injEq, SV.sl.injEq, List.map_cons, List.map_nil, forall_const, Nat.reduceLT, imp_self, true_and, and_true, and_self, ob_some, get_mk, lk_cons, ↓reduceIte, Nat.reduceEqDiff, Nat.reduceAdd, false_implies, implies_true, reduceCtorEq]
structure HdOK (s : ByteArray) (k z : Nat) : Prop where
  e1 : preE s 0 = 0
  e2 : preE (s.extract 12 s.size) 0 = 0
  n1 : num (s.extract 0 8) = k
  z : num (s.extract 8 12) = z
  n2 : num (s.extract 12 20) = k
  k0 : 0 < k
  k1 : k < 9223372036854775807
structure Cp (d : Fd) (at_ h k : Nat) (es : List (Value × Value)) : Prop where
  hd : HdOK (secT d at_) k (encB es).size
  img : (imgT at_ d (h - 1)).extract 0 (encB es).size = encB es
  room : (encB es).size ≤ 64 * (h - 1)
  es : Es es
set_option maxHeartbeats 2000000 in
theorem copiedC {B h nu la k r : Nat} {es we : List (Value × Value)} (hB : B ≤ 4096) (hh : 2 ≤ h ∧ h ≤ 129) (hk : k ≤ 1) (hd : d.ok) (ho : d.off = false) (hl : B + k * h + h ≤ d.seen.length) (hC : Cp d (B + k * h) h r es) :
    fnVC CT mCcopied [.ptr 1 0, .v (.int .i64 k)] (opH B h nu la we d x) 7 fun v H' n' => Sub 7 ⟨[(0, .tup [.v (.int .i64 r), .mp 7, .v (.bool true)])], ⟨[(7, some ⟨true, .mp (.map (srtE es))⟩)], x⟩, 8⟩ ⟨[(0, v)], H', n'⟩ := by
  obtain ⟨hhd, himg, hroom, hE⟩ := hC
  unfold mCcopied opH opB devB
  simp -implicitDefEqProofs only [↓fnVC, initTm]
  simp -implicitDefEqProofs only [go_sem]
  refine in_call mixT tCfirst ?_
  unfold mCfirst
  simp -implicitDefEqProofs only [↓fnVC, initTm]
  have hm : k * h ≤ 129 := by
    calc k * h ≤ 1 * h := Nat.mul_le_mul_right _ hk
      _ ≤ 129 := by omega
  have w5 : IntKind.i64.wrap ((k : Int) * (h : Int)) = ((k * h : Nat) : Int) := by
    rw [← Int.natCast_mul]; exact wrap_i64 (by omega) (by omega)
  have w6 : IntKind.i64.wrap ((B : Int) + ((k * h : Nat) : Int)) = ((B + k * h : Nat) : Int) := by
    rw [wrap_i64 (by omega) (by omega)]; omega
  simp -implicitDefEqProofs only [go_sem, w5, w6]
  refine at_call tFRead (rdS' (i := 2) (a := 3) (b := 4) (c := 5) (d := d) (by rfl) (by rfl) (by rfl) (by rfl) (by decide) hd) ?_
  rw [rdV_at (k := (B + k * h : Nat)) ho (by omega) (by omega)]
  have hsz : (secT d (B + k * h : Nat)).size = 64 := secT_size hd (by omega) (by omega)
  generalize secT d (B + k * h : Nat) = s at hhd hsz
  obtain ⟨e1, e2, n1, nz, n2, k0, k1⟩ := hhd
  simp -implicitDefEqProofs only [go_sem]
  refine at_call tPRead (preadS (s := s) (by decide)) ?_
  simp -implicitDefEqProofs only [go_sem]
  have f1 := rd_at (s := s) (k := 0) (w := 8) (by omega)
  have f2 := rd_at (s := s) (k := 8) (w := 4) (by omega)
  have f3 := rd_at (s := s) (k := 12) (w := 8) (by omega)
  rw [ext_all] at f1
  refine at_call tREight (eightSp (i := 7) (s := s) (e := 0) (by rfl) (by decide)) ?_
  rw [e1, f1.1, f1.2.1, f1.2.2]
  simp -implicitDefEqProofs only [go_sem]
  refine at_call tRFour (fourS (i := 7) (s := s.extract 8 s.size) (e := 0) (by rfl) (by decide)) ?_
  rw [f2.1, f2.2.1, f2.2.2]
  simp -implicitDefEqProofs only [go_sem]
  refine at_call tREight (eightSp (i := 7) (s := s.extract 12 s.size) (e := 0) (by rfl) (by decide)) ?_
  rw [e2, f3.1, f3.2.1, f3.2.2]
  rw [show 12 + 8 = 20 from rfl, n1, n2, nz]
  have a1 : decide ((r : Int) = 0) = false := decide_eq_false (by omega)
  have a2 : decide ((r : Int) = 9223372036854775807) = false := decide_eq_false (by omega)
  simp -implicitDefEqProofs only [go_sem, a1, a2]
  refine in_call mixT tCroom ?_
  unfold mCroom
  simp -implicitDefEqProofs only [↓fnVC, initTm]
  have w1 : IntKind.i64.wrap ((h : Int) - 1) = ((h - 1 : Nat) : Int) := by rw [wrap_i64 (by omega) (by omega)]; omega
  have w2 : IntKind.i64.wrap (64 * ((h - 1 : Nat) : Int)) = ((64 * (h - 1) : Nat) : Int) := by rw [wrap_i64 (by omega) (by omega)]; omega
  have a3 : decide (((encB es).size : Int) > ((64 * (h - 1) : Nat) : Int)) = false := decide_eq_false (by omega)
  simp -implicitDefEqProofs only [go_sem, w1, w2, a3]
  have a4 : decide ((1 : Int) < (h : Int)) = true := decide_eq_true (by omega)
  have w7 : IntKind.i64.wrap (((B + k * h : Nat) : Int) + 1) = ((B + k * h : Nat) : Int) + 1 + (0 : Nat) := by rw [wrap_i64 (by omega) (by omega)]; omega
  have w3 : IntKind.i64.wrap (1 + 1) = 2 := rfl
  refine loop_roll 1 ?_
  rw [LoopU_succ]
  simp -implicitDefEqProofs only [go_sem, a4]
  refine in_call mixT tCfirst ?_
  unfold mCfirst
  simp -implicitDefEqProofs only [↓fnVC, initTm]
  simp -implicitDefEqProofs only [go_sem, w5, w6, w7]
  generalize hat : B + k * h = at_ at *
  refine at_call tFRead (rdS' (i := 2) (a := 3) (b := 4) (c := 5) (d := d) (by rfl) (by rfl) (by rfl) (by rfl) (by decide) hd) ?_
  rw [rdV_at (k := (at_ : Int) + 1 + (0 : Nat)) ho (by omega) (by omega)]
  have s0 : (secT d ((at_ : Int) + 1 + (0 : Nat))).size = 64 := secT_size hd (by omega) (by omega)
  simp -implicitDefEqProofs only [go_sem, s0]
  refine in_call mixT tBWriteString ?_
  unfold mBWriteString
  simp -implicitDefEqProofs only [↓fnVC, initTm]
  simp -implicitDefEqProofs only [go_sem]
  refine at_ext (enters_mk Tryz.func111 rfl rfl) (ckF (i := 8) (j := 9) (by rfl) (by rfl) rfl) ?_
  simp -implicitDefEqProofs only [go_sem, s0]
  refine ⟨fun h => absurd rfl h, ?_⟩
  simp -implicitDefEqProofs only [go_sem, w3]
  refine loopU_fam (fun (j : Nat) => 2 ≤ j ∧ j ≤ h)
    (fun j => ⟨[(0, .ptr 1 0), (1, .v (.int .i64 k)), (10, .v (.int .i64 r)), (11, .v (.int .i64 (encB es).size)), (13, .ptr 8 0), (14, .v (.int .i64 j))], ⟨[(1, some ⟨false, opB B h nu la 2 6⟩), (2, some ⟨false, devB d 3 4 5⟩), (3, some ⟨false, secB d.seen⟩), (4, some ⟨false, secB d.safe⟩), (5, some ⟨false, .pl (prow d.pend)⟩), (6, some ⟨false, .mp (.map we)⟩), (8, some ⟨true, .sv [.ptr 8 0, .sl 10 0 (imgT at_ d (j - 1)).size 1]⟩), (10, some ⟨true, .ints .u8 (bts (imgT at_ d (j - 1)))⟩), (11, some ⟨false, .mp (.shp 10 5 none)⟩)], x⟩, 12⟩)
    (fun j => h - j) 2 ⟨Nat.le_refl _, by omega⟩ ?_ ?_
  · refine sub_mk [] rfl rfl rfl ?_
    simp only [tmSub, hpSub, objSub, eqTm, eqHp, rn, lk, SV.ren, SV.renC, SV.renB, SV.renA, ren_ints, ren_strs, ren_pl, ren_svs, SV.v.injEq, Value.int.injEq, Body.ints.injEq, SV.ptr.injEq, SV.sl.injEq, List.map_cons, List.map_nil, forall_const, Nat.reduceLT, imp_self, true_and, and_true, and_self, ob_some, get_mk, lk_cons, ↓reduceIte, Nat.reduceEqDiff, Nat.reduceAdd, false_implies, implies_true, reduceCtorEq, opB, devB]
    have g1 : imgT at_ d (2 - 1) = secT d ((at_ : Int) + 1 + (0 : Nat)) := by show (⟨#[]⟩ : ByteArray) ++ _ = _; exact ba_nil
    rw [g1, s0]
    exact ⟨rfl, rfl, rfl, rfl, rfl, rfl, rfl⟩
  · intro j hj
    unfold opB devB
    simp -implicitDefEqProofs only [go_sem]
    refine condK_bb (fun c => ?_) (fun c => ?_)
    · have c1 : j < h := by have := of_decide_eq_true c; omega
      have w8 : IntKind.i64.wrap ((j : Int) + 1) = ((j + 1 : Nat) : Int) := by rw [wrap_i64 (by omega) (by omega)]; omega
      have w9 : IntKind.i64.wrap ((at_ : Int) + (j : Int)) = (at_ : Int) + 1 + ((j - 1 : Nat) : Int) := by rw [wrap_i64 (by omega) (by omega)]; omega
      simp -implicitDefEqProofs only [go_sem, c]
      refine in_call mixT tCfirst ?_
      unfold mCfirst
      simp -implicitDefEqProofs only [↓fnVC, initTm]
      rw [← hat] at w9 w6
      simp -implicitDefEqProofs only [go_sem, w5, w6, w9]
      rw [hat]
      refine at_call tFRead (rdS' (i := 2) (a := 3) (b := 4) (c := 5) (d := d) (by rfl) (by rfl) (by rfl) (by rfl) (by decide) hd) ?_
      rw [rdV_at (k := (at_ : Int) + 1 + ((j - 1 : Nat) : Int)) ho (by omega) (by omega)]
      have s0 : (secT d ((at_ : Int) + 1 + ((j - 1 : Nat) : Int))).size = 64 := secT_size hd (by omega) (by omega)
      simp -implicitDefEqProofs only [go_sem]
      refine in_call mixT tBWriteString ?_
      unfold mBWriteString
      simp -implicitDefEqProofs only [↓fnVC, initTm]
      simp -implicitDefEqProofs only [go_sem]
      refine at_ext (enters_mk Tryz.func111 rfl rfl) (ckU (i := 8) (by rfl) rfl) ?_
      simp -implicitDefEqProofs only [go_sem]
      have sj : (imgT at_ d (j - 1)).size = 64 * (j - 1) := imgT_size hd (by omega) (by omega)
      refine ⟨by omega, fun _ => ⟨rfl, 11, ⟨false, .mp (.shp 10 5 none)⟩, rfl, rfl⟩, by rw [bts_len]; exact Nat.le_refl _, ?_⟩
      refine kLoop_mk (j + 1) (by omega) (by omega) ?_
      refine sub_mk [(10, 12), (11, 13)] rfl rfl rfl ?_
      simp only [tmSub, hpSub, objSub, eqTm, eqHp, rn, lk, SV.ren, SV.renC, SV.renB, SV.renA, ren_ints, ren_strs, ren_pl, ren_svs, SV.v.injEq, Value.int.injEq, Body.ints.injEq, SV.ptr.injEq, SV.sl.injEq, List.map_cons, List.map_nil, forall_const, Nat.reduceLT, imp_self, true_and, and_true, and_self, ob_some, get_mk, lk_cons, ↓reduceIte, Nat.reduceEqDiff, Nat.reduceAdd, false_implies, implies_true, reduceCtorEq, opB, devB]
      obtain ⟨q, hq⟩ : ∃ q, j = q + 1 := ⟨j - 1, by omega⟩
      subst hq
      rw [show q + 1 + 1 - 1 = q + 1 from rfl, show q + 1 - 1 = q from rfl, show imgT at_ d (q + 1) = imgT at_ d q ++ secT d (at_ + 1 + q) from rfl, ByteArray.size_append, bts_app, List.take_of_length_le (by rw [bts_len]; exact Nat.le_refl _)]
      exact ⟨w8, rfl, rfl, rfl, rfl, rfl, rfl⟩
    · have c1 : j = h := by have := of_decide_eq_false c; omega
      subst c1
      have sj : (imgT at_ d (j - 1)).size = 64 * (j - 1) := imgT_size hd (by omega) (by omega)
      simp -implicitDefEqProofs only [go_sem, c]
      refine at_ext (enters_mk Tryz.func80 rfl rfl) (strS (i := 8) (r := 10) (q := 11) (k := (imgT at_ d (j - 1)).size) (bs := bts (imgT at_ d (j - 1))) (by rfl) rfl (by rfl) (by rw [bts_len]) (by omega) (by omega) (by rfl) rfl bts_bytes) ?_
      rw [tx_bts]
      simp -implicitDefEqProofs only [go_sem]
      refine ⟨⟨by omega, by omega⟩, ?_⟩
      rw [himg]
      refine at_call tcread (readS hE (by decide)) ?_
      simp -implicitDefEqProofs only [go_sem]
      refine sub_mk [(7, 12)] rfl rfl rfl ?_
      simp only [tmSub, hpSub, objSub, eqTm, eqHp, rn, lk, SV.ren, SV.renC, SV.renB, SV.renA, ren_ints, ren_strs, ren_pl, ren_svs, SV.v.injEq, Value.int.injEq, Body.ints.injEq, SV.ptr.injEq, SV.sl.injEq, List.map_cons, List.map_nil, forall_const, Nat.reduceLT, imp_self, true_and, and_true, and_self, ob_some, get_mk, lk_cons, ↓reduceIte, Nat.reduceEqDiff, Nat.reduceAdd, false_implies, implies_true, reduceCtorEq]
      rfl
structure OpAt (H : Hp) (B h nu la : Nat) (we : List (Value × Value)) (d : Fd) (i D a b c W : Nat) : Prop where
  cell : ∃ u, H.get i = some ⟨u, opB B h nu la D W⟩
  dev : ∃ u, H.get D = some ⟨u, devB d a b c⟩
  seen : ∃ u, H.get a = some ⟨u, secB d.seen⟩
  safe : ∃ u, H.get b = some ⟨u, secB d.safe⟩
  pend : ∃ u, H.get c = some ⟨u, .pl (prow d.pend)⟩
  was : ∃ u, H.get W = some ⟨u, .mp (.map we)⟩
  ne : 0 < i ∧ 0 < D ∧ 0 < a ∧ 0 < b ∧ 0 < c ∧ 0 < W
theorem copiedNS {B h nu la k D W : Nat} {we : List (Value × Value)} (hO : OpAt H B h nu la we d i D a b c W) (hB : B ≤ 4096) (hh : 2 ≤ h ∧ h ≤ 129) (hk : k ≤ 1) (hd : d.ok) (ho : d.off = false) (hl : B + k * h + h ≤ d.seen.length) (hN : NoHd (secT d (B + k * h : Nat))) :
    SpecAt Tryz.prog nCcopied [.ptr i 0, .v (.int .i64 k)] H n (.tup [.v (.int .i64 0), .v (.map none), .v (.bool false)]) H n := by
  obtain ⟨⟨u1, h1⟩, ⟨u2, h2⟩, ⟨u3, h3⟩, ⟨u4, h4⟩, ⟨u5, h5⟩, ⟨u6, h6⟩, p1, p2, p3, p4, p5, p6⟩ := hO
  have := lift_ro (n := n) (okT.spec tCcopied (copiedN (x := H.x) (nu := nu) (la := la) (we := we) hB hh hk hd ho hl hN)) [(1, i), (2, D), (3, a), (4, b), (5, c), (6, W)] rfl rfl rfl (by omega) rfl rfl
    ⟨sub_ro rfl p1 h1 rfl, sub_ro rfl p2 h2 rfl, sub_ro rfl p3 h3 rfl, sub_ro rfl p4 h4 rfl, sub_ro rfl p5 h5 rfl, sub_ro rfl p6 h6 rfl, trivial⟩ (by simp [opH, apartB, apart1, rn, lk]) (by simp [opH, wrNZ, rn, lk]) rfl
  exact this
theorem copiedCS {B h nu la k r D W : Nat} {es we : List (Value × Value)} (hO : OpAt H B h nu la we d i D a b c W) (hB : B ≤ 4096) (hh : 2 ≤ h ∧ h ≤ 129) (hk : k ≤ 1) (hd : d.ok) (ho : d.off = false) (hl : B + k * h + h ≤ d.seen.length) (hC : Cp d (B + k * h) h r es) (hn : n + 1 ≤ 1000) :
    SpecAt Tryz.prog nCcopied [.ptr i 0, .v (.int .i64 k)] H n (.tup [.v (.int .i64 r), .mp n, .v (.bool true)]) ⟨(n, some ⟨true, .mp (.map (srtE es))⟩) :: H.l, H.x⟩ (n + 1) := by
  obtain ⟨⟨u1, h1⟩, ⟨u2, h2⟩, ⟨u3, h3⟩, ⟨u4, h4⟩, ⟨u5, h5⟩, ⟨u6, h6⟩, p1, p2, p3, p4, p5, p6⟩ := hO
  have := lift (n := n) (okT.spec tCcopied (copiedC (x := H.x) (nu := nu) (la := la) (we := we) hB hh hk hd ho hl hC)) [(1, i), (2, D), (3, a), (4, b), (5, c), (6, W)] rfl rfl rfl (by omega) rfl rfl
    ⟨sub_ro rfl p1 h1 rfl, sub_ro rfl p2 h2 rfl, sub_ro rfl p3 h3 rfl, sub_ro rfl p4 h4 rfl, sub_ro rfl p5 h5 rfl, sub_ro rfl p6 h6 rfl, trivial⟩ (by simp [opH, apartB, apart1, rn, lk]) (by simp [opH, wrNZ, rn, lk]) (by omega)
  exact this
end
section
/- Cells: Open. -/
set_option linter.unusedVariables false
set_option linter.unusedSimpArgs false
set_option maxRecDepth 100000
open Go.Proofs
variable {H : Hp} {n : Nat} {x : Nat → Option SO} {d d' : Fd} {i a b c : Nat} {u1 u2 u3 : Bool}
def CpO (d : Fd) (at_ h r : Nat) (es : List (Value × Value)) : Prop := (r = 0 ∧ NoHd (secT d at_)) ∨ Cp d at_ h r es
def opN (r0 r1 : Nat) : Nat := if r0 < r1 then r1 else r0
def opE (r0 r1 : Nat) (e0 e1 : List (Value × Value)) : List (Value × Value) := if r0 < r1 then srtE e1 else if 0 < r0 then srtE e0 else []
def opL (r0 r1 : Nat) : Nat := if r0 < r1 then 1 else if 0 < r0 then 0 else 1
def opC (B h r0 r1 : Nat) (e0 e1 : List (Value × Value)) : Ce := ⟨B, h, opN r0 r1, opL r0 r1, false, opE r0 r1 e0 e1, opE r0 r1 e0 e1⟩
def nwH (C : Ce) (d : Fd) (x : Nat → Option SO) : Hp := ⟨[(5, some ⟨true, cellB C 1 6 7⟩), (6, some ⟨true, .mp (.map C.now)⟩), (7, some ⟨true, .mp (.map C.was)⟩)], x⟩
theorem one_mp {i : Nat} : (SV.mp i).one = true := rfl
theorem pc_mp {i : Nat} : (partCells (.mp i)).length = 1 := rfl
theorem pc_mp' {i : Nat} : partCells (.mp i) = [.mp i] := rfl
theorem sp8_0 {a0 a1 a2 a3 a4 a5 a6 a7 v : SV} : splice [a0, a1, a2, a3, a4, a5, a6, a7] 0 [v] = [v, a1, a2, a3, a4, a5, a6, a7] := rfl
theorem sp8_1 {a0 a1 a2 a3 a4 a5 a6 a7 v : SV} : splice [a0, a1, a2, a3, a4, a5, a6, a7] 1 [v] = [a0, v, a2, a3, a4, a5, a6, a7] := rfl
theorem sp8_2 {a0 a1 a2 a3 a4 a5 a6 a7 v : SV} : splice [a0, a1, a2, a3, a4, a5, a6, a7] 2 [v] = [a0, a1, v, a3, a4, a5, a6, a7] := rfl
theorem sp8_3 {a0 a1 a2 a3 a4 a5 a6 a7 v : SV} : splice [a0, a1, a2, a3, a4, a5, a6, a7] 3 [v] = [a0, a1, a2, v, a4, a5, a6, a7] := rfl
theorem sp8_4 {a0 a1 a2 a3 a4 a5 a6 a7 v : SV} : splice [a0, a1, a2, a3, a4, a5, a6, a7] 4 [v] = [a0, a1, a2, a3, v, a5, a6, a7] := rfl
theorem sp8_5 {a0 a1 a2 a3 a4 a5 a6 a7 v : SV} : splice [a0, a1, a2, a3, a4, a5, a6, a7] 5 [v] = [a0, a1, a2, a3, a4, v, a6, a7] := rfl
theorem sp8_6 {a0 a1 a2 a3 a4 a5 a6 a7 v : SV} : splice [a0, a1, a2, a3, a4, a5, a6, a7] 6 [v] = [a0, a1, a2, a3, a4, a5, v, a7] := rfl
theorem sp8_7 {a0 a1 a2 a3 a4 a5 a6 a7 v : SV} : splice [a0, a1, a2, a3, a4, a5, a6, a7] 7 [v] = [a0, a1, a2, a3, a4, a5, a6, v] := rfl
set_option maxHeartbeats 2000000 in
theorem openW {B h r0 r1 : Nat} {e0 e1 : List (Value × Value)} (hB : B ≤ 4096) (hh : 2 ≤ h ∧ h ≤ 129) (hd : d.ok) (ho : d.off = false) (hl : B + 2 * h ≤ d.seen.length) (h0 : CpO d B h r0 e0) (h1 : CpO d (B + h) h r1 e1) :
    fnVC CT mCOpen [.ptr 1 0, .v (.int .i64 B), .v (.int .i64 h)] (hp3s d x) 5 fun v H' n' => Sub 5 ⟨[(0, .tup [.ptr 5 0, .v (.int .i64 0)])], nwH (opC B h r0 r1 e0 e1) d x, 8⟩ ⟨[(0, v)], H', n'⟩ := by
  have hsn := hd.most
  obtain ⟨hh1, hh2⟩ := hh
  unfold mCOpen hp3s devB
  simp -implicitDefEqProofs only [↓fnVC, initTm]
  simp -implicitDefEqProofs only [go_sem]
  refine in_call mixT tFSectors ?_
  unfold mFSectors
  simp -implicitDefEqProofs only [↓fnVC, initTm]
  have a1 : decide ((B : Int) < 0) = false := decide_eq_false (by omega)
  have a2 : decide ((h : Int) < 2) = false := decide_eq_false (by omega)
  have a3 : decide ((B : Int) > (d.seen.length : Int)) = false := decide_eq_false (by omega)
  have w1 : IntKind.i64.wrap ((d.seen.length : Int) - (B : Int)) = ((d.seen.length - B : Nat) : Int) := by rw [wrap_i64 (by omega) (by omega)]; omega
  simp -implicitDefEqProofs only [go_sem, a1, a2, a3, w1]
  have e4 : ((d.seen.length - B : Nat) : Int).tdiv 2 = (((d.seen.length - B) / 2 : Nat) : Int) := rfl
  have w2 : IntKind.i64.wrap (((d.seen.length - B : Nat) : Int).tdiv 2) = (((d.seen.length - B) / 2 : Nat) : Int) := by rw [e4, wrap_i64 (by omega) (by omega)]
  have a4 : decide ((h : Int) > (((d.seen.length - B) / 2 : Nat) : Int)) = false := decide_eq_false (by omega)
  simp -implicitDefEqProofs only [go_sem, w2, a4]
  refine in_call mixT tFOff ?_
  unfold mFOff
  simp -implicitDefEqProofs only [↓fnVC, initTm]
  simp -implicitDefEqProofs only [go_sem]
  refine condK_bb (fun c => by rw [ho] at c; cases c) (fun c => ?_)
  simp -implicitDefEqProofs only [go_sem, pc_mp, pc_mp', if_true, Option.bind_some, Option.bind_none, sp8_0, sp8_1, sp8_2, sp8_3, sp8_4, sp8_5, sp8_6, sp8_7]
  have k1w : IntKind.i64.wrap (0 + 1) = 1 := rfl
  have k1b : IntKind.i64.wrap (1 + 1) = 2 := rfl
  refine loop_roll 3 ?_
  rw [LoopU_succ]
  simp -implicitDefEqProofs only [go_sem]
  rcases h0 with ⟨z0, hN0⟩ | hC0
  · subst z0
    refine at_call tCcopied (copiedNS (i := 6) (D := 1) (a := 2) (b := 3) (c := 4) (k := 0) (B := B) (h := h) (nu := 0) (la := 1) (W := 5) (we := []) (d := d) ⟨⟨_, by rfl⟩, ⟨_, by rfl⟩, ⟨_, by rfl⟩, ⟨_, by rfl⟩, ⟨_, by rfl⟩, ⟨_, by rfl⟩, by decide⟩ hB ⟨hh1, hh2⟩ (by decide) hd ho (by omega) (by rw [Nat.zero_mul]; exact hN0)) ?_
    simp -implicitDefEqProofs only [go_sem, k1w]
    rw [LoopU_succ]
    simp -implicitDefEqProofs only [go_sem]
    rcases h1 with ⟨z1, hN1⟩ | hC1
    · subst z1
      refine at_call tCcopied (copiedNS (i := 6) (D := 1) (a := 2) (b := 3) (c := 4) (k := 1) (B := B) (h := h) (nu := 0) (la := 1) (W := 5) (we := []) (d := d) ⟨⟨_, by rfl⟩, ⟨_, by rfl⟩, ⟨_, by rfl⟩, ⟨_, by rfl⟩, ⟨_, by rfl⟩, ⟨_, by rfl⟩, by decide⟩ hB ⟨hh1, hh2⟩ (by decide) hd ho (by omega) (by rw [Nat.one_mul]; exact hN1)) ?_
      simp -implicitDefEqProofs only [go_sem, k1b]
      rw [LoopU_succ]
      simp -implicitDefEqProofs only [go_sem]
      refine in_call mixT tCUndo ?_
      unfold mCUndo
      simp -implicitDefEqProofs only [↓fnVC, initTm]
      simp -implicitDefEqProofs only [go_sem]
      refine at_ext (enters_mk Tryz.func49 rfl rfl) (cloneT (i := 5) (by rfl) rfl (by decide)) ?_
      simp -implicitDefEqProofs only [go_sem, sp8_0, sp8_1, sp8_2, sp8_3, sp8_4, sp8_5, sp8_6, sp8_7, one_mp, true_and]
      rw [show opC B h 0 0 e0 e1 = ⟨B, h, 0, 1, false, [], []⟩ from rfl]
      unfold nwH cellB
      refine sub_mk [(5, 6), (6, 7), (7, 5)] rfl rfl rfl ?_
      simp only [tmSub, hpSub, objSub, eqTm, eqHp, rn, lk, SV.ren, SV.renC, SV.renB, SV.renA, ren_ints, ren_strs, ren_pl, ren_svs, List.map_cons, List.map_nil, forall_const, Nat.reduceLT, true_and, and_true, ob_some, get_mk, lk_cons, ↓reduceIte, Nat.reduceEqDiff, Nat.reduceAdd, implies_true, reduceCtorEq]
      repeat' (first | rfl | apply And.intro)
    · have k1 := hC1.hd.k0
      have k2 := hC1.hd.k1
      have b1 : decide ((r1 : Int) > 0) = true := decide_eq_true (by omega)
      refine at_call tCcopied (copiedCS (i := 6) (D := 1) (a := 2) (b := 3) (c := 4) (k := 1) (B := B) (h := h) (nu := 0) (la := 1) (W := 5) (we := []) (d := d) ⟨⟨_, by rfl⟩, ⟨_, by rfl⟩, ⟨_, by rfl⟩, ⟨_, by rfl⟩, ⟨_, by rfl⟩, ⟨_, by rfl⟩, by decide⟩ hB ⟨hh1, hh2⟩ (by decide) hd ho (by omega) (by rw [Nat.one_mul]; exact hC1) (by decide)) ?_
      simp -implicitDefEqProofs only [go_sem, b1, k1b, sp8_0, sp8_1, sp8_2, sp8_3, sp8_4, sp8_5, sp8_6, sp8_7, one_mp, true_and]
      simp -implicitDefEqProofs only [go_sem, k1b]
      rw [LoopU_succ]
      simp -implicitDefEqProofs only [go_sem]
      refine in_call mixT tCUndo ?_
      unfold mCUndo
      simp -implicitDefEqProofs only [↓fnVC, initTm]
      simp -implicitDefEqProofs only [go_sem]
      refine at_ext (enters_mk Tryz.func49 rfl rfl) (cloneT (i := 7) (by rfl) rfl (by decide)) ?_
      simp -implicitDefEqProofs only [go_sem, sp8_0, sp8_1, sp8_2, sp8_3, sp8_4, sp8_5, sp8_6, sp8_7, one_mp, true_and]
      rw [show opC B h 0 r1 e0 e1 = ⟨B, h, r1, 1, false, srtE e1, srtE e1⟩ by unfold opC opN opL opE; rw [if_pos k1, if_pos k1, if_pos k1]]
      unfold nwH cellB
      refine sub_mk [(5, 6), (6, 8), (7, 7)] rfl rfl rfl ?_
      simp only [tmSub, hpSub, objSub, eqTm, eqHp, rn, lk, SV.ren, SV.renC, SV.renB, SV.renA, ren_ints, ren_strs, ren_pl, ren_svs, List.map_cons, List.map_nil, forall_const, Nat.reduceLT, true_and, and_true, ob_some, get_mk, lk_cons, ↓reduceIte, Nat.reduceEqDiff, Nat.reduceAdd, implies_true, reduceCtorEq]
      repeat' (first | rfl | apply And.intro)
  · have k1 := hC0.hd.k0
    have k2 := hC0.hd.k1
    have b0 : decide ((r0 : Int) > 0) = true := decide_eq_true (by omega)
    refine at_call tCcopied (copiedCS (i := 6) (D := 1) (a := 2) (b := 3) (c := 4) (k := 0) (B := B) (h := h) (nu := 0) (la := 1) (W := 5) (we := []) (d := d) ⟨⟨_, by rfl⟩, ⟨_, by rfl⟩, ⟨_, by rfl⟩, ⟨_, by rfl⟩, ⟨_, by rfl⟩, ⟨_, by rfl⟩, by decide⟩ hB ⟨hh1, hh2⟩ (by decide) hd ho (by omega) (by rw [Nat.zero_mul]; exact hC0) (by decide)) ?_
    simp -implicitDefEqProofs only [go_sem, b0, k1w, sp8_0, sp8_1, sp8_2, sp8_3, sp8_4, sp8_5, sp8_6, sp8_7, one_mp, true_and]
    rw [LoopU_succ]
    simp -implicitDefEqProofs only [go_sem]
    rcases h1 with ⟨z1, hN1⟩ | hC1
    · subst z1
      refine at_call tCcopied (copiedNS (i := 6) (D := 1) (a := 2) (b := 3) (c := 4) (k := 1) (B := B) (h := h) (nu := r0) (la := 0) (W := 7) (we := (srtE e0)) (d := d) ⟨⟨_, by rfl⟩, ⟨_, by rfl⟩, ⟨_, by rfl⟩, ⟨_, by rfl⟩, ⟨_, by rfl⟩, ⟨_, by rfl⟩, by decide⟩ hB ⟨hh1, hh2⟩ (by decide) hd ho (by omega) (by rw [Nat.one_mul]; exact hN1)) ?_
      simp -implicitDefEqProofs only [go_sem, k1b]
      rw [LoopU_succ]
      simp -implicitDefEqProofs only [go_sem]
      refine in_call mixT tCUndo ?_
      unfold mCUndo
      simp -implicitDefEqProofs only [↓fnVC, initTm]
      simp -implicitDefEqProofs only [go_sem]
      refine at_ext (enters_mk Tryz.func49 rfl rfl) (cloneT (i := 7) (by rfl) rfl (by decide)) ?_
      simp -implicitDefEqProofs only [go_sem, sp8_0, sp8_1, sp8_2, sp8_3, sp8_4, sp8_5, sp8_6, sp8_7, one_mp, true_and]
      rw [show opC B h r0 0 e0 e1 = ⟨B, h, r0, 0, false, srtE e0, srtE e0⟩ by unfold opC opN opL opE; rw [if_neg (Nat.not_lt_zero _), if_neg (Nat.not_lt_zero _), if_neg (Nat.not_lt_zero _), if_pos k1, if_pos k1]]
      unfold nwH cellB
      refine sub_mk [(5, 6), (6, 8), (7, 7)] rfl rfl rfl ?_
      simp only [tmSub, hpSub, objSub, eqTm, eqHp, rn, lk, SV.ren, SV.renC, SV.renB, SV.renA, ren_ints, ren_strs, ren_pl, ren_svs, List.map_cons, List.map_nil, forall_const, Nat.reduceLT, true_and, and_true, ob_some, get_mk, lk_cons, ↓reduceIte, Nat.reduceEqDiff, Nat.reduceAdd, implies_true, reduceCtorEq]
      repeat' (first | rfl | apply And.intro)
    · have q1 := hC1.hd.k0
      have q2 := hC1.hd.k1
      refine at_call tCcopied (copiedCS (i := 6) (D := 1) (a := 2) (b := 3) (c := 4) (k := 1) (B := B) (h := h) (nu := r0) (la := 0) (W := 7) (we := (srtE e0)) (d := d) ⟨⟨_, by rfl⟩, ⟨_, by rfl⟩, ⟨_, by rfl⟩, ⟨_, by rfl⟩, ⟨_, by rfl⟩, ⟨_, by rfl⟩, by decide⟩ hB ⟨hh1, hh2⟩ (by decide) hd ho (by omega) (by rw [Nat.one_mul]; exact hC1) (by decide)) ?_
      by_cases hc : r0 < r1
      · have b1 : decide ((r1 : Int) > (r0 : Int)) = true := decide_eq_true (by omega)
        simp -implicitDefEqProofs only [go_sem, b1, k1b, sp8_0, sp8_1, sp8_2, sp8_3, sp8_4, sp8_5, sp8_6, sp8_7, one_mp, true_and]
        simp -implicitDefEqProofs only [go_sem, k1b]
        rw [LoopU_succ]
        simp -implicitDefEqProofs only [go_sem]
        refine in_call mixT tCUndo ?_
        unfold mCUndo
        simp -implicitDefEqProofs only [↓fnVC, initTm]
        simp -implicitDefEqProofs only [go_sem]
        refine at_ext (enters_mk Tryz.func49 rfl rfl) (cloneT (i := 8) (by rfl) rfl (by decide)) ?_
        simp -implicitDefEqProofs only [go_sem, sp8_0, sp8_1, sp8_2, sp8_3, sp8_4, sp8_5, sp8_6, sp8_7, one_mp, true_and]
        rw [show opC B h r0 r1 e0 e1 = ⟨B, h, r1, 1, false, srtE e1, srtE e1⟩ by unfold opC opN opL opE; rw [if_pos hc, if_pos hc, if_pos hc]]
        unfold nwH cellB
        refine sub_mk [(5, 6), (6, 9), (7, 8)] rfl rfl rfl ?_
        simp only [tmSub, hpSub, objSub, eqTm, eqHp, rn, lk, SV.ren, SV.renC, SV.renB, SV.renA, ren_ints, ren_strs, ren_pl, ren_svs, List.map_cons, List.map_nil, forall_const, Nat.reduceLT, true_and, and_true, ob_some, get_mk, lk_cons, ↓reduceIte, Nat.reduceEqDiff, Nat.reduceAdd, implies_true, reduceCtorEq]
        repeat' (first | rfl | apply And.intro)
      · have b1 : decide ((r1 : Int) > (r0 : Int)) = false := decide_eq_false (by omega)
        simp -implicitDefEqProofs only [go_sem, b1, k1b, sp8_0, sp8_1, sp8_2, sp8_3, sp8_4, sp8_5, sp8_6, sp8_7, one_mp, true_and]
        simp -implicitDefEqProofs only [go_sem, k1b]
        rw [LoopU_succ]
        simp -implicitDefEqProofs only [go_sem]
        refine in_call mixT tCUndo ?_
        unfold mCUndo
        simp -implicitDefEqProofs only [↓fnVC, initTm]
        simp -implicitDefEqProofs only [go_sem]
        refine at_ext (enters_mk Tryz.func49 rfl rfl) (cloneT (i := 7) (by rfl) rfl (by decide)) ?_
        simp -implicitDefEqProofs only [go_sem, sp8_0, sp8_1, sp8_2, sp8_3, sp8_4, sp8_5, sp8_6, sp8_7, one_mp, true_and]
        rw [show opC B h r0 r1 e0 e1 = ⟨B, h, r0, 0, false, srtE e0, srtE e0⟩ by unfold opC opN opL opE; rw [if_neg hc, if_neg hc, if_neg hc, if_pos k1, if_pos k1]]
        unfold nwH cellB
        refine sub_mk [(5, 6), (6, 9), (7, 7)] rfl rfl rfl ?_
        simp only [tmSub, hpSub, objSub, eqTm, eqHp, rn, lk, SV.ren, SV.renC, SV.renB, SV.renA, ren_ints, ren_strs, ren_pl, ren_svs, List.map_cons, List.map_nil, forall_const, Nat.reduceLT, true_and, and_true, ob_some, get_mk, lk_cons, ↓reduceIte, Nat.reduceEqDiff, Nat.reduceAdd, implies_true, reduceCtorEq]
        repeat' (first | rfl | apply And.intro)
theorem openS {B h r0 r1 : Nat} {e0 e1 : List (Value × Value)} (hD : DevAt H d i a b c) (hB : B ≤ 4096) (hh : 2 ≤ h ∧ h ≤ 129) (hd : d.ok) (ho : d.off = false) (hl : B + 2 * h ≤ d.seen.length) (h0 : CpO d B h r0 e0) (h1 : CpO d (B + h) h r1 e1) (hn : n + 3 ≤ 1000) :
    SpecAt Tryz.prog nCOpen [.ptr i 0, .v (.int .i64 B), .v (.int .i64 h)] H n (.tup [.ptr n 0, .v (.int .i64 0)]) ⟨(n, some ⟨true, cellB (opC B h r0 r1 e0 e1) i (n + 1) (n + 2)⟩) :: (n + 1, some ⟨true, .mp (.map (opE r0 r1 e0 e1))⟩) :: (n + 2, some ⟨true, .mp (.map (opE r0 r1 e0 e1))⟩) :: H.l, H.x⟩ (n + 3) := by
  obtain ⟨hi, ha, hb', hc, ⟨p1, p2, p3, p4⟩, ⟨q1, q2, q3, q4⟩, n1, n2, n3, n4, n5, n6⟩ := hD
  have := lift (n := n) (okT.spec tCOpen (openW (x := H.x) hB hh hd ho hl h0 h1)) [(1, i), (2, a), (3, b), (4, c)] rfl rfl rfl (by omega) rfl rfl
    ⟨sub_ro rfl p1 hi rfl, sub_ro rfl p2 ha rfl, sub_ro rfl p3 hb' rfl, sub_ro rfl p4 hc rfl, trivial⟩ (by simp [hp3s, apartB, apart1, rn, lk]) (by simp [hp3s, wrNZ, rn, lk]) (by omega)
  exact this
def noReg (len : Nat) (B h : Int) : Prop := B < 0 ∨ h < 2 ∨ (len : Int) < B ∨ ((len : Int) - B).tdiv 2 < h
theorem openE {B h : Int} (hD : DevAt H d i a b c) (hd : d.ok) (hN : noReg d.seen.length B h) : SpecAt Tryz.prog nCOpen [.ptr i 0, .v (.int .i64 B), .v (.int .i64 h)] H n (.tup [.v (.pointer none), .v (.int .i64 1)]) H n := by
  obtain ⟨hi, ha, hb', hc, ⟨p1, p2, p3, p4⟩, ⟨q1, q2, q3, q4⟩, n1, n2, n3, n4, n5, n6⟩ := hD
  have hsn := hd.most
  refine okT.pure tCOpen (?_)
  unfold mCOpen
  unfold devB at hi
  simp -implicitDefEqProofs only [↓fnVC, initTm]
  simp -implicitDefEqProofs only [go_sem]
  refine in_call mixT tFSectors ?_
  unfold mFSectors
  simp -implicitDefEqProofs only [↓fnVC, initTm]
  simp -implicitDefEqProofs only [go_sem, hi]
  by_cases c1 : B < 0
  · have a1 : decide (B < 0) = true := decide_eq_true c1
    simp -implicitDefEqProofs only [go_sem, a1]
  have a1 : decide (B < 0) = false := decide_eq_false c1
  by_cases c2 : h < 2
  · have a2 : decide (h < 2) = true := decide_eq_true c2
    simp -implicitDefEqProofs only [go_sem, a1, a2]
  have a2 : decide (h < 2) = false := decide_eq_false c2
  by_cases c3 : (d.seen.length : Int) < B
  · have a3 : decide (B > (d.seen.length : Int)) = true := decide_eq_true c3
    simp -implicitDefEqProofs only [go_sem, a1, a2, a3]
  have a3 : decide (B > (d.seen.length : Int)) = false := decide_eq_false c3
  have w1 : IntKind.i64.wrap ((d.seen.length : Int) - B) = (d.seen.length : Int) - B := by rw [wrap_i64 (by omega) (by omega)]
  have w2 : IntKind.i64.wrap (((d.seen.length : Int) - B).tdiv 2) = ((d.seen.length : Int) - B).tdiv 2 := by
    rw [Int.tdiv_eq_ediv_of_nonneg (by omega)]
    exact wrap_i64 (by omega) (by omega)
  have a4 : decide (h > ((d.seen.length : Int) - B).tdiv 2) = true := decide_eq_true (by
    rcases hN with h | h | h | h
    · exact absurd h c1
    · exact absurd h c2
    · exact absurd h c3
    · exact h)
  simp -implicitDefEqProofs only [go_sem, a1, a2, a3, w1, w2, a4]
theorem openNil {B h : Int} : SpecAt Tryz.prog nCOpen [.v (.pointer none), .v (.int .i64 B), .v (.int .i64 h)] H n (.tup [.v (.pointer none), .v (.int .i64 1)]) H n := by
  refine okT.pure tCOpen (?_)
  unfold mCOpen
  simp -implicitDefEqProofs only [↓fnVC, initTm]
  simp -implicitDefEqProofs only [go_sem]
  refine in_call mixT tFSectors ?_
  unfold mFSectors
  simp -implicitDefEqProofs only [↓fnVC, initTm]
  simp -implicitDefEqProofs only [go_sem]
end
end Go.Sx