/- A device, at this program. -/
import Derived.Test.YtaggkccjgnkloaaGreatFlashA

set_option linter.unusedVariables false
set_option linter.unusedSimpArgs false
set_option maxRecDepth 100000
namespace Go.Sx
attribute [local go_sem ↓] bind_mk intsB_mk strsB_mk svB_mk fnVC ob_some vc_skip vc_exit vc_ret vc_seq vc_block kSeq_normal kSeq_exit kSeq_ret kBlock_normal kBlock_exit kBlock_ret vc_reg vc_regD vc_cond condK_true condK_false vc_loop kLoop_exit kLoop_ret kRoll_normal kRoll_exit kRoll_ret vcOps_nil vcOps_cons gd_bool gd_undef put_some put_none vcT_fin vcT_pure vcT_act vcT_acts vcT_stop stab_none stab_some stabM_nil stabM_cons stabO_ld stabO_ldn stabO_slP stabO_b2s fldOf_ai fldOf_agg fldOf_ait fldOf_aggt intsOf_nil intsOf_cons strsOf_nil strsOf_cons c_omap ob_if lk_nil lk_cons ev_t ev_k z_mov z_pick z_bin z_binB z_binP z_un z_r2s z_conv z_s2b z_b2s z_mkM z_luM z_upM z_lenM lenMk_mp lenMk_nil plsOf_v z_delM asM_so plV_v plV_agg mpOf_mp mpOf_nil mpUp_mp asM_mp luV_ok luV_v z_allocT aggOf_mk z_boxT z_alloc z_bld z_bldI z_rowI z_rowS z_ld z_ldn z_st z_stn asN_ptr asN_fn z_nilck z_fld z_fadr z_idxA z_idxP z_idxS z_idxV z_slS z_slL z_slP z_mk z_lenS z_lenL z_app appC_ints appC_pl appC_sv appC_strs isS_strs loose_ints loose_pl loose_sv z_slM z_callv callvK_fn callvK_f callvK_yl vc_rangeF rfEnd_eq rfGo_none rfGo_ret rfGo_exit yGo_mk yEnd_n yEnd_r yEnd_e yRdy_mk yMid_n putPs_nil putPs_cons leaf_v leaf_ptr leaf_sl leaf_yl leaf_mp z_appS z_appST z_appZ z_cpyS z_mkfn reps_int reps_str z_rowV z_slnil nilK_zero z_cpy z_call asT_tup z_extT z_box boxOf_ai boxOf_agg boxOf_int boxOf_str boxOf_bool boxOf_ptr boxOf_sl sbin_int sbin_str sbinB_mk sbinP_nn sbinP_pn sbinP_np i_add i_sub i_mul i_quo i_rem i_and i_or i_xor i_andNot i_shl i_shr i_eql i_neq i_lss i_leq i_gtr i_geq st_add st_eql st_neq st_lss st_leq st_gtr st_geq bo_eql bo_neq pt_eql pt_neq un_neg un_xor un_not asI_mk asB_mk asS_mk asP_mk asSl_mk asBy_mk bnd_none bnd_some get_mk hput_mk hdel_mk kill_eq wrOf_eq rowOf_eq rsvs_0 rsvs_1 rsvs_2 rsvs_3 rsv_t rsv_c1 rsv_cn nt_v nt_ptr nt_sl nt_agg nt_ai get_ints get_strs get_pl get_sv getN_ints getN_sv set_ints set_strs set_sv setN_ints setN_sv part_ints part_strs part_sv cat_ints cat_strs cat_sv over_ints over_strs over_sv ones_ints ones_strs evs_nil evs_cons condK_eqt condK_eqf det_callP V_ns V_nn V_gs V_gn obC_mk fresh_ev freshT_ev freshR_ev setN_plagg setN_intsv setN_svai setN_svagg over_intsv set_pl setN_pl setN_plai getN_pl getN_strs part_pl cat_pl over_pl over_plints z_mm
attribute [local go_sem] initTm ne_eq not_true_eq_false not_false_eq_true true_and and_true List.length_cons List.length_nil Int.toNat_natCast Nat.add_zero Nat.zero_add Nat.mul_one List.getElem?_cons_zero List.drop_zero List.take_length List.take_succ_cons List.take_zero List.take_nil List.drop_succ_cons Option.map_some Nat.le_refl implies_true List.getElem?_cons_succ decide_true decide_false Bool.not_true Bool.not_false beq_self_eq_true Nat.succ_ne_self Nat.one_ne_zero Nat.zero_ne_one vk_mk hk_mk nk_mk tok_eq plsOf_map intsOf_map bodyOf_pl bodyOf_ints bodyOf_strs bodyOf_sv part_aggv part_agg part_ai part_int part_str part_bool part_sl part_ptr part_nil numsOf_map u_int u_str u_bool u_pnil u_sl u_ptr u_oci u_ocs evq_nil evq_cons fillS_nil fillS_cons u_ocb ones_pl cells_sv cells_ints cells_strs cells_pl smms_nil smms_cons smm_min smm_max plsOf_nil List.nil_append List.all_cons List.all_nil Bool.and_self Bool.true_and Bool.and_true zws_len zw_len zi_len List.set_cons_zero List.set_cons_succ List.flatMap_cons List.flatMap_nil List.append_nil
attribute [local go_sem_proc] Nat.reduceEqDiff Nat.reduceAdd Nat.reduceMul Nat.reduceLT Nat.reduceLeDiff Nat.reduceSub Int.reduceToNat Int.reduceLE Int.reduceLT reduceCtorEq Int.reduceEq Int.reduceGT Int.reduceGE Int.reduceNeg
attribute [local go_sem_proc ↓] reduceIte
section
open Go.Proofs
variable {H : Hp} {n : Nat} {x : Nat → Option SO} {d d' : Fd} {i a b c : Nat}
theorem tx_size' (l : List Int) : (tx l).size = l.length := by simp [tx, ByteArray.size]
theorem tx_bts' (s : ByteArray) : tx (bts s) = s := by
  cases s with
  | mk d =>
    simp only [tx, bts, List.map_map]
    congr 1
    conv => rhs; rw [← Array.toArray_toList (xs := d)]
    congr 1
    conv => rhs; rw [← List.map_id d.toList]
    exact List.map_congr_left (fun y _ => by simp)
theorem tx_ext (l : List Int) (i j : Nat) : (tx l).extract i j = tx ((l.take j).drop i) := by
  unfold tx
  apply ByteArray.ext
  simp only [ByteArray.data_extract, List.map_drop, List.map_take, List.extract_toArray, List.extract_eq_take_drop, List.drop_take]
variable {H : Hp} {n : Nat} {x : Nat → Option SO} {d d' : Fd} {i a b c : Nat}
theorem stS (hg : H.get i = some ⟨true, devB d a b c⟩) : SpecAt Tryz.prog nFSteps [.ptr i 0] H n (.v (.int .i64 d.st)) H n := ok3.pure tFSteps (by
  unfold mFSteps
  simp -implicitDefEqProofs only [↓fnVC, initTm]
  simp -implicitDefEqProofs only [go_sem, hg, devB])
variable {H : Hp} {n : Nat} {x : Nat → Option SO} {d d' : Fd} {i a b c : Nat}
variable {H : Hp} {n : Nat} {x : Nat → Option SO} {d d' : Fd} {i a b c : Nat}
def Sn (d : Fd) : Prop := d.seen = setl d.safe d.pend
theorem Sn.new {k : Nat} : Sn (newD k) := rfl
theorem setl_app {S : List (List Int)} {ws : List (Nat × List Int)} {w : Nat × List Int} : setl S (ws ++ [w]) = (setl S ws).set w.1 w.2 := by simp [setl, List.foldl_append]
theorem Sn.wr {j : Nat} {s : ByteArray} (h : Sn d) : Sn (wrD d j s) := by
  unfold Sn at *
  rw [wrD_seen, wrD_safe, wrD_pend, setl_app, ← h]
theorem Sn.ba (h : Sn d) : (baD d).seen = (baD d).safe := by
  rw [baD_seen]; exact h
open Go.ChangeShapes Go.WideShapes Go.ChangeAt Go.RowKit in
variable {H : Hp} {n : Nat} {x : Nat → Option SO} {d d' : Fd} {i a b c : Nat}
def qcell (w : Nat × List Int) : List Value := [.int .i64 w.1, .string (tx w.2)]
def qrow (ws : List (Nat × List Int)) : List Value := (ws.map qcell).flatten
def refB (d : Fd) (a b : Nat) : Body := .sv [.sl a 0 d.seen.length 1, .sl b 0 d.pend.length 2, .v (.int .i64 d.st), .v (.int .i64 d.fa), .v (.bool d.off)]
def strB (l : List (List Int)) : Body := .strs (l.map tx)
theorem qrow_all {ws : List (Nat × List Int)} : ∀ s ∈ ws.map qcell, s.length = 2 := fun s hs => by
  rw [List.mem_map] at hs; obtain ⟨w, _, rfl⟩ := hs; rfl
theorem qrow_len {ws : List (Nat × List Int)} : (qrow ws).length = ws.length * 2 := by
  unfold qrow; rw [flat_len qrow_all, List.length_map]
theorem qrow_at {ws : List (Nat × List Int)} {j : Nat} (hj : j < ws.length) : ((qrow ws).drop (j * 2)).take 2 = qcell (ws.getD j (0, [])) := by
  unfold qrow
  rw [flat_take qrow_all (by simpa using hj), List.getD_eq_getElem?_getD, List.getElem?_map, List.getD_eq_getElem?_getD, List.getElem?_eq_getElem hj]; rfl
theorem qrow_app (l m : List (Nat × List Int)) : qrow (l ++ m) = qrow l ++ qrow m := by simp [qrow]
theorem strB_get {l : List (List Int)} {j : Nat} (hj : j < l.length) : (l.map tx).getD j .empty = tx (l.getD j []) := by
  rw [List.getD_eq_getElem?_getD, List.getElem?_map, List.getD_eq_getElem?_getD, List.getElem?_eq_getElem hj]; rfl
def seI (d : Fd) (o m : Nat) (row ks : List Int) (x : Nat → Option SO) (t : Nat) : St :=
  ⟨[(0, .ptr 1 0), (1, .sl 4 o m 1), (5, .sl 5 0 d.seen.length 1), (6, .v (.int .i64 t))],
    ⟨[(1, some ⟨false, refB d 2 3⟩), (2, some ⟨false, strB d.safe⟩), (3, some ⟨false, .pl (qrow d.pend)⟩), (4, some ⟨false, .ints .i64 row⟩), (5, some ⟨true, strB (crl d.safe d.pend (keepN ks) t)⟩)], x⟩, 6⟩
theorem wF39 {d : Fd} {row : List Int} {o m : Nat} (hd : d.ok) (hom : o + m ≤ row.length) :
    fnVC C3 mrFsettled [.ptr 1 0, .sl 4 o m 1] ⟨[(1, some ⟨false, refB d 2 3⟩), (2, some ⟨false, strB d.safe⟩), (3, some ⟨false, .pl (qrow d.pend)⟩), (4, some ⟨false, .ints .i64 row⟩)], x⟩ 5
      fun v H' n' => Sub 5 ⟨[(0, .sl 5 0 d.seen.length 1)], ⟨[(1, some ⟨false, refB d 2 3⟩), (2, some ⟨false, strB d.safe⟩), (3, some ⟨false, .pl (qrow d.pend)⟩), (4, some ⟨false, .ints .i64 row⟩),
        (5, some ⟨true, strB (crl d.safe d.pend (keepN ((row.drop o).take m)) d.pend.length)⟩)], x⟩, 6⟩ ⟨[(0, v)], H', n'⟩ := by
  obtain ⟨h1, h2, h3, h4, h5, h6, h7, h8, h9, h10⟩ := hd
  have hrow := fun t (h : t < d.pend.length) => qrow_at (ws := d.pend) (j := t) h
  have hplen := qrow_len (ws := d.pend)
  obtain ⟨ks, hks⟩ : ∃ ks, ks = (row.drop o).take m := ⟨_, rfl⟩
  have hkl : ks.length = m := by rw [hks]; simp; omega
  have hkg : ∀ j, j < m → row.getD (o + j) 0 = ks.getD j 0 := fun j hj => by
    rw [hks, List.getD_eq_getElem?_getD, List.getD_eq_getElem?_getD, List.getElem?_take, if_pos hj, List.getElem?_drop]
  rw [← hks]
  have hall := crl_all (kf := keepN ks) h2 (fun w hw => ⟨by rw [h3]; exact (h5 w hw).1, (h5 w hw).2⟩)
  have r1 : (d.safe.map tx).take d.seen.length = d.safe.map tx := List.take_of_length_le (by simp; omega)
  unfold refB strB mrFsettled
  simp -implicitDefEqProofs only [↓fnVC, initTm]
  simp -implicitDefEqProofs only [go_sem, r1]
  refine ⟨by omega, by omega, by simp; omega, app_kill ?_⟩
  simp -implicitDefEqProofs only [go_sem, r1, List.take_nil, List.drop_nil, List.nil_append, List.drop_zero, List.take_zero, Nat.zero_add]
  refine loop_fam (fun t : Nat => t ≤ d.pend.length) (seI d o m row ks x) (fun t => d.pend.length - t) 0 (by omega) ?_ ?_
  · unfold seI refB strB
    refine sub_mk [(5, 6)] rfl rfl rfl ?_
    simp only [tmSub, hpSub, objSub, eqTm, eqHp, rn, lk, SV.ren, SV.renC, SV.renB, SV.renA, ren_ints, ren_strs, ren_pl, ren_svs, SV.v.injEq, Value.int.injEq, Body.ints.injEq, SV.ptr.injEq, SV.sl.injEq, Value.string.injEq, Value.bool.injEq, List.map_cons, List.map_nil, forall_const, Nat.reduceLT, Nat.lt_add_one, imp_self, true_and, and_true, and_self, ob_some, get_mk, lk_cons, ↓reduceIte, Nat.reduceEqDiff, ne_eq, not_true_eq_false, not_false_eq_true, Nat.one_ne_zero, Nat.zero_ne_one, Nat.succ_ne_self, Nat.reduceAdd, Bool.false_eq_true, false_implies, implies_true, reduceCtorEq, crl]
    rfl
  · intro t ht
    unfold seI refB strB
    simp -implicitDefEqProofs only [go_sem]
    refine condK_bb (fun e6 => ?_) (fun e6 => ?_)
    · have c6 : t < d.pend.length := by simp only [decide_eq_true_eq] at e6; omega
      have hw := h5 (d.pend.getD t (0, [])) (by rw [List.getD_eq_getElem?_getD, List.getElem?_eq_getElem c6]; exact List.getElem_mem c6)
      have p1 := hrow t c6
      have p4 : crl d.safe d.pend (keepN ks) (t + 1) = (crl d.safe d.pend (keepN ks) t).set (d.pend.getD t (0, [])).1 ((d.pend.getD t (0, [])).2.take (keepN ks t) ++ ((crl d.safe d.pend (keepN ks) t).getD (d.pend.getD t (0, [])).1 []).drop (keepN ks t)) := rfl
      generalize d.pend.getD t (0, []) = w at hw p1 p4
      have p6 := hall t ht
      have p7 : (crl d.safe d.pend (keepN ks) t).length = d.seen.length := by rw [crl_len, h3]
      have p8 := strB_get (l := crl d.safe d.pend (keepN ks) t) (j := w.1) (by rw [p7]; exact hw.1)
      have p9 := getD_len p6 (j := w.1) (by rw [p7]; exact hw.1)
      have kl := keepN_le ks t
      have s1 : (tx w.2).size = 64 := by rw [tx_size', hw.2]
      have s2 : (tx ((crl d.safe d.pend (keepN ks) t).getD w.1 [])).size = 64 := by rw [tx_size', p9]
      have r7 : (tx w.2).extract 0 (keepN ks t) ++ (tx ((crl d.safe d.pend (keepN ks) t).getD w.1 [])).extract (keepN ks t) 64 = tx (w.2.take (keepN ks t) ++ ((crl d.safe d.pend (keepN ks) t).getD w.1 []).drop (keepN ks t)) := by
        rw [tx_ext, tx_ext, tx_app, List.take_of_length_le (l := (crl d.safe d.pend (keepN ks) t).getD w.1 []) (by omega)]; rfl
      have r8 : ((crl d.safe d.pend (keepN ks) t).map tx).set w.1 (tx (w.2.take (keepN ks t) ++ ((crl d.safe d.pend (keepN ks) t).getD w.1 []).drop (keepN ks t))) = (crl d.safe d.pend (keepN ks) (t + 1)).map tx := by
        rw [p4, List.map_set]
      by_cases hm0 : m = 0
      · have e7 : decide ((m : Int) > 0) = false := decide_eq_false (by omega)
        have k0 : keepN ks t = 0 := by unfold keepN; rw [if_pos (by omega)]
        rw [k0] at r7 r8
        simp only [List.take_zero, List.nil_append, List.drop_zero] at r7 r8
        simp -implicitDefEqProofs only [go_sem, p1, e7, qcell, p8, splice_zero, List.map_cons, List.map_nil, List.length_cons, List.length_nil, List.drop_succ_cons, List.drop_zero, List.cons_append, List.nil_append, s1, s2, r7, r8]
        refine ⟨by omega, by omega, by omega, by omega, by rw [List.length_map]; omega, by omega, by rw [ByteArray.size_extract, ByteArray.size_extract]; omega, by omega, by rw [List.length_map]; omega, kLoop_mk (t + 1) (by omega) (by omega) ?_⟩
        refine sub_mk [] rfl rfl rfl ?_
        simp only [tmSub, hpSub, objSub, eqTm, eqHp, rn, lk, SV.ren, SV.renC, SV.renB, SV.renA, ren_ints, ren_strs, ren_pl, ren_svs, SV.v.injEq, Value.int.injEq, Body.ints.injEq, SV.ptr.injEq, SV.sl.injEq, Value.string.injEq, Value.bool.injEq, List.map_cons, List.map_nil, forall_const, Nat.reduceLT, Nat.lt_add_one, imp_self, true_and, and_true, and_self, ob_some, get_mk, lk_cons, ↓reduceIte, Nat.reduceEqDiff, ne_eq, not_true_eq_false, not_false_eq_true, Nat.one_ne_zero, Nat.zero_ne_one, Nat.succ_ne_self, Nat.reduceAdd, Bool.false_eq_true, false_implies, implies_true, reduceCtorEq]
        rw [wrap_i64 (by omega) (by omega)]
        exact Int.natCast_add t 1
      · have e7 : decide ((m : Int) > 0) = true := decide_eq_true (by omega)
        have hmod : (t : Int).tmod (m : Int) = ((t % m : Nat) : Int) := by rw [Int.tmod_eq_emod_of_nonneg (by omega)]; exact (Int.natCast_emod t m).symm
        have hlt : t % m < m := Nat.mod_lt _ (by omega)
        have hg := hkg (t % m) hlt
        have hcl : min (max (ks.getD (t % m) 0) 0) 64 = ((keepN ks t : Nat) : Int) := by
          unfold keepN clampN; rw [if_neg (by omega), hkl]; omega
        simp -implicitDefEqProofs only [go_sem, p1, e7, hmod, hg, hcl, qcell, p8, splice_zero, List.map_cons, List.map_nil, List.length_cons, List.length_nil, List.drop_succ_cons, List.drop_zero, List.cons_append, List.nil_append, s1, s2, r7, r8]
        refine ⟨by omega, by omega, by omega, by omega, by omega, by omega, by omega, by rw [List.length_map]; omega, by omega, by rw [ByteArray.size_extract, ByteArray.size_extract]; omega, by omega, by rw [List.length_map]; omega, kLoop_mk (t + 1) (by omega) (by omega) ?_⟩
        refine sub_mk [] rfl rfl rfl ?_
        simp only [tmSub, hpSub, objSub, eqTm, eqHp, rn, lk, SV.ren, SV.renC, SV.renB, SV.renA, ren_ints, ren_strs, ren_pl, ren_svs, SV.v.injEq, Value.int.injEq, Body.ints.injEq, SV.ptr.injEq, SV.sl.injEq, Value.string.injEq, Value.bool.injEq, List.map_cons, List.map_nil, forall_const, Nat.reduceLT, Nat.lt_add_one, imp_self, true_and, and_true, and_self, ob_some, get_mk, lk_cons, ↓reduceIte, Nat.reduceEqDiff, ne_eq, not_true_eq_false, not_false_eq_true, Nat.one_ne_zero, Nat.zero_ne_one, Nat.succ_ne_self, Nat.reduceAdd, Bool.false_eq_true, false_implies, implies_true, reduceCtorEq]
        rw [wrap_i64 (by omega) (by omega)]
        exact Int.natCast_add t 1
    · have c6 : t = d.pend.length := by simp only [decide_eq_false_iff_not] at e6; omega
      subst c6
      simp -implicitDefEqProofs only [go_sem]
      refine sub_mk [] rfl rfl rfl ?_
      simp only [tmSub, hpSub, objSub, eqTm, eqHp, rn, lk, SV.ren, SV.renC, SV.renB, SV.renA, ren_ints, ren_strs, ren_pl, ren_svs, SV.v.injEq, Value.int.injEq, Body.ints.injEq, SV.ptr.injEq, SV.sl.injEq, Value.string.injEq, Value.bool.injEq, List.map_cons, List.map_nil, forall_const, Nat.reduceLT, Nat.lt_add_one, imp_self, true_and, and_true, and_self, ob_some, get_mk, lk_cons, ↓reduceIte, Nat.reduceEqDiff, ne_eq, not_true_eq_false, not_false_eq_true, Nat.one_ne_zero, Nat.zero_ne_one, Nat.succ_ne_self, Nat.reduceAdd, Bool.false_eq_true, false_implies, implies_true, reduceCtorEq]
variable {H : Hp} {n : Nat} {x : Nat → Option SO} {d d' : Fd} {i a b c : Nat} {u1 u2 u3 : Bool}
structure RefAt (H : Hp) (d : Fd) (i a b : Nat) (u1 u2 u3 : Bool) : Prop where
  gi : H.get i = some ⟨u1, refB d a b⟩
  ga : H.get a = some ⟨u2, strB d.safe⟩
  gb : H.get b = some ⟨u3, .pl (qrow d.pend)⟩
  ne : (0 < i ∧ 0 < a ∧ 0 < b) ∧ (i < 1000 ∧ a < 1000 ∧ b < 1000) ∧ i ≠ a ∧ i ≠ b ∧ a ≠ b
def rp3 (d : Fd) (x : Nat → Option SO) : Hp := ⟨[(1, some ⟨true, refB d 2 3⟩), (2, some ⟨false, strB d.safe⟩), (3, some ⟨false, .pl (qrow d.pend)⟩)], x⟩
theorem seS9 {r o m : Nat} {row ks : List Int} (h : RefAt H d i a b u1 u2 u3) (hd : d.ok) (hom : o + m ≤ row.length) (hr : rowAt H r (.ints .i64 []) = some (.ints .i64 row)) (hne : i ≠ r ∧ a ≠ r ∧ b ≠ r) (hn : n < 1000) (hk : (row.drop o).take m = ks) :
    SpecAt Tryz.prog nrFsettled [.ptr i 0, .sl r o m 1] H n (.sl n 0 d.seen.length 1) ⟨(n, some ⟨true, strB (crl d.safe d.pend (keepN ks) d.pend.length)⟩) :: H.l, H.x⟩ (n + 1) := by
  subst hk
  obtain ⟨hi, ha, hb, ⟨p1, p2, p3⟩, ⟨q1, q2, q3⟩, n1, n2, n3⟩ := h
  have := lift (n := n) (ok3.spec trFsettled (wF39 (x := H.x) hd hom)) [(1, i), (2, a), (3, b), (4, r)] rfl rfl rfl (by omega) rfl rfl
    ⟨sub_ro rfl p1 hi rfl, sub_ro rfl p2 ha rfl, sub_ro rfl p3 hb rfl, rowAt_sub hr rfl ⟨rfl, fun _ h => (by cases h)⟩ rfl, trivial⟩
    (by simp [apartB, apart1, rn, lk, n1, n2, n3, hne.1, hne.2.1, hne.2.2, Ne.symm n1, Ne.symm n2, Ne.symm n3]) (by simp [wrNZ, rn, lk]; try omega) (by omega)
  exact this
theorem crl_setl {S : List (List Int)} {ws : List (Nat × List Int)} (hS : ∀ s ∈ S, s.length = 64) (hw : ∀ w ∈ ws, w.1 < S.length ∧ w.2.length = 64) : ∀ t, t ≤ ws.length → crl S ws (keepN [64]) t = setl S (ws.take t)
  | 0, _ => rfl
  | t + 1, ht => by
    have c6 : t < ws.length := by omega
    have ih := crl_setl hS hw t (by omega)
    have hall := crl_all (kf := keepN [64]) hS hw t (by omega)
    have hk : keepN [64] t = 64 := by unfold keepN; rw [if_neg (by simp)]; simp only [List.length_cons, List.length_nil, Nat.zero_add, Nat.mod_one]; rfl
    have hw' := hw (ws.getD t (0, [])) (by rw [List.getD_eq_getElem?_getD, List.getElem?_eq_getElem c6]; exact List.getElem_mem c6)
    have hg := getD_len hall (j := (ws.getD t (0, [])).1) (by rw [crl_len]; exact hw'.1)
    simp only [crl]
    rw [setl_succ c6, ← ih, hk, List.take_of_length_le (by omega), List.drop_of_length_le (by omega), List.append_nil]
theorem crl_all64 (hd : d.ok) : crl d.safe d.pend (keepN [64]) d.pend.length = setl d.safe d.pend := by
  obtain ⟨h1, h2, h3, h4, h5, h6, h7, h8, h9, h10⟩ := hd
  rw [crl_setl h2 (fun w hw => ⟨by rw [h3]; exact (h5 w hw).1, (h5 w hw).2⟩) _ (Nat.le_refl _), List.take_length]
theorem wF38 (hd : d.ok) : fnVC C3 mrFstep [.ptr 1 0] (rp3 d x) 4 fun v H' n' => Sub 4 ⟨[(0, .v (.int .i64 (stepE d)))], rp3 (stepD d) x, 4⟩ ⟨[(0, v)], H', n'⟩ := by
  obtain ⟨h1, h2, h3, h4, h5, h6, h7, h8, h9, h10⟩ := hd
  unfold rp3 refB mrFstep
  simp -implicitDefEqProofs only [↓fnVC, initTm]
  simp -implicitDefEqProofs only [go_sem]
  refine condK_bb (fun e4 => ?_) (fun e4 => ?_)
  · simp only [decide_eq_true_eq] at e4
    by_cases c4 : d.fa = 1
    · have e5 : decide (IntKind.i64.wrap (d.fa - 1) = 0) = true := by rw [c4]; rfl
      have q0 : stepE d = 7 := by unfold stepE; rw [if_pos c4]
      have q1 : stepD d = { d with fa := 0, off := true } := by unfold stepD; rw [if_pos c4]
      have q2 : IntKind.i64.wrap (d.fa - 1) = 0 := by rw [c4]; rfl
      simp -implicitDefEqProofs only [go_sem, e5, q0, q1, q2]
      refine sub_mk [] rfl rfl rfl ?_
      simp only [tmSub, hpSub, objSub, eqTm, eqHp, rn, lk, SV.ren, SV.renC, SV.renB, SV.renA, ren_ints, ren_strs, ren_pl, ren_svs, SV.v.injEq, Value.int.injEq, Body.ints.injEq, SV.ptr.injEq, SV.sl.injEq, Value.string.injEq, Value.bool.injEq, List.map_cons, List.map_nil, forall_const, Nat.reduceLT, Nat.lt_add_one, imp_self, true_and, and_true, and_self, ob_some, get_mk, lk_cons, ↓reduceIte, Nat.reduceEqDiff, ne_eq, not_true_eq_false, not_false_eq_true, Nat.one_ne_zero, Nat.zero_ne_one, Nat.succ_ne_self, Nat.reduceAdd, Bool.false_eq_true, false_implies, implies_true, reduceCtorEq]
      rfl
    · have e5 : decide (IntKind.i64.wrap (d.fa - 1) = 0) = false := decide_eq_false (by rw [wrap_i64 (by omega) (by omega)]; omega)
      have q0 : stepE d = 0 := by unfold stepE; rw [if_neg c4]
      have q1 : stepD d = { d with fa := d.fa - 1, st := d.st + 1 } := by rw [stepD_no c4, if_pos (by omega)]
      simp -implicitDefEqProofs only [go_sem, e5, q0, q1]
      rw [wrap_i64 (n := d.fa - 1) (by omega) (by omega), wrap_i64 (n := d.st + 1) (by omega) (by omega)]
      refine sub_mk [] rfl rfl rfl ?_
      simp only [tmSub, hpSub, objSub, eqTm, eqHp, rn, lk, SV.ren, SV.renC, SV.renB, SV.renA, ren_ints, ren_strs, ren_pl, ren_svs, SV.v.injEq, Value.int.injEq, Body.ints.injEq, SV.ptr.injEq, SV.sl.injEq, Value.string.injEq, Value.bool.injEq, List.map_cons, List.map_nil, forall_const, Nat.reduceLT, Nat.lt_add_one, imp_self, true_and, and_true, and_self, ob_some, get_mk, lk_cons, ↓reduceIte, Nat.reduceEqDiff, ne_eq, not_true_eq_false, not_false_eq_true, Nat.one_ne_zero, Nat.zero_ne_one, Nat.succ_ne_self, Nat.reduceAdd, Bool.false_eq_true, false_implies, implies_true, reduceCtorEq]
      rfl
  · simp only [decide_eq_false_iff_not] at e4
    have q0 : stepE d = 0 := by unfold stepE; rw [if_neg (by omega)]
    have q1 : stepD d = { d with fa := d.fa, st := d.st + 1 } := by rw [stepD_no (by omega), if_neg (by omega)]
    simp -implicitDefEqProofs only [go_sem, q0, q1]
    rw [wrap_i64 (n := d.st + 1) (by omega) (by omega)]
    refine sub_mk [] rfl rfl rfl ?_
    simp only [tmSub, hpSub, objSub, eqTm, eqHp, rn, lk, SV.ren, SV.renC, SV.renB, SV.renA, ren_ints, ren_strs, ren_pl, ren_svs, SV.v.injEq, Value.int.injEq, Body.ints.injEq, SV.ptr.injEq, SV.sl.injEq, Value.string.injEq, Value.bool.injEq, List.map_cons, List.map_nil, forall_const, Nat.reduceLT, Nat.lt_add_one, imp_self, true_and, and_true, and_self, ob_some, get_mk, lk_cons, ↓reduceIte, Nat.reduceEqDiff, ne_eq, not_true_eq_false, not_false_eq_true, Nat.one_ne_zero, Nat.zero_ne_one, Nat.succ_ne_self, Nat.reduceAdd, Bool.false_eq_true, false_implies, implies_true, reduceCtorEq]
    rfl
theorem stS38 (h : RefAt H d i a b true u2 u3) (hd : d.ok) :
    SpecAt Tryz.prog nrFstep [.ptr i 0] H n (.v (.int .i64 (stepE d))) ⟨(i, some ⟨true, refB (stepD d) a b⟩) :: H.l, H.x⟩ n := by
  obtain ⟨hi, ha, hb, ⟨p1, p2, p3⟩, ⟨q1, q2, q3⟩, n1, n2, n3⟩ := h
  have := lift (n := n) (ok3.spec trFstep (wF38 (x := H.x) hd)) [(1, i), (2, a), (3, b)] rfl rfl rfl (by omega) rfl rfl
    ⟨sub_wr rfl p1 q1 hi rfl, sub_ro rfl p2 ha rfl, sub_ro rfl p3 hb rfl, trivial⟩
    (by simp [apartB, apart1, rn, lk, n1, n2, n3, Ne.symm n1, Ne.symm n2, Ne.symm n3]) (by simp [wrNZ, rn, lk]; try omega) (by omega)
  exact this
theorem stepD_safe : (stepD d).safe = d.safe ∧ (stepD d).pend = d.pend ∧ (stepD d).seen = d.seen := by unfold stepD; split <;> exact ⟨rfl, rfl, rfl⟩
theorem stepD_ok (hd : d.ok) (hst : d.st < 1000000000000) : (stepD d).ok := by
  obtain ⟨h1, h2, h3, h4, h5, h6, h7, h8, h9, h10⟩ := hd
  unfold stepD
  split
  · exact ⟨h1, h2, h3, h4, h5, h6, h7, h8, Int.le_refl _, by simp only; omega⟩
  · exact ⟨h1, h2, h3, h4, h5, h6, by simp only; omega, by simp only; omega, by simp only; split <;> omega, by simp only; split <;> omega⟩
theorem wF32 (hd : d.ok) (hst : d.st < 1000000000000) (hoff : d.off = false) (hfa : d.fa ≠ 1) :
    fnVC C3 mrFBarrier [.ptr 1 0] (rp3 d x) 4 fun v H' n' => Sub 4 ⟨[(0, .v (.int .i64 0))], ⟨[(1, some ⟨true, refB (baD d) 4 5⟩), (2, some ⟨false, strB d.safe⟩), (3, some ⟨false, .pl (qrow d.pend)⟩), (4, some ⟨true, strB (baD d).safe⟩), (5, some ⟨true, .pl (qrow (baD d).pend)⟩)], x⟩, 6⟩ ⟨[(0, v)], H', n'⟩ := by
  have q0 : stepE d = 0 := by unfold stepE; rw [if_neg hfa]
  have hd' := stepD_ok hd hst
  have hs := stepD_safe (d := d)
  have q1 := crl_all64 hd
  have q2 : (baD d).st = (stepD d).st ∧ (baD d).fa = (stepD d).fa ∧ (baD d).off = (stepD d).off ∧ (baD d).seen = d.seen ∧ (baD d).safe = setl d.safe d.pend ∧ (baD d).pend = [] := ⟨rfl, rfl, rfl, baD_seen, rfl, rfl⟩
  unfold rp3 mrFBarrier
  simp -implicitDefEqProofs only [↓fnVC, initTm]
  simp -implicitDefEqProofs only [go_sem, refB, hoff]
  refine at_call trFstep (stS38 (i := 1) (a := 2) (b := 3) (d := d) ⟨by unfold refB; rw [hoff]; rfl, rfl, rfl, by decide⟩ hd) ?_
  simp -implicitDefEqProofs only [go_sem, q0]
  refine at_call trFsettled (seS9 (i := 1) (a := 2) (b := 3) (d := stepD d) (r := 4) (o := 0) (m := 1) (row := [64]) (ks := [64]) ⟨rfl, by rw [hs.1]; rfl, by rw [hs.2.1]; rfl, by decide⟩ hd' (Nat.le_refl _) rfl (by decide) (by decide) rfl) ?_
  rw [hs.1, hs.2.1, hs.2.2, q1]
  simp -implicitDefEqProofs only [go_sem, refB, hs.2.1, hs.2.2]
  rw [q2.1, q2.2.1, q2.2.2.1, q2.2.2.2.1, q2.2.2.2.2.1, q2.2.2.2.2.2]
  refine sub_mk [(4, 5), (5, 0)] rfl rfl rfl ?_
  simp only [tmSub, hpSub, objSub, eqTm, eqHp, rn, lk, SV.ren, SV.renC, SV.renB, SV.renA, ren_ints, ren_strs, ren_pl, ren_svs, SV.v.injEq, Value.int.injEq, Body.ints.injEq, SV.ptr.injEq, SV.sl.injEq, Value.string.injEq, Value.bool.injEq, List.map_cons, List.map_nil, forall_const, Nat.reduceLT, Nat.lt_add_one, imp_self, true_and, and_true, and_self, ob_some, get_mk, lk_cons, ↓reduceIte, Nat.reduceEqDiff, ne_eq, not_true_eq_false, not_false_eq_true, Nat.one_ne_zero, Nat.zero_ne_one, Nat.succ_ne_self, Nat.reduceAdd, Bool.false_eq_true, false_implies, implies_true, reduceCtorEq]
  exact ⟨rfl, rfl, rfl, rfl⟩
theorem wF32n {e : Int} (hd : d.ok) (hn : (if d.off then some ((7 : Int), d) else if d.fa = 1 then some (7, stepD d) else none) = some (e, d')) :
    fnVC C3 mrFBarrier [.ptr 1 0] (rp3 d x) 4 fun v H' n' => Sub 4 ⟨[(0, .v (.int .i64 e))], rp3 d' x, 4⟩ ⟨[(0, v)], H', n'⟩ := by
  have hs := stepD_safe (d := d)
  unfold rp3 mrFBarrier
  simp -implicitDefEqProofs only [↓fnVC, initTm]
  cases hoff : d.off with
  | true =>
    rw [hoff, if_pos rfl] at hn
    cases hn
    simp -implicitDefEqProofs only [go_sem, refB, hoff]
    refine sub_mk [] rfl rfl rfl ?_
    simp only [tmSub, hpSub, objSub, eqTm, eqHp, rn, lk, SV.ren, SV.renC, SV.renB, SV.renA, ren_ints, ren_strs, ren_pl, ren_svs, SV.v.injEq, Value.int.injEq, Body.ints.injEq, SV.ptr.injEq, SV.sl.injEq, Value.string.injEq, Value.bool.injEq, List.map_cons, List.map_nil, forall_const, Nat.reduceLT, Nat.lt_add_one, imp_self, true_and, and_true, and_self, ob_some, get_mk, lk_cons, ↓reduceIte, Nat.reduceEqDiff, ne_eq, not_true_eq_false, not_false_eq_true, Nat.one_ne_zero, Nat.zero_ne_one, Nat.succ_ne_self, Nat.reduceAdd, Bool.false_eq_true, false_implies, implies_true, reduceCtorEq, hoff]
    rfl
  | false =>
    rw [hoff, if_neg (by simp)] at hn
    split at hn
    · rename_i c4
      cases hn
      have q0 : stepE d = 7 := by unfold stepE; rw [if_pos c4]
      simp -implicitDefEqProofs only [go_sem, refB, hoff]
      refine at_call trFstep (stS38 (i := 1) (a := 2) (b := 3) (d := d) ⟨by unfold refB; rw [hoff]; rfl, rfl, rfl, by decide⟩ hd) ?_
      simp -implicitDefEqProofs only [go_sem, q0]
      rw [hs.1, hs.2.1]
      refine sub_mk [] rfl rfl rfl ?_
      simp only [tmSub, hpSub, objSub, eqTm, eqHp, rn, lk, SV.ren, SV.renC, SV.renB, SV.renA, ren_ints, ren_strs, ren_pl, ren_svs, SV.v.injEq, Value.int.injEq, Body.ints.injEq, SV.ptr.injEq, SV.sl.injEq, Value.string.injEq, Value.bool.injEq, List.map_cons, List.map_nil, forall_const, Nat.reduceLT, Nat.lt_add_one, imp_self, true_and, and_true, and_self, ob_some, get_mk, lk_cons, ↓reduceIte, Nat.reduceEqDiff, ne_eq, not_true_eq_false, not_false_eq_true, Nat.one_ne_zero, Nat.zero_ne_one, Nat.succ_ne_self, Nat.reduceAdd, Bool.false_eq_true, false_implies, implies_true, reduceCtorEq]
      exact ⟨rfl, rfl⟩
    · cases hn
def rp3s (d : Fd) (x : Nat → Option SO) : Hp := ⟨[(1, some ⟨false, refB d 2 3⟩), (2, some ⟨false, strB d.safe⟩), (3, some ⟨false, .pl (qrow d.pend)⟩)], x⟩
def inE (d : Fd) (k : Int) : Int := if d.off then 7 else if k < 0 ∨ (d.seen.length : Int) ≤ k then 1 else 0
theorem wF40 {k : Int} : fnVC C3 mrFin [.ptr 1 0, .v (.int .i64 k)] (rp3s d x) 4 fun v H' n' => v = .v (.int .i64 (inE d k)) ∧ H' = rp3s d x ∧ n' = 4 := by
  unfold rp3s refB mrFin
  simp -implicitDefEqProofs only [↓fnVC, initTm]
  cases hoff : d.off with
  | true =>
    have q : inE d k = 7 := by unfold inE; rw [if_pos hoff]
    simp -implicitDefEqProofs only [go_sem, hoff, q]
  | false =>
    have hof : ¬ (d.off = true) := by rw [hoff]; simp
    by_cases c1 : k < 0
    · have q : inE d k = 1 := by unfold inE; rw [if_neg hof, if_pos (.inl c1)]
      have e1 : decide (k < 0) = true := decide_eq_true c1
      simp -implicitDefEqProofs only [go_sem, hoff, q, e1]
    by_cases c2 : (d.seen.length : Int) ≤ k
    · have q : inE d k = 1 := by unfold inE; rw [if_neg hof, if_pos (.inr c2)]
      have e1 : decide (k < 0) = false := decide_eq_false c1
      have e2 : decide (k ≥ (d.seen.length : Int)) = true := decide_eq_true c2
      simp -implicitDefEqProofs only [go_sem, hoff, q, e1, e2]
    · have q : inE d k = 0 := by unfold inE; rw [if_neg hof, if_neg (fun h => h.elim c1 c2)]
      have e1 : decide (k < 0) = false := decide_eq_false c1
      have e2 : decide (k ≥ (d.seen.length : Int)) = false := decide_eq_false c2
      simp -implicitDefEqProofs only [go_sem, hoff, q, e1, e2]
theorem inS {k : Int} (h : RefAt H d i a b u1 u2 u3) : SpecAt Tryz.prog nrFin [.ptr i 0, .v (.int .i64 k)] H n (.v (.int .i64 (inE d k))) H n := by
  obtain ⟨hi, ha, hb, ⟨p1, p2, p3⟩, ⟨q1, q2, q3⟩, n1, n2, n3⟩ := h
  have := lift (n := n) (ok3.pure trFin (wF40 (x := H.x) (k := k) (d := d))) [(1, i), (2, a), (3, b)] rfl rfl rfl (by omega) rfl rfl
    ⟨sub_ro rfl p1 hi rfl, sub_ro rfl p2 ha rfl, sub_ro rfl p3 hb rfl, trivial⟩ (by simp [apartB, apart1, rn, lk]) (by simp [wrNZ, rn, lk]; try omega) (by omega)
  exact this
theorem pls2 {a b : Value} : plsOf [.v a, .v b] = some [a, b] := rfl
theorem tx_zeros {s : ByteArray} (h : s.size ≤ 64) : s ++ tx (List.replicate (64 - s.size) 0) = tx (pad64 (bts s)) := by
  rw [pad64, tx_app, tx_bts', bts_length]
theorem wF36 {k : Nat} {s : ByteArray} (hd : d.ok) (hk : k < d.seen.length) (hs : s.size ≤ 64) (hoff : d.off = false) (hfa : d.fa ≠ 1) (hst : d.st < 1000000000000) (hfew : d.pend.length < 1000000000) :
    fnVC C3 mrFWrite [.ptr 1 0, .v (.int .i64 k), .v (.string s)] ⟨[(1, some ⟨true, refB d 2 3⟩), (2, some ⟨false, strB d.safe⟩), (3, some ⟨true, .pl (qrow d.pend)⟩)], x⟩ 4
      fun v H' n' => Sub 4 ⟨[(0, .v (.int .i64 0))], ⟨[(1, some ⟨true, refB (wrD d k s) 2 4⟩), (2, some ⟨false, strB d.safe⟩), (3, none), (4, some ⟨true, .pl (qrow (wrD d k s).pend)⟩)], x⟩, 5⟩ ⟨[(0, v)], H', n'⟩ := by
  have q0 : stepE d = 0 := by unfold stepE; rw [if_neg hfa]
  have q1 : inE d k = 0 := by unfold inE; rw [if_neg (by rw [hoff]; simp), if_neg (by omega)]
  have e1 : decide ((s.size : Int) > 64) = false := decide_eq_false (by omega)
  have hz := stepD_safe (d := d)
  have hl := qrow_len (ws := d.pend)
  have r1 : (qrow d.pend).take (d.pend.length * 2) = qrow d.pend := List.take_of_length_le (by omega)
  have q2 : (wrD d k s).st = (stepD d).st ∧ (wrD d k s).fa = (stepD d).fa ∧ (wrD d k s).off = (stepD d).off ∧ (wrD d k s).seen.length = d.seen.length ∧ (wrD d k s).pend = d.pend ++ [(k, pad64 (bts s))] := ⟨rfl, rfl, rfl, wrD_len, rfl⟩
  unfold mrFWrite
  simp -implicitDefEqProofs only [↓fnVC, initTm]
  simp -implicitDefEqProofs only [go_sem]
  refine at_call trFin (inS (i := 1) (a := 2) (b := 3) (d := d) ⟨rfl, rfl, rfl, by decide⟩) ?_
  simp -implicitDefEqProofs only [go_sem, q1, e1]
  refine at_call trFstep (stS38 (i := 1) (a := 2) (b := 3) (d := d) ⟨rfl, rfl, rfl, by decide⟩ hd) ?_
  have hw : IntKind.i64.wrap (64 - (s.size : Int)) = ((64 - s.size : Nat) : Int) := by rw [wrap_i64 (by omega) (by omega)]; omega
  have r2 := tx_zeros hs
  have h128 : qcell (k, pad64 (bts s)) = [.int .i64 k, .string (tx (pad64 (bts s)))] := rfl
  have r3 : (List.replicate (64 - s.size) (0 : Int)).take (64 - s.size) = List.replicate (64 - s.size) 0 := List.take_of_length_le (by simp)
  simp -implicitDefEqProofs only [go_sem, q0, refB, hz.2.1, hz.2.2, hw, r2, r3, splice_zero, splice_succ, List.cons_append, pls2, List.length_replicate, r1, tx_size', h128]
  refine ⟨by omega, by omega, by omega, by omega, by omega, ?_⟩
  rw [q2.1, q2.2.1, q2.2.2.1, q2.2.2.2.1, q2.2.2.2.2]
  refine sub_mk [(4, 6)] rfl rfl rfl ?_
  simp only [tmSub, hpSub, objSub, eqTm, eqHp, rn, lk, SV.ren, SV.renC, SV.renB, SV.renA, ren_ints, ren_strs, ren_pl, ren_svs, SV.v.injEq, Value.int.injEq, Body.ints.injEq, SV.ptr.injEq, SV.sl.injEq, Value.string.injEq, Value.bool.injEq, List.map_cons, List.map_nil, forall_const, Nat.reduceLT, Nat.lt_add_one, imp_self, true_and, and_true, and_self, ob_some, get_mk, lk_cons, ↓reduceIte, Nat.reduceEqDiff, ne_eq, not_true_eq_false, not_false_eq_true, Nat.one_ne_zero, Nat.zero_ne_one, Nat.succ_ne_self, Nat.reduceAdd, Bool.false_eq_true, false_implies, implies_true, reduceCtorEq, qrow_app, List.length_append, List.length_cons, List.length_nil]
  repeat' (first | rfl | apply And.intro)
theorem wF36n {k e : Int} {s : ByteArray} (hd : d.ok) (hn : wrNo d k s = some (e, d')) :
    fnVC C3 mrFWrite [.ptr 1 0, .v (.int .i64 k), .v (.string s)] (rp3 d x) 4 fun v H' n' => Sub 4 ⟨[(0, .v (.int .i64 e))], rp3 d' x, 4⟩ ⟨[(0, v)], H', n'⟩ := by
  have hs := stepD_safe (d := d)
  unfold wrNo at hn
  unfold rp3 mrFWrite
  simp -implicitDefEqProofs only [↓fnVC, initTm]
  simp -implicitDefEqProofs only [go_sem]
  refine at_call trFin (inS (i := 1) (a := 2) (b := 3) (d := d) ⟨rfl, rfl, rfl, by decide⟩) ?_
  by_cases hoff : d.off = true
  · rw [if_pos hoff] at hn
    cases hn
    have q1 : inE d k = 7 := by unfold inE; rw [if_pos hoff]
    simp -implicitDefEqProofs only [go_sem, q1]
    refine sub_mk [] rfl rfl rfl ?_
    simp only [tmSub, hpSub, objSub, eqTm, eqHp, rn, lk, SV.ren, SV.renC, SV.renB, SV.renA, ren_ints, ren_strs, ren_pl, ren_svs, SV.v.injEq, Value.int.injEq, Body.ints.injEq, SV.ptr.injEq, SV.sl.injEq, Value.string.injEq, Value.bool.injEq, List.map_cons, List.map_nil, forall_const, Nat.reduceLT, Nat.lt_add_one, imp_self, true_and, and_true, and_self, ob_some, get_mk, lk_cons, ↓reduceIte, Nat.reduceEqDiff, ne_eq, not_true_eq_false, not_false_eq_true, Nat.one_ne_zero, Nat.zero_ne_one, Nat.succ_ne_self, Nat.reduceAdd, Bool.false_eq_true, false_implies, implies_true, reduceCtorEq]
    repeat' (first | rfl | apply And.intro)
  rw [if_neg hoff] at hn
  by_cases c1 : k < 0 ∨ (d.seen.length : Int) ≤ k
  · rw [if_pos c1] at hn
    cases hn
    have q1 : inE d k = 1 := by unfold inE; rw [if_neg hoff, if_pos c1]
    simp -implicitDefEqProofs only [go_sem, q1]
    refine sub_mk [] rfl rfl rfl ?_
    simp only [tmSub, hpSub, objSub, eqTm, eqHp, rn, lk, SV.ren, SV.renC, SV.renB, SV.renA, ren_ints, ren_strs, ren_pl, ren_svs, SV.v.injEq, Value.int.injEq, Body.ints.injEq, SV.ptr.injEq, SV.sl.injEq, Value.string.injEq, Value.bool.injEq, List.map_cons, List.map_nil, forall_const, Nat.reduceLT, Nat.lt_add_one, imp_self, true_and, and_true, and_self, ob_some, get_mk, lk_cons, ↓reduceIte, Nat.reduceEqDiff, ne_eq, not_true_eq_false, not_false_eq_true, Nat.one_ne_zero, Nat.zero_ne_one, Nat.succ_ne_self, Nat.reduceAdd, Bool.false_eq_true, false_implies, implies_true, reduceCtorEq]
    repeat' (first | rfl | apply And.intro)
  rw [if_neg c1] at hn
  have q1 : inE d k = 0 := by unfold inE; rw [if_neg hoff, if_neg c1]
  by_cases c3 : 64 < s.size
  · rw [if_pos c3] at hn
    cases hn
    have e1 : decide ((s.size : Int) > 64) = true := decide_eq_true (by omega)
    simp -implicitDefEqProofs only [go_sem, q1, e1]
    refine sub_mk [] rfl rfl rfl ?_
    simp only [tmSub, hpSub, objSub, eqTm, eqHp, rn, lk, SV.ren, SV.renC, SV.renB, SV.renA, ren_ints, ren_strs, ren_pl, ren_svs, SV.v.injEq, Value.int.injEq, Body.ints.injEq, SV.ptr.injEq, SV.sl.injEq, Value.string.injEq, Value.bool.injEq, List.map_cons, List.map_nil, forall_const, Nat.reduceLT, Nat.lt_add_one, imp_self, true_and, and_true, and_self, ob_some, get_mk, lk_cons, ↓reduceIte, Nat.reduceEqDiff, ne_eq, not_true_eq_false, not_false_eq_true, Nat.one_ne_zero, Nat.zero_ne_one, Nat.succ_ne_self, Nat.reduceAdd, Bool.false_eq_true, false_implies, implies_true, reduceCtorEq]
    repeat' (first | rfl | apply And.intro)
  rw [if_neg c3] at hn
  have e1 : decide ((s.size : Int) > 64) = false := decide_eq_false (by omega)
  split at hn
  · rename_i c4
    cases hn
    have q0 : stepE d = 7 := by unfold stepE; rw [if_pos c4]
    simp -implicitDefEqProofs only [go_sem, q1, e1]
    refine at_call trFstep (stS38 (i := 1) (a := 2) (b := 3) (d := d) ⟨rfl, rfl, rfl, by decide⟩ hd) ?_
    simp -implicitDefEqProofs only [go_sem, q0]
    rw [hs.1, hs.2.1]
    refine sub_mk [] rfl rfl rfl ?_
    simp only [tmSub, hpSub, objSub, eqTm, eqHp, rn, lk, SV.ren, SV.renC, SV.renB, SV.renA, ren_ints, ren_strs, ren_pl, ren_svs, SV.v.injEq, Value.int.injEq, Body.ints.injEq, SV.ptr.injEq, SV.sl.injEq, Value.string.injEq, Value.bool.injEq, List.map_cons, List.map_nil, forall_const, Nat.reduceLT, Nat.lt_add_one, imp_self, true_and, and_true, and_self, ob_some, get_mk, lk_cons, ↓reduceIte, Nat.reduceEqDiff, ne_eq, not_true_eq_false, not_false_eq_true, Nat.one_ne_zero, Nat.zero_ne_one, Nat.succ_ne_self, Nat.reduceAdd, Bool.false_eq_true, false_implies, implies_true, reduceCtorEq]
    repeat' (first | rfl | apply And.intro)
  · cases hn
theorem setl_none {S : List (List Int)} {j : Nat} : ∀ {ws : List (Nat × List Int)}, (∀ w ∈ ws, w.1 ≠ j) → (setl S ws).getD j [] = S.getD j []
  | ws, h => by
    induction ws generalizing S with
    | nil => rfl
    | cons w ws ih =>
      show (setl (S.set w.1 w.2) ws).getD j [] = _
      rw [ih (fun w' hw' => h w' (List.mem_cons_of_mem _ hw')), List.getD_eq_getElem?_getD, List.getElem?_set_ne (h w (List.mem_cons_self ..)), List.getD_eq_getElem?_getD]
theorem setl_split {S : List (List Int)} {ws vs : List (Nat × List Int)} : setl S (ws ++ vs) = setl (setl S ws) vs := by simp [setl, List.foldl_append]
theorem setl_hit {S : List (List Int)} {j t : Nat} {ws : List (Nat × List Int)} (ht : t < ws.length) (hj : j < S.length) (h1 : (ws.getD t (0, [])).1 = j) (h : ∀ w ∈ ws.drop (t + 1), w.1 ≠ j) : (setl S ws).getD j [] = (ws.getD t (0, [])).2 := by
  have e : ws = ws.take (t + 1) ++ ws.drop (t + 1) := (List.take_append_drop _ _).symm
  rw [e, setl_split, setl_none h, setl_succ ht, h1, List.getD_eq_getElem?_getD, List.getElem?_set_self (by rw [setl_len]; exact hj)]
  rw [← e]; rfl
def nwI (k : Nat) (x : Nat → Option SO) (t : Nat) : St := ⟨[(0, .v (.int .i64 k)), (4, .ptr 1 0), (5, .v (.int .i64 t))],
  ⟨[(1, some ⟨true, .sv [.sl 2 0 k 1, .sl 0 0 0 2, .v (.int .i64 0), .v (.int .i64 0), .v (.bool false)]⟩), (2, some ⟨true, .strs (List.replicate t (tx (zi 64)) ++ List.replicate (k - t) ⟨#[]⟩)⟩)], x⟩, 3⟩
theorem wF31 {k : Nat} (h0 : 1 ≤ k) (hk : k ≤ 4096) :
    fnVC C3 mrFNew [.v (.int .i64 k)] ⟨[], x⟩ 1 fun v H' n' => Sub 1 ⟨[(0, .tup [.ptr 1 0, .v (.int .i64 0)])], ⟨[(1, some ⟨true, refB (newD k) 2 3⟩), (2, some ⟨true, strB (newD k).safe⟩), (3, some ⟨true, .pl (qrow (newD k).pend)⟩)], x⟩, 4⟩ ⟨[(0, v)], H', n'⟩ := by
  have e1 : decide ((k : Int) < 1) = false := decide_eq_false (by omega)
  have e2 : decide ((k : Int) > 4096) = false := decide_eq_false (by omega)
  unfold mrFNew
  simp -implicitDefEqProofs only [↓fnVC, initTm]
  simp -implicitDefEqProofs only [go_sem, e1, e2]
  refine ⟨⟨by omega, by omega, by omega, by omega⟩, ?_⟩
  refine loop_fam (fun t : Nat => t ≤ k) (nwI k x) (fun t => k - t) 0 (by omega) ?_ ?_
  · unfold nwI
    refine sub_mk [(1, 2), (2, 1)] rfl rfl rfl ?_
    simp only [tmSub, hpSub, objSub, eqTm, eqHp, rn, lk, SV.ren, SV.renC, SV.renB, SV.renA, ren_ints, ren_strs, ren_pl, ren_svs, SV.v.injEq, Value.int.injEq, Body.ints.injEq, SV.ptr.injEq, SV.sl.injEq, Value.string.injEq, Value.bool.injEq, List.map_cons, List.map_nil, forall_const, Nat.reduceLT, Nat.lt_add_one, imp_self, true_and, and_true, and_self, ob_some, get_mk, lk_cons, ↓reduceIte, Nat.reduceEqDiff, ne_eq, not_true_eq_false, not_false_eq_true, Nat.one_ne_zero, Nat.zero_ne_one, Nat.succ_ne_self, Nat.reduceAdd, Bool.false_eq_true, false_implies, implies_true, reduceCtorEq, splice_zero, List.drop_succ_cons, List.drop_zero, List.cons_append, List.nil_append, List.length_cons, List.length_nil, List.replicate_zero, Nat.sub_zero]
    rfl
  · intro t ht
    unfold nwI
    simp -implicitDefEqProofs only [go_sem]
    refine condK_bb (fun e1 => ?_) (fun e1 => ?_)
    · have c1 : t < k := by simp only [decide_eq_true_eq] at e1; omega
      have r1 : List.take 64 (List.replicate 64 (0 : Int)) = zi 64 := rfl
      have r2 : (List.replicate t (tx (zi 64)) ++ List.replicate (k - t) (ByteArray.mk #[])).set t (tx (zi 64)) = List.replicate (t + 1) (tx (zi 64)) ++ List.replicate (k - (t + 1)) (ByteArray.mk #[]) := by
        rw [List.set_append_right _ _ (by simp), List.length_replicate, Nat.sub_self, show k - t = (k - (t + 1)) + 1 by omega, List.replicate_succ, List.set_cons_zero, List.replicate_succ', List.append_assoc]; rfl
      simp -implicitDefEqProofs only [go_sem, r1, r2]
      simp only [List.length_append, List.length_replicate]
      refine ⟨by omega, by omega, by omega, by omega, kLoop_mk (t + 1) (by omega) (by omega) ?_⟩
      rw [wrap_i64 (n := (t : Int) + 1) (by omega) (by omega)]
      refine sub_mk [] rfl rfl rfl ?_
      simp only [tmSub, hpSub, objSub, eqTm, eqHp, rn, lk, SV.ren, SV.renC, SV.renB, SV.renA, ren_ints, ren_strs, ren_pl, ren_svs, SV.v.injEq, Value.int.injEq, Body.ints.injEq, SV.ptr.injEq, SV.sl.injEq, Value.string.injEq, Value.bool.injEq, List.map_cons, List.map_nil, forall_const, Nat.reduceLT, Nat.lt_add_one, imp_self, true_and, and_true, and_self, ob_some, get_mk, lk_cons, ↓reduceIte, Nat.reduceEqDiff, ne_eq, not_true_eq_false, not_false_eq_true, Nat.one_ne_zero, Nat.zero_ne_one, Nat.succ_ne_self, Nat.reduceAdd, Bool.false_eq_true, false_implies, implies_true, reduceCtorEq]
      exact (Int.natCast_add t 1).symm
    · have c1 : t = k := by simp only [decide_eq_false_iff_not] at e1; omega
      subst c1
      simp -implicitDefEqProofs only [go_sem]
      refine sub_mk [(3, 0)] rfl rfl rfl ?_
      simp only [tmSub, hpSub, objSub, eqTm, eqHp, rn, lk, SV.ren, SV.renC, SV.renB, SV.renA, ren_ints, ren_strs, ren_pl, ren_svs, SV.v.injEq, Value.int.injEq, Body.ints.injEq, SV.ptr.injEq, SV.sl.injEq, Value.string.injEq, Value.bool.injEq, List.map_cons, List.map_nil, forall_const, Nat.reduceLT, Nat.lt_add_one, imp_self, true_and, and_true, and_self, ob_some, get_mk, lk_cons, ↓reduceIte, Nat.reduceEqDiff, ne_eq, not_true_eq_false, not_false_eq_true, Nat.one_ne_zero, Nat.zero_ne_one, Nat.succ_ne_self, Nat.reduceAdd, Bool.false_eq_true, false_implies, implies_true, reduceCtorEq]
      have r1 : strB (newD t).safe = .strs (List.replicate t (tx (zi 64)) ++ List.replicate (t - t) (ByteArray.mk #[])) := by
        simp [strB, newD]
      rw [r1]
      refine ⟨?_, rfl, rfl⟩
      have r3 : (newD t).seen.length = t := by simp [newD]
      unfold refB
      rw [r3]; rfl
variable {H : Hp} {n : Nat} {x : Nat → Option SO} {d d' : Fd} {i a b c : Nat} {u1 u2 u3 : Bool}
def refL (d : Fd) (i a b : Nat) (l : List (Nat × Option SO)) : List (Nat × Option SO) := (i, some ⟨true, refB d a b⟩) :: (a, some ⟨true, strB d.safe⟩) :: (b, some ⟨true, .pl (qrow d.pend)⟩) :: l
theorem rbaG (h : RefAt H d i a b true u2 u3) (hd : d.ok) (hst : d.st < 1000000000000) (hoff : d.off = false) (hfa : d.fa ≠ 1) (hn : n + 2 ≤ 1000) (hD : baD d = d') :
    SpecAt Tryz.prog nrFBarrier [.ptr i 0] H n (.v (.int .i64 0)) ⟨refL d' i n (n + 1) H.l, H.x⟩ (n + 2) := by
  subst hD
  obtain ⟨hi, ha, hb, ⟨p1, p2, p3⟩, ⟨q1, q2, q3⟩, n1, n2, n3⟩ := h
  have := lift (n := n) (ok3.spec trFBarrier (wF32 (x := H.x) hd hst hoff hfa)) [(1, i), (2, a), (3, b)] rfl rfl rfl (by omega) rfl rfl
    ⟨sub_wr rfl p1 q1 hi rfl, sub_ro rfl p2 ha rfl, sub_ro rfl p3 hb rfl, trivial⟩
    (by simp [apartB, apart1, rn, lk, n1, n2, n3, Ne.symm n1, Ne.symm n2, Ne.symm n3]) (by simp [wrNZ, rn, lk]; try omega) (by omega)
  exact this
theorem rbaF {e : Int} (h : RefAt H d i a b true u2 u3) (hd : d.ok) (hw : (if d.off then some ((7 : Int), d) else if d.fa = 1 then some (7, stepD d) else none) = some (e, d')) :
    SpecAt Tryz.prog nrFBarrier [.ptr i 0] H n (.v (.int .i64 e)) ⟨(i, some ⟨true, refB d' a b⟩) :: H.l, H.x⟩ n := by
  obtain ⟨hi, ha, hb, ⟨p1, p2, p3⟩, ⟨q1, q2, q3⟩, n1, n2, n3⟩ := h
  have := lift (n := n) (ok3.spec trFBarrier (wF32n (x := H.x) hd hw)) [(1, i), (2, a), (3, b)] rfl rfl rfl (by omega) rfl rfl
    ⟨sub_wr rfl p1 q1 hi rfl, sub_ro rfl p2 ha rfl, sub_ro rfl p3 hb rfl, trivial⟩
    (by simp [apartB, apart1, rn, lk, n1, n2, n3, Ne.symm n1, Ne.symm n2, Ne.symm n3]) (by simp [wrNZ, rn, lk]; try omega) (by omega)
  exact this
theorem rwrG {k : Nat} {s : ByteArray} (h : RefAt H d i a b true u2 true) (hd : d.ok) (hk : k < d.seen.length) (hs : s.size ≤ 64) (hoff : d.off = false) (hfa : d.fa ≠ 1) (hst : d.st < 1000000000000) (hfew : d.pend.length < 1000000000) (hn : n < 1000) (hD : wrD d k s = d') :
    SpecAt Tryz.prog nrFWrite [.ptr i 0, .v (.int .i64 k), .v (.string s)] H n (.v (.int .i64 0))
      ⟨(i, some ⟨true, refB d' a n⟩) :: (b, none) :: (n, some ⟨true, .pl (qrow d'.pend)⟩) :: H.l, H.x⟩ (n + 1) := by
  subst hD
  obtain ⟨hi, ha, hb, ⟨p1, p2, p3⟩, ⟨q1, q2, q3⟩, n1, n2, n3⟩ := h
  have := lift (n := n) (ok3.spec trFWrite (wF36 (x := H.x) hd hk hs hoff hfa hst hfew)) [(1, i), (2, a), (3, b)] rfl rfl rfl (by omega) rfl rfl
    ⟨sub_wr rfl p1 q1 hi rfl, sub_ro rfl p2 ha rfl, sub_wr rfl p3 q3 hb rfl, trivial⟩
    (by simp [apartB, apart1, rn, lk, n1, n2, n3, Ne.symm n1, Ne.symm n2, Ne.symm n3]) (by simp [wrNZ, rn, lk]; try omega) (by omega)
  exact this
theorem rwrF {k e : Int} {s : ByteArray} (h : RefAt H d i a b true u2 u3) (hd : d.ok) (hw : wrNo d k s = some (e, d')) :
    SpecAt Tryz.prog nrFWrite [.ptr i 0, .v (.int .i64 k), .v (.string s)] H n (.v (.int .i64 e)) ⟨(i, some ⟨true, refB d' a b⟩) :: H.l, H.x⟩ n := by
  obtain ⟨hi, ha, hb, ⟨p1, p2, p3⟩, ⟨q1, q2, q3⟩, n1, n2, n3⟩ := h
  have := lift (n := n) (ok3.spec trFWrite (wF36n (x := H.x) hd hw)) [(1, i), (2, a), (3, b)] rfl rfl rfl (by omega) rfl rfl
    ⟨sub_wr rfl p1 q1 hi rfl, sub_ro rfl p2 ha rfl, sub_ro rfl p3 hb rfl, trivial⟩
    (by simp [apartB, apart1, rn, lk, n1, n2, n3, Ne.symm n1, Ne.symm n2, Ne.symm n3]) (by simp [wrNZ, rn, lk]; try omega) (by omega)
  exact this
theorem rnwG {k : Nat} (h0 : 1 ≤ k) (hk : k ≤ 4096) (hn : n + 3 ≤ 1000) :
    SpecAt Tryz.prog nrFNew [.v (.int .i64 k)] H n (.tup [.ptr n 0, .v (.int .i64 0)]) ⟨refL (newD k) n (n + 1) (n + 1 + 1) H.l, H.x⟩ (n + 3) := by
  have := lift (n := n) (ok3.spec trFNew (wF31 (x := H.x) h0 hk)) [] rfl rfl rfl (by omega) rfl rfl trivial rfl rfl (by omega)
  exact this
theorem wF16 {k : Int} : fnVC C3 mFFall [.ptr 1 0, .v (.int .i64 k)] (hp3r d x) 5 fun v H' n' => Sub 5 ⟨[(0, .tup [])], hp3r { d with fa := max k 0 } x, 5⟩ ⟨[(0, v)], H', n'⟩ := by
  unfold hp3r mFFall
  simp -implicitDefEqProofs only [↓fnVC, initTm]
  simp -implicitDefEqProofs only [go_sem, devB]
  refine sub_mk [] rfl rfl rfl ?_
  simp only [tmSub, hpSub, objSub, eqTm, eqHp, rn, lk, SV.ren, SV.renC, SV.renB, SV.renA, ren_ints, ren_strs, ren_pl, ren_svs, SV.v.injEq, Value.int.injEq, Body.ints.injEq, SV.ptr.injEq, SV.sl.injEq, Value.string.injEq, Value.bool.injEq, List.map_cons, List.map_nil, forall_const, Nat.reduceLT, Nat.lt_add_one, imp_self, true_and, and_true, and_self, ob_some, get_mk, lk_cons, ↓reduceIte, Nat.reduceEqDiff, ne_eq, not_true_eq_false, not_false_eq_true, Nat.one_ne_zero, Nat.zero_ne_one, Nat.succ_ne_self, Nat.reduceAdd, Bool.false_eq_true, false_implies, implies_true, reduceCtorEq]
  repeat' (first | rfl | apply And.intro)
theorem faG {k : Int} (h : DevAt H d i a b c) (hD : { d with fa := max k 0 } = d') : SpecAt Tryz.prog nFFall [.ptr i 0, .v (.int .i64 k)] H n (.tup []) ⟨(i, some ⟨true, devB d' a b c⟩) :: H.l, H.x⟩ n := by
  subst hD
  obtain ⟨hi, ha, hb, hc, ⟨p1, p2, p3, p4⟩, ⟨q1, q2, q3, q4⟩, n1, n2, n3, n4, n5, n6⟩ := h
  have := lift (n := n) (ok3.spec tFFall (wF16 (x := H.x) (d := d) (k := k))) [(1, i), (2, a), (3, b), (4, c)] rfl rfl rfl (by omega) rfl rfl
    ⟨sub_wr rfl p1 q1 hi rfl, sub_ro rfl p2 ha rfl, sub_ro rfl p3 hb rfl, sub_ro rfl p4 hc rfl, trivial⟩
    (by simp [apartB, apart1, rn, lk, n1, n2, n3, n4, n5, n6, Ne.symm n1, Ne.symm n2, Ne.symm n3, Ne.symm n4, Ne.symm n5, Ne.symm n6]) (by simp [wrNZ, rn, lk]; try omega) (by omega)
  exact this
variable {H : Hp} {n : Nat} {x : Nat → Option SO} {d d' : Fd} {i a b c : Nat} {u1 u2 u3 : Bool}
structure Pl (d : Fd) (k t : Nat) : Prop where
  ok : d.ok
  len : d.seen.length = k
  sn : Sn d
  st : d.st ≤ t
  few : d.pend.length ≤ t
theorem Pl.new {k : Nat} (hk : k ≤ 4096) : Pl (newD k) k 0 := ⟨newD_ok hk, by simp [newD], Sn.new, by simp [newD], by simp [newD]⟩
theorem Pl.wr {k t j : Nat} {s : ByteArray} (h : Pl d k t) (hj : j < k) (hs : s.size ≤ 64) (hf : d.fa ≠ 1) (ht : t < 1000000) : Pl (wrD d j s) k (t + 1) :=
  ⟨wrD_ok h.ok (by rw [h.len]; exact hj) hs hf (by have := h.st; omega) (by have := h.few; omega), by rw [wrD_len, h.len], h.sn.wr, by rw [wrD_st hf]; have := h.st; omega, by rw [wrD_pend]; have := h.few; simp; omega⟩
theorem Pl.ba {k t : Nat} (h : Pl d k t) (hf : d.fa ≠ 1) (ht : t < 1000000) : Pl (baD d) k (t + 1) :=
  ⟨baD_ok h.ok hf (by have := h.st; omega), by rw [baD_seen, h.len], h.sn.ba, by rw [baD_st hf]; have := h.st; omega, by simp [baD]⟩
theorem Pl.cr {k t : Nat} {ks : List Int} (h : Pl d k t) : Pl (crD d ks) k (t + 1) :=
  ⟨crD_ok h.ok, by simp only [crD, crl_len]; rw [h.ok.len, h.len], rfl, by have := h.st; show d.st ≤ _; omega, by simp [crD]⟩
theorem Pl.fall {k t : Nat} {v : Int} (h : Pl d k t) (hv : v ≤ 9223372036854775807) : Pl { d with fa := max v 0 } k (t + 1) := by
  obtain ⟨⟨h1, h2, h3, h4, h5, h6, h7, h8, h9, h10⟩, hl, hs, ht, hf⟩ := h
  exact ⟨⟨h1, h2, h3, h4, h5, h6, h7, h8, by simp only; omega, by simp only; omega⟩, hl, hs, by simp only; omega, by simp only; omega⟩
theorem Pl.step {k t : Nat} (h : Pl d k t) (hf : d.fa = 1) : Pl (stepD d) k (t + 1) := by
  obtain ⟨⟨h1, h2, h3, h4, h5, h6, h7, h8, h9, h10⟩, hl, hs, ht, hw⟩ := h
  unfold stepD
  rw [if_pos hf]
  exact ⟨⟨h1, h2, h3, h4, h5, h6, h7, h8, Int.le_refl _, by simp only; omega⟩, hl, hs, by simp only; omega, by simp only; omega⟩
theorem Pl.more {k t : Nat} (h : Pl d k t) : Pl d k (t + 1) := ⟨h.ok, h.len, h.sn, by have := h.st; omega, by have := h.few; omega⟩
theorem wrNo_some {e k : Int} {s : ByteArray} (h : wrNo d k s = some (e, d')) : d' = d ∨ d' = stepD d ∧ d.fa = 1 := by
  unfold wrNo at h
  split at h
  · cases h; exact .inl rfl
  split at h
  · cases h; exact .inl rfl
  split at h
  · cases h; exact .inl rfl
  split at h
  · rename_i c; cases h; exact .inr ⟨rfl, c⟩
  · cases h
theorem wrNo_none {k : Int} {s : ByteArray} (h : wrNo d k s = none) : d.off = false ∧ (∃ j : Nat, k = j ∧ j < d.seen.length) ∧ s.size ≤ 64 ∧ d.fa ≠ 1 := by
  unfold wrNo at h
  split at h
  · cases h
  rename_i c1
  split at h
  · cases h
  rename_i c2
  split at h
  · cases h
  rename_i c3
  split at h
  · cases h
  rename_i c4
  exact ⟨by simpa using c1, ⟨k.toNat, by omega, by omega⟩, by omega, c4⟩
theorem Pl.no {e k : Int} {s : ByteArray} {m t : Nat} (hP : Pl d m t) (h : wrNo d k s = some (e, d')) : Pl d' m (t + 1) ∧ d'.seen = d.seen ∧ d'.safe = d.safe ∧ d'.pend = d.pend := by
  rcases wrNo_some h with rfl | ⟨rfl, hf⟩
  · exact ⟨hP.more, rfl, rfl, rfl⟩
  · exact ⟨hP.step hf, stepD_safe.2.2, stepD_safe.1, stepD_safe.2.1⟩
def baNo (d : Fd) : Option (Int × Fd) := if d.off then some ((7 : Int), d) else if d.fa = 1 then some (7, stepD d) else none
theorem Pl.bno {e : Int} {m t : Nat} (hP : Pl d m t) (h : baNo d = some (e, d')) : Pl d' m (t + 1) ∧ d'.seen = d.seen ∧ d'.safe = d.safe ∧ d'.pend = d.pend := by
  unfold baNo at h
  split at h
  · cases h; exact ⟨hP.more, rfl, rfl, rfl⟩
  split at h
  · rename_i c; cases h; exact ⟨hP.step c, stepD_safe.2.2, stepD_safe.1, stepD_safe.2.1⟩
  · cases h
theorem baNo_none (h : baNo d = none) : d.off = false ∧ d.fa ≠ 1 := by
  unfold baNo at h
  split at h
  · cases h
  rename_i c1
  split at h
  · cases h
  rename_i c2
  exact ⟨by simpa using c1, c2⟩
end
end Go.Sx
/- Slots: a device's writes and barriers, whatever comes of them. -/
set_option linter.unusedVariables false
set_option linter.unusedSimpArgs false
set_option maxRecDepth 100000
namespace Go.Sx
open Go.Proofs
variable {H : Hp} {n : Nat} {x : Nat → Option SO} {d d' : Fd} {i a b c : Nat} {u1 u2 u3 : Bool}
theorem SpecAt.sub {P : Program} {f : Nat} {args : List SV} {v v2 : SV} {H' H2 : Hp} {n' n2 : Nat} (h : SpecAt P f args H n v H' n') (hs : Sub n ⟨[(0, v2)], H2, n2⟩ ⟨[(0, v)], H', n'⟩) : SpecAt P f args H n v2 H2 n2 := by
  intro F w0 w ρ xs hH hz hl
  refine (h F w0 w ρ xs hH hz hl).mono ?_
  rintro e w' ⟨x, ρ1, rfl, hr, hlt, hH1, hx, hn⟩
  obtain ⟨ρ', hR⟩ := hs.sound (N := 1) (ρ0 := ρ) (a := ⟨#[x], []⟩) hH.pos ⟨⟨F, w0, hH1, Sup.refl hH1, trivial⟩, ⟨⟨fun t u hu => by
    simp only [lk] at hu
    split at hu
    · rename_i e; subst e; cases hu; exact ⟨⟨x, rfl, hr⟩, hlt⟩
    · cases hu⟩, rfl, rfl⟩, hx, hn⟩
  obtain ⟨⟨y, hy, hry⟩, hly⟩ := hR.a.t.get 0 v2 rfl
  simp at hy; subst hy
  exact ⟨x, ρ', rfl, hry, hly, hR.h, hR.e, hR.b⟩
def wrT (d : Fd) (k : Int) (s : ByteArray) : Int × Fd := match wrNo d k s with
  | some p => p
  | none => (0, wrD d k.toNat s)
def baT (d : Fd) : Int × Fd := match baNo d with
  | some p => p
  | none => (0, baD d)
theorem wrT_pl {k : Int} {s : ByteArray} {m t : Nat} (hP : Pl d m t) (ht : t < 1000000) : Pl (wrT d k s).2 m (t + 1) := by
  unfold wrT
  cases hw : wrNo d k s with
  | some p => exact (hP.no hw).1
  | none =>
    obtain ⟨h1, ⟨j, rfl, hj⟩, h3, h4⟩ := wrNo_none hw
    exact hP.wr (by rw [← hP.len]; exact hj) h3 h4 ht
theorem baT_pl {m t : Nat} (hP : Pl d m t) (ht : t < 1000000) : Pl (baT d).2 m (t + 1) := by
  unfold baT
  cases hw : baNo d with
  | some p => exact (hP.bno hw).1
  | none => exact hP.ba (baNo_none hw).2 ht
theorem devC : DevAt (hp3 d x) d 1 2 3 4 := ⟨rfl, rfl, rfl, rfl, by decide⟩
theorem refC : RefAt ⟨refL d 1 2 3 [], x⟩ d 1 2 3 true true true := ⟨rfl, rfl, rfl, by decide⟩
def devK (d : Fd) : List (Nat × Option SO) := [(1, some ⟨true, devB d 5 6 7⟩), (2, none), (3, none), (4, none), (5, some ⟨true, secB d.seen⟩), (6, some ⟨true, secB d.safe⟩), (7, some ⟨true, .pl (prow d.pend)⟩)]
def refK (d : Fd) : List (Nat × Option SO) := [(1, some ⟨true, refB d 4 5⟩), (2, none), (3, none), (4, some ⟨true, strB d.safe⟩), (5, some ⟨true, .pl (qrow d.pend)⟩)]
theorem wrTc {k : Int} {s : ByteArray} {m t : Nat} (hP : Pl d m t) (ht : t < 1000000) :
    SpecAt Tryz.prog nFWrite [.ptr 1 0, .v (.int .i64 k), .v (.string s)] (hp3 d x) 5 (.v (.int .i64 (wrT d k s).1)) ⟨devK (wrT d k s).2, x⟩ 8 := by
  unfold wrT
  cases hw : wrNo d k s with
  | some p =>
    obtain ⟨e, d'⟩ := p
    obtain ⟨hP', hr⟩ := hP.no hw
    refine (wrF devC hP.ok hw hr).sub ?_
    refine sub_mk [(5, 2), (6, 3), (7, 4)] rfl rfl rfl ?_
    obtain ⟨h1, h2, h3⟩ := hr
    simp only [devK, devB, secB, hp3, tmSub, hpSub, objSub, eqTm, eqHp, rn, lk, SV.ren, SV.renC, SV.renB, SV.renA, ren_ints, ren_strs, ren_pl, ren_svs, SV.v.injEq, Value.int.injEq, Body.ints.injEq, SV.ptr.injEq, SV.sl.injEq, Value.string.injEq, Value.bool.injEq, List.map_cons, List.map_nil, forall_const, Nat.reduceLT, Nat.lt_add_one, imp_self, true_and, and_true, and_self, ob_some, get_mk, lk_cons, ↓reduceIte, Nat.reduceEqDiff, ne_eq, not_true_eq_false, not_false_eq_true, Nat.one_ne_zero, Nat.zero_ne_one, Nat.succ_ne_self, Nat.reduceAdd, Bool.false_eq_true, false_implies, implies_true, reduceCtorEq, h1, h2, h3]
  | none =>
    obtain ⟨h1, ⟨j, rfl, hj⟩, h3, h4⟩ := wrNo_none hw
    refine (wrW devC hP.ok hj h3 h1 h4 (by decide) rfl).sub ?_
    refine sub_mk [(5, 2), (6, 3), (7, 5)] rfl rfl rfl ?_
    simp only [devK, devB, secB, hp3, tmSub, hpSub, objSub, eqTm, eqHp, rn, lk, SV.ren, SV.renC, SV.renB, SV.renA, ren_ints, ren_strs, ren_pl, ren_svs, SV.v.injEq, Value.int.injEq, Body.ints.injEq, SV.ptr.injEq, SV.sl.injEq, Value.string.injEq, Value.bool.injEq, List.map_cons, List.map_nil, forall_const, Nat.reduceLT, Nat.lt_add_one, imp_self, true_and, and_true, and_self, ob_some, get_mk, lk_cons, ↓reduceIte, Nat.reduceEqDiff, ne_eq, not_true_eq_false, not_false_eq_true, Nat.one_ne_zero, Nat.zero_ne_one, Nat.succ_ne_self, Nat.reduceAdd, Bool.false_eq_true, false_implies, implies_true, reduceCtorEq, Int.toNat_natCast]
theorem wrTS {k : Int} {s : ByteArray} {m t : Nat} (h : DevAt H d i a b c) (hP : Pl d m t) (ht : t < 1000000) (hn : n + 3 ≤ 1000) {e : Int} (hD : wrT d k s = (e, d')) :
    SpecAt Tryz.prog nFWrite [.ptr i 0, .v (.int .i64 k), .v (.string s)] H n (.v (.int .i64 e))
      ⟨(i, some ⟨true, devB d' n (n + 1) (n + 1 + 1)⟩) :: (a, none) :: (b, none) :: (c, none) :: (n, some ⟨true, secB d'.seen⟩) :: (n + 1, some ⟨true, secB d'.safe⟩) :: (n + 1 + 1, some ⟨true, .pl (prow d'.pend)⟩) :: H.l, H.x⟩ (n + 3) := by
  obtain ⟨hi, ha, hb, hc, ⟨p1, p2, p3, p4⟩, ⟨q1, q2, q3, q4⟩, n1, n2, n3, n4, n5, n6⟩ := h
  have e1 : (wrT d k s).1 = e := by rw [hD]
  have e2 : (wrT d k s).2 = d' := by rw [hD]
  subst e1; subst e2
  have := lift (n := n) (wrTc (x := H.x) (k := k) (s := s) hP ht) [(1, i), (2, a), (3, b), (4, c)] rfl rfl rfl (by omega) rfl rfl
    ⟨sub_wr rfl p1 q1 hi rfl, sub_wr rfl p2 q2 ha rfl, sub_wr rfl p3 q3 hb rfl, sub_wr rfl p4 q4 hc rfl, trivial⟩
    (by simp [devK, devL, apartB, apart1, rn, lk, n1, n2, n3, n4, n5, n6, Ne.symm n1, Ne.symm n2, Ne.symm n3, Ne.symm n4, Ne.symm n5, Ne.symm n6]) (by simp [devK, devL, wrNZ, rn, lk]; omega) (by omega)
  exact this
theorem baTc {m t : Nat} (hP : Pl d m t) (ht : t < 1000000) :
    SpecAt Tryz.prog nFBarrier [.ptr 1 0] (hp3 d x) 5 (.v (.int .i64 (baT d).1)) ⟨devK (baT d).2, x⟩ 8 := by
  unfold baT
  cases hw : baNo d with
  | some p =>
    obtain ⟨e, d'⟩ := p
    obtain ⟨hP', hr⟩ := hP.bno hw
    refine (baF devC hw).sub ?_
    refine sub_mk [(5, 2), (6, 3), (7, 4)] rfl rfl rfl ?_
    obtain ⟨h1, h2, h3⟩ := hr
    simp only [devK, devB, secB, hp3, tmSub, hpSub, objSub, eqTm, eqHp, rn, lk, SV.ren, SV.renC, SV.renB, SV.renA, ren_ints, ren_strs, ren_pl, ren_svs, SV.v.injEq, Value.int.injEq, Body.ints.injEq, SV.ptr.injEq, SV.sl.injEq, Value.string.injEq, Value.bool.injEq, List.map_cons, List.map_nil, forall_const, Nat.reduceLT, Nat.lt_add_one, imp_self, true_and, and_true, and_self, ob_some, get_mk, lk_cons, ↓reduceIte, Nat.reduceEqDiff, ne_eq, not_true_eq_false, not_false_eq_true, Nat.one_ne_zero, Nat.zero_ne_one, Nat.succ_ne_self, Nat.reduceAdd, Bool.false_eq_true, false_implies, implies_true, reduceCtorEq, h1, h2, h3]
  | none =>
    obtain ⟨h1, h4⟩ := baNo_none hw
    refine (baW devC hP.ok h1 h4 (by decide) rfl).sub ?_
    refine sub_mk [(5, 2), (6, 3), (7, 5)] rfl rfl rfl ?_
    simp only [devK, devB, secB, hp3, tmSub, hpSub, objSub, eqTm, eqHp, rn, lk, SV.ren, SV.renC, SV.renB, SV.renA, ren_ints, ren_strs, ren_pl, ren_svs, SV.v.injEq, Value.int.injEq, Body.ints.injEq, SV.ptr.injEq, SV.sl.injEq, Value.string.injEq, Value.bool.injEq, List.map_cons, List.map_nil, forall_const, Nat.reduceLT, Nat.lt_add_one, imp_self, true_and, and_true, and_self, ob_some, get_mk, lk_cons, ↓reduceIte, Nat.reduceEqDiff, ne_eq, not_true_eq_false, not_false_eq_true, Nat.one_ne_zero, Nat.zero_ne_one, Nat.succ_ne_self, Nat.reduceAdd, Bool.false_eq_true, false_implies, implies_true, reduceCtorEq]
theorem baTS {m t : Nat} (h : DevAt H d i a b c) (hP : Pl d m t) (ht : t < 1000000) (hn : n + 3 ≤ 1000) {e : Int} (hD : baT d = (e, d')) :
    SpecAt Tryz.prog nFBarrier [.ptr i 0] H n (.v (.int .i64 e))
      ⟨(i, some ⟨true, devB d' n (n + 1) (n + 1 + 1)⟩) :: (a, none) :: (b, none) :: (c, none) :: (n, some ⟨true, secB d'.seen⟩) :: (n + 1, some ⟨true, secB d'.safe⟩) :: (n + 1 + 1, some ⟨true, .pl (prow d'.pend)⟩) :: H.l, H.x⟩ (n + 3) := by
  obtain ⟨hi, ha, hb, hc, ⟨p1, p2, p3, p4⟩, ⟨q1, q2, q3, q4⟩, n1, n2, n3, n4, n5, n6⟩ := h
  have e1 : (baT d).1 = e := by rw [hD]
  have e2 : (baT d).2 = d' := by rw [hD]
  subst e1; subst e2
  have := lift (n := n) (baTc (x := H.x) hP ht) [(1, i), (2, a), (3, b), (4, c)] rfl rfl rfl (by omega) rfl rfl
    ⟨sub_wr rfl p1 q1 hi rfl, sub_wr rfl p2 q2 ha rfl, sub_wr rfl p3 q3 hb rfl, sub_wr rfl p4 q4 hc rfl, trivial⟩
    (by simp [devK, devL, apartB, apart1, rn, lk, n1, n2, n3, n4, n5, n6, Ne.symm n1, Ne.symm n2, Ne.symm n3, Ne.symm n4, Ne.symm n5, Ne.symm n6]) (by simp [devK, devL, wrNZ, rn, lk]; omega) (by omega)
  exact this
theorem rwrTc {k : Int} {s : ByteArray} {m t : Nat} (hP : Pl d m t) (ht : t < 1000000) :
    SpecAt Tryz.prog nrFWrite [.ptr 1 0, .v (.int .i64 k), .v (.string s)] ⟨refL d 1 2 3 [], x⟩ 4 (.v (.int .i64 (wrT d k s).1)) ⟨refK (wrT d k s).2, x⟩ 6 := by
  unfold wrT
  cases hw : wrNo d k s with
  | some p =>
    obtain ⟨e, d'⟩ := p
    obtain ⟨hP', hr⟩ := hP.no hw
    refine (rwrF refC hP.ok hw).sub ?_
    refine sub_mk [(4, 2), (5, 3)] rfl rfl rfl ?_
    obtain ⟨h1, h2, h3⟩ := hr
    simp only [refK, refL, refB, strB, tmSub, hpSub, objSub, eqTm, eqHp, rn, lk, SV.ren, SV.renC, SV.renB, SV.renA, ren_ints, ren_strs, ren_pl, ren_svs, SV.v.injEq, Value.int.injEq, Body.ints.injEq, SV.ptr.injEq, SV.sl.injEq, Value.string.injEq, Value.bool.injEq, List.map_cons, List.map_nil, forall_const, Nat.reduceLT, Nat.lt_add_one, imp_self, true_and, and_true, and_self, ob_some, get_mk, lk_cons, ↓reduceIte, Nat.reduceEqDiff, ne_eq, not_true_eq_false, not_false_eq_true, Nat.one_ne_zero, Nat.zero_ne_one, Nat.succ_ne_self, Nat.reduceAdd, Bool.false_eq_true, false_implies, implies_true, reduceCtorEq, h1, h2, h3]
  | none =>
    obtain ⟨h1, ⟨j, rfl, hj⟩, h3, h4⟩ := wrNo_none hw
    refine (rwrG refC hP.ok hj h3 h1 h4 (by have := hP.st; omega) (by have := hP.few; omega) (by decide) rfl).sub ?_
    refine sub_mk [(4, 2), (5, 4)] rfl rfl rfl ?_
    simp only [refK, refL, refB, strB, tmSub, hpSub, objSub, eqTm, eqHp, rn, lk, SV.ren, SV.renC, SV.renB, SV.renA, ren_ints, ren_strs, ren_pl, ren_svs, SV.v.injEq, Value.int.injEq, Body.ints.injEq, SV.ptr.injEq, SV.sl.injEq, Value.string.injEq, Value.bool.injEq, List.map_cons, List.map_nil, forall_const, Nat.reduceLT, Nat.lt_add_one, imp_self, true_and, and_true, and_self, ob_some, get_mk, lk_cons, ↓reduceIte, Nat.reduceEqDiff, ne_eq, not_true_eq_false, not_false_eq_true, Nat.one_ne_zero, Nat.zero_ne_one, Nat.succ_ne_self, Nat.reduceAdd, Bool.false_eq_true, false_implies, implies_true, reduceCtorEq, Int.toNat_natCast, wrD_safe]
theorem rbaTc {m t : Nat} (hP : Pl d m t) (ht : t < 1000000) :
    SpecAt Tryz.prog nrFBarrier [.ptr 1 0] ⟨refL d 1 2 3 [], x⟩ 4 (.v (.int .i64 (baT d).1)) ⟨refK (baT d).2, x⟩ 6 := by
  unfold baT
  cases hw : baNo d with
  | some p =>
    obtain ⟨e, d'⟩ := p
    obtain ⟨hP', hr⟩ := hP.bno hw
    refine (rbaF refC hP.ok hw).sub ?_
    refine sub_mk [(4, 2), (5, 3)] rfl rfl rfl ?_
    obtain ⟨h1, h2, h3⟩ := hr
    simp only [refK, refL, refB, strB, tmSub, hpSub, objSub, eqTm, eqHp, rn, lk, SV.ren, SV.renC, SV.renB, SV.renA, ren_ints, ren_strs, ren_pl, ren_svs, SV.v.injEq, Value.int.injEq, Body.ints.injEq, SV.ptr.injEq, SV.sl.injEq, Value.string.injEq, Value.bool.injEq, List.map_cons, List.map_nil, forall_const, Nat.reduceLT, Nat.lt_add_one, imp_self, true_and, and_true, and_self, ob_some, get_mk, lk_cons, ↓reduceIte, Nat.reduceEqDiff, ne_eq, not_true_eq_false, not_false_eq_true, Nat.one_ne_zero, Nat.zero_ne_one, Nat.succ_ne_self, Nat.reduceAdd, Bool.false_eq_true, false_implies, implies_true, reduceCtorEq, h1, h2, h3]
  | none =>
    obtain ⟨h1, h4⟩ := baNo_none hw
    refine (rbaG refC hP.ok (by have := hP.st; omega) h1 h4 (by decide) rfl).sub ?_
    refine sub_mk [] rfl rfl rfl ?_
    simp only [refK, refL, refB, strB, tmSub, hpSub, objSub, eqTm, eqHp, rn, lk, SV.ren, SV.renC, SV.renB, SV.renA, ren_ints, ren_strs, ren_pl, ren_svs, SV.v.injEq, Value.int.injEq, Body.ints.injEq, SV.ptr.injEq, SV.sl.injEq, Value.string.injEq, Value.bool.injEq, List.map_cons, List.map_nil, forall_const, Nat.reduceLT, Nat.lt_add_one, imp_self, true_and, and_true, and_self, ob_some, get_mk, lk_cons, ↓reduceIte, Nat.reduceEqDiff, ne_eq, not_true_eq_false, not_false_eq_true, Nat.one_ne_zero, Nat.zero_ne_one, Nat.succ_ne_self, Nat.reduceAdd, Bool.false_eq_true, false_implies, implies_true, reduceCtorEq]
theorem rwrTS {k : Int} {s : ByteArray} {m t : Nat} (h : RefAt H d i a b true true true) (hP : Pl d m t) (ht : t < 1000000) (hn : n + 2 ≤ 1000) {e : Int} (hD : wrT d k s = (e, d')) :
    SpecAt Tryz.prog nrFWrite [.ptr i 0, .v (.int .i64 k), .v (.string s)] H n (.v (.int .i64 e))
      ⟨(i, some ⟨true, refB d' n (n + 1)⟩) :: (a, none) :: (b, none) :: (n, some ⟨true, strB d'.safe⟩) :: (n + 1, some ⟨true, .pl (qrow d'.pend)⟩) :: H.l, H.x⟩ (n + 2) := by
  obtain ⟨hi, ha, hb, ⟨p1, p2, p3⟩, ⟨q1, q2, q3⟩, n1, n2, n3⟩ := h
  have e1 : (wrT d k s).1 = e := by rw [hD]
  have e2 : (wrT d k s).2 = d' := by rw [hD]
  subst e1; subst e2
  have := lift (n := n) (rwrTc (x := H.x) (k := k) (s := s) hP ht) [(1, i), (2, a), (3, b)] rfl rfl rfl (by omega) rfl rfl
    ⟨sub_wr rfl p1 q1 hi rfl, sub_wr rfl p2 q2 ha rfl, sub_wr rfl p3 q3 hb rfl, trivial⟩
    (by simp [refK, refL, apartB, apart1, rn, lk, n1, n2, n3, Ne.symm n1, Ne.symm n2, Ne.symm n3]) (by simp [refK, refL, wrNZ, rn, lk]; omega) (by omega)
  exact this
theorem rbaTS {m t : Nat} (h : RefAt H d i a b true true true) (hP : Pl d m t) (ht : t < 1000000) (hn : n + 2 ≤ 1000) {e : Int} (hD : baT d = (e, d')) :
    SpecAt Tryz.prog nrFBarrier [.ptr i 0] H n (.v (.int .i64 e))
      ⟨(i, some ⟨true, refB d' n (n + 1)⟩) :: (a, none) :: (b, none) :: (n, some ⟨true, strB d'.safe⟩) :: (n + 1, some ⟨true, .pl (qrow d'.pend)⟩) :: H.l, H.x⟩ (n + 2) := by
  obtain ⟨hi, ha, hb, ⟨p1, p2, p3⟩, ⟨q1, q2, q3⟩, n1, n2, n3⟩ := h
  have e1 : (baT d).1 = e := by rw [hD]
  have e2 : (baT d).2 = d' := by rw [hD]
  subst e1; subst e2
  have := lift (n := n) (rbaTc (x := H.x) hP ht) [(1, i), (2, a), (3, b)] rfl rfl rfl (by omega) rfl rfl
    ⟨sub_wr rfl p1 q1 hi rfl, sub_wr rfl p2 q2 ha rfl, sub_wr rfl p3 q3 hb rfl, trivial⟩
    (by simp [refK, refL, apartB, apart1, rn, lk, n1, n2, n3, Ne.symm n1, Ne.symm n2, Ne.symm n3]) (by simp [refK, refL, wrNZ, rn, lk]; omega) (by omega)
  exact this
end Go.Sx
