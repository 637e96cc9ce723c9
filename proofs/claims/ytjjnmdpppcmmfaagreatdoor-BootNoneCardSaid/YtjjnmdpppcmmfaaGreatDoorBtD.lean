/- Cells: the rest of the calls; nil cells. -/
import Derived.Test.YtjjnmdpppcmmfaaGreatDoorBtC
import Derived.Test.YtjjnmdpppcmmfaaGreatDoorRows
import Derived.Lib.LaidTab

set_option linter.unusedVariables false
set_option linter.unusedSimpArgs false
set_option maxRecDepth 100000
namespace Go.Sx
attribute [local go_sem ↓] bind_mk intsB_mk strsB_mk svB_mk fnVC ob_some vc_skip vc_exit vc_ret vc_seq vc_block kSeq_normal kSeq_exit kSeq_ret kBlock_normal kBlock_exit kBlock_ret vc_reg vc_regD vc_cond condK_true condK_false vc_loop kLoop_exit kLoop_ret kRoll_normal kRoll_exit kRoll_ret vcOps_nil vcOps_cons gd_bool gd_undef put_some put_none vcT_fin vcT_pure vcT_act vcT_acts vcT_stop stab_none stab_some stabM_nil stabM_cons stabO_ld stabO_ldn stabO_slP stabO_b2s fldOf_ai fldOf_agg fldOf_ait fldOf_aggt intsOf_nil intsOf_cons strsOf_nil strsOf_cons c_omap ob_if lk_nil lk_cons ev_t ev_k z_mov z_pick z_bin z_binA z_binB z_binP z_un z_r2s z_conv z_s2b z_b2s z_mkM z_luM z_upM z_lenM lenMk_mp lenMk_nil plsOf_v z_delM asM_so plV_v plV_agg mpOf_mp mpOf_nil mpUp_mp asM_mp luV_ok luV_v z_allocT aggOf_mk z_boxT z_alloc z_bld z_bldI z_rowI z_rowS z_ld z_ldn z_st z_stn asN_ptr asN_fn z_nilck z_fld z_fadr z_idxA z_idxP z_idxS z_idxV z_slS z_slL z_slP z_mk z_lenS z_lenL z_app appC_ints appC_pl appC_sv appC_strs isS_strs loose_ints loose_pl loose_sv z_slM z_callv callvK_fn callvK_f callvK_yl vc_rangeF rfEnd_eq rfGo_none rfGo_ret rfGo_exit yGo_mk yEnd_n yEnd_r yEnd_e yRdy_mk yMid_n putPs_nil putPs_cons leaf_v leaf_ptr leaf_sl leaf_yl leaf_mp z_appS z_appST z_appZ z_cpyS z_mkfn reps_int reps_str z_rowV z_slnil nilK_zero z_cpy z_call asT_tup z_extT z_box boxOf_ai boxOf_agg boxOf_int boxOf_str boxOf_bool boxOf_ptr boxOf_sl sbin_int sbin_str sbinA_mk ae_nil ae_int ae_str sbinB_mk sbinP_nn sbinP_pn sbinP_np i_add i_sub i_mul i_quo i_rem i_and i_or i_xor i_andNot i_shl i_shr i_eql i_neq i_lss i_leq i_gtr i_geq st_add st_eql st_neq st_lss st_leq st_gtr st_geq bo_eql bo_neq pt_eql pt_neq un_neg un_xor un_not asI_mk asB_mk asS_mk asP_mk asSl_mk asBy_mk bnd_none bnd_some get_mk hput_mk hdel_mk kill_eq wrOf_eq rowOf_eq rsvs_0 rsvs_1 rsvs_2 rsvs_3 rsv_t rsv_c1 rsv_cn nt_v nt_ptr nt_sl nt_agg nt_ai get_ints get_strs get_pl get_sv getN_ints getN_sv set_ints set_strs set_sv setN_ints setN_sv part_ints part_strs part_sv cat_ints cat_strs cat_sv over_ints over_strs over_sv ones_ints ones_strs evs_nil evs_cons condK_eqt condK_eqf det_callP V_ns V_nn V_gs V_gn obC_mk fresh_ev freshT_ev freshR_ev setN_plagg setN_intsv setN_svai setN_svagg over_intsv set_pl setN_pl setN_plai getN_pl getN_strs part_pl cat_pl over_pl over_plints z_mm
attribute [local go_sem] initTm ne_eq not_true_eq_false not_false_eq_true true_and and_true List.length_cons List.length_nil Int.toNat_natCast Nat.add_zero Nat.zero_add Nat.mul_one List.getElem?_cons_zero List.drop_zero List.take_length List.take_succ_cons List.take_zero List.take_nil List.drop_succ_cons Option.map_some Nat.le_refl implies_true List.getElem?_cons_succ decide_true decide_false Bool.not_true Bool.not_false beq_self_eq_true Nat.succ_ne_self Nat.one_ne_zero Nat.zero_ne_one vk_mk hk_mk nk_mk tok_eq plsOf_map intsOf_map bodyOf_pl bodyOf_ints bodyOf_strs bodyOf_sv part_aggv part_agg part_ai part_int part_str part_bool part_sl part_ptr part_nil numsOf_map u_int u_str u_bool u_pnil u_sl u_ptr u_oci u_ocs evq_nil evq_cons fillS_nil fillS_cons u_ocb ones_pl cells_sv cells_ints cells_strs cells_pl smms_nil smms_cons smm_min smm_max plsOf_nil List.nil_append List.all_cons List.all_nil Bool.and_self Bool.true_and Bool.and_true zws_len zw_len zi_len List.set_cons_zero List.set_cons_succ List.flatMap_cons List.flatMap_nil List.append_nil
attribute [local go_sem_proc] Nat.reduceEqDiff Nat.reduceAdd Nat.reduceMul Nat.reduceLT Nat.reduceLeDiff Nat.reduceSub Int.reduceToNat Int.reduceLE Int.reduceLT reduceCtorEq Int.reduceEq Int.reduceGT Int.reduceGE Int.reduceNeg
attribute [local go_sem_proc ↓] reduceIte
section
open Go.Proofs
variable {H : Hp} {n : Nat} {x : Nat → Option SO} {i D a b c M W : Nat} {d d' : Fd} {C C' : Ce}
theorem commitS {m t : Nat} (h : CellAt H C d i D a b c M W) (hC : C.ok) (hP : Pl d m t) (ht : t + 1000 < 1000000) (hn : n + 4 ≤ 1000) {e : Int} (hq : coR C d = (e, C', d')) :
    SpecAt Tryz.prog nCCommit [.ptr i 0] H n (.v (.int .i64 e)) ⟨(i, some ⟨true, cellB C' D M (n + 3)⟩) :: (D, some ⟨true, devB d' n (n + 1) (n + 2)⟩) :: (a, none) :: (b, none) :: (c, none) :: (M, some ⟨true, .mp (.map C'.now)⟩) :: (W, none) :: (n, some ⟨true, secB d'.seen⟩) :: (n + 1, some ⟨true, secB d'.safe⟩) :: (n + 2, some ⟨true, .pl (prow d'.pend)⟩) :: (n + 3, some ⟨true, .mp (.map C'.was)⟩) :: H.l, H.x⟩ (n + 4) := by
  have e1 : (coR C d).1 = e := by rw [hq]
  have e2 : (coR C d).2.1 = C' := by rw [hq]
  have e3 : (coR C d).2.2 = d' := by rw [hq]
  subst e1; subst e2; subst e3
  have := lift (n := n) (okT.spec tCCommit (commitW (x := H.x) hC hP ht)) (ceP i D a b c M W) rfl rfl rfl (by omega) rfl rfl h.sub h.ap h.nz (by omega)
  exact this
def ceHr (C : Ce) (d : Fd) (x : Nat → Option SO) : Hp := ⟨[(1, some ⟨false, cellB C 2 6 7⟩), (2, some ⟨false, devB d 3 4 5⟩), (3, some ⟨false, secB d.seen⟩), (4, some ⟨false, secB d.safe⟩), (5, some ⟨false, .pl (prow d.pend)⟩), (6, some ⟨false, .mp (.map C.now)⟩), (7, some ⟨false, .mp (.map C.was)⟩)], x⟩
theorem CellAt.sub_r (h : CellAt H C d i D a b c M W) : hpSub (ceP i D a b c M W) H (ceHr C d x).l := by
  obtain ⟨g1, g2, g3, g4, g5, g6, g7, hp, _, _⟩ := h
  simp at hp
  exact ⟨sub_ro rfl hp.1.1 g1 rfl, sub_ro rfl hp.2.1.1 g2 rfl, sub_ro rfl hp.2.2.1.1 g3 rfl, sub_ro rfl hp.2.2.2.1.1 g4 rfl, sub_ro rfl hp.2.2.2.2.1.1 g5 rfl, sub_ro rfl hp.2.2.2.2.2.1.1 g6 rfl, sub_ro rfl hp.2.2.2.2.2.2.1 g7 rfl, trivial⟩
theorem getW {name : ByteArray} (hE : Es C.now) : fnVC CT mCGet [.ptr 1 0, .v (.string name)] (ceHr C d x) 8 fun v H' n' => Sub 8 ⟨[(0, getV C.now name)], ⟨[], x⟩, 8⟩ ⟨[(0, v)], H', n'⟩ := by
  have hk := hE.keys
  have hg := hE.el name
  unfold mCGet ceHr cellB
  simp -implicitDefEqProofs only [↓fnVC, initTm]
  simp -implicitDefEqProofs only [go_sem, asM_so, hk, hg, spl1]
  unfold getV
  refine sub_mk [] rfl rfl rfl ?_
  simp only [tmSub, hpSub, objSub, eqTm, eqHp, rn, lk, SV.ren, SV.renC, SV.renB, SV.renA, ren_ints, ren_strs, ren_pl, ren_svs, List.map_cons, List.map_nil, forall_const, Nat.reduceLT, true_and, and_true, ob_some, get_mk, lk_cons, ↓reduceIte, Nat.reduceEqDiff, Nat.reduceAdd, implies_true, reduceCtorEq]
theorem cNamesW (hE : Es C.now) : fnVC CT mCNames [.ptr 1 0] (ceHr C d x) 8 fun v H' n' => Sub 8 ⟨[(0, .sl 8 0 C.now.length 1)], ⟨[(8, some ⟨true, .strs (srtK C.now)⟩)], x⟩, 9⟩ ⟨[(0, v)], H', n'⟩ := by
  have hl := hE.len
  unfold mCNames ceHr cellB
  simp -implicitDefEqProofs only [↓fnVC, initTm]
  simp -implicitDefEqProofs only [go_sem]
  refine at_call tcnames (namesS (i := 6) (by rfl) rfl (by decide) hE.keys (fun e he => Nat.le_trans (hE.kl e he) (by decide)) (by omega) (by decide)) ?_
  simp -implicitDefEqProofs only [go_sem]
  refine sub_mk [] rfl rfl rfl ?_
  simp only [tmSub, hpSub, objSub, eqTm, eqHp, rn, lk, SV.ren, SV.renC, SV.renB, SV.renA, ren_ints, ren_strs, ren_pl, ren_svs, List.map_cons, List.map_nil, forall_const, Nat.reduceLT, true_and, and_true, ob_some, get_mk, lk_cons, ↓reduceIte, Nat.reduceEqDiff, Nat.reduceAdd, implies_true, reduceCtorEq]
theorem getN {s : ByteArray} : SpecAt Tryz.prog nCGet [.v (.pointer none), .v (.string s)] H n (.tup [.v (.string ⟨#[]⟩), .v (.bool false)]) H n := okT.pure tCGet (by
  unfold mCGet
  simp -implicitDefEqProofs only [↓fnVC, initTm]
  simp -implicitDefEqProofs only [go_sem])
end
section
/- Cells: what is then read. -/
set_option linter.unusedVariables false
set_option linter.unusedSimpArgs false
set_option maxRecDepth 100000
open Go.Proofs
variable {H : Hp} {n : Nat} {x : Nat → Option SO} {d d' : Fd} {i a b c : Nat} {u1 u2 u3 : Bool}
theorem getD_set_ne {α : Type} {l : List α} {i j : Nat} {v z : α} (h : i ≠ j) : (l.set i v).getD j z = l.getD j z := by
  rw [List.getD_eq_getElem?_getD, List.getElem?_set_ne h, ← List.getD_eq_getElem?_getD]
theorem getD_set_eq {α : Type} {l : List α} {i : Nat} {v z : α} (h : i < l.length) : (l.set i v).getD i z = v := by
  rw [List.getD_eq_getElem?_getD, List.getElem?_set_self h]; rfl
theorem pch_len {a0 j : Nat} {I : ByteArray} : (pch a0 I j).length = j := by simp [pch]
theorem pch_mem {a0 j : Nat} {I : ByteArray} : ∀ w ∈ pch a0 I j, a0 < w.1 ∧ w.1 ≤ a0 + j ∧ w.2.length = 64 := by
  intro w hw
  unfold pch at hw
  obtain ⟨k, hk, rfl⟩ := List.mem_map.1 hw
  have := List.mem_range.1 hk
  exact ⟨by show a0 < a0 + 1 + k; omega, by show a0 + 1 + k ≤ a0 + j; omega, pad64_len (by rw [bts_len]; exact chk_size)⟩
theorem pch_get {a0 j k : Nat} {I : ByteArray} (h : k < j) : (pch a0 I j).getD k (0, []) = (a0 + 1 + k, pad64 (bts (chk I k))) := by
  unfold pch
  rw [List.getD_eq_getElem?_getD, List.getElem?_map, List.getElem?_range h]; rfl
theorem setl_pch {S : List (List Int)} {a0 j k : Nat} {I : ByteArray} (h : k < j) (hl : a0 + 1 + k < S.length) : (setl S (pch a0 I j)).getD (a0 + 1 + k) [] = pad64 (bts (chk I k)) := by
  have := setl_hit (S := S) (ws := pch a0 I j) (t := k) (j := a0 + 1 + k) (by rw [pch_len]; exact h) hl (by rw [pch_get h]) (by
    intro w hw
    unfold pch at hw
    rw [← List.map_drop] at hw
    obtain ⟨q, hq, rfl⟩ := List.mem_map.1 hw
    have : k + 1 ≤ q := by
      rw [List.range_eq_range', List.drop_range'] at hq
      have := List.mem_range'.1 hq
      omega
    show a0 + 1 + q ≠ a0 + 1 + k
    omega)
  rw [this, pch_get h]
theorem done_at {S : List (List Int)} {a0 : Nat} {I Q : ByteArray} (h : a0 < S.length) : (doneS S a0 Q I).getD a0 [] = hd64 Q := by
  unfold doneS; rw [getD_set_eq (by rw [setl_len, List.length_set]; exact h)]
theorem done_ch {S : List (List Int)} {a0 k : Nat} {I Q : ByteArray} (hk : k < nCh I) (h : a0 + 1 + k < S.length) : (doneS S a0 Q I).getD (a0 + 1 + k) [] = pad64 (bts (chk I k)) := by
  unfold doneS; rw [getD_set_ne (by omega), setl_pch hk (by rw [List.length_set]; exact h)]
theorem done_ne {S : List (List Int)} {a0 k : Nat} {I Q : ByteArray} (hk : k < a0 ∨ a0 + nCh I < k) : (doneS S a0 Q I).getD k [] = S.getD k [] := by
  unfold doneS
  rw [getD_set_ne (by omega), setl_none (fun w hw => by have := pch_mem w hw; omega), getD_set_ne (by omega)]
theorem pad_bytes {ys : List Int} (h : ∀ y ∈ ys, 0 ≤ y ∧ y ≤ 255) : ∀ y ∈ pad64 ys, 0 ≤ y ∧ y ≤ 255 := by
  intro y hy
  unfold pad64 at hy
  rcases List.mem_append.1 hy with hy | hy
  · exact h y hy
  · rw [List.eq_of_mem_replicate hy]; decide
theorem pad_split {B : List Int} {j : Nat} (h : 64 * j < B.length) : pad64 ((B.drop (64 * j)).take (min (64 * j + 64) B.length - 64 * j)) = ((B ++ List.replicate 64 0).drop (64 * j)).take 64 := by
  unfold pad64
  rw [List.drop_append_of_le_length (by omega), List.take_append]
  simp only [List.length_take, List.length_drop]
  have e1 : min (64 * j + 64) B.length - 64 * j = min 64 (B.length - 64 * j) := by omega
  rw [e1, List.take_replicate]
  congr 1
  · rw [show min 64 (B.length - 64 * j) = min 64 (B.drop (64 * j)).length by rw [List.length_drop], ← List.take_eq_take_min]
  · congr 1; omega
theorem bts_chk {I : ByteArray} {j : Nat} : bts (chk I j) = ((bts I).drop (64 * j)).take (min (64 * j + 64) (bts I).length - 64 * j) := by
  unfold chk; rw [bts_ext, bts_len]
theorem imgT_done {a0 : Nat} {I : ByteArray} (hc : ∀ k, k < nCh I → d.seen.getD (a0 + 1 + k) [] = pad64 (bts (chk I k))) : ∀ j, j ≤ nCh I → bts (imgT a0 d j) = (bts I ++ List.replicate 64 0).take (64 * j)
  | 0, _ => rfl
  | j + 1, h => by
    have hj : 64 * j < I.size := nCh_lt.1 (by omega)
    show bts (imgT a0 d j ++ secT d ((a0 : Int) + 1 + j)) = _
    rw [bts_app, imgT_done hc j (by omega)]
    have e : secT d ((a0 : Int) + 1 + j) = tx (pad64 (bts (chk I j))) := by
      unfold secT
      rw [show ((a0 : Int) + 1 + j).toNat = a0 + 1 + j by omega, hc j (by omega)]
    rw [e, btx (pad_bytes bts_bytes), bts_chk, pad_split (by rw [bts_len]; exact hj), show 64 * (j + 1) = 64 * j + 64 by omega, List.take_add]
theorem imgT_more {a0 : Int} {j : Nat} : ∀ k, ∃ t, imgT a0 d (j + k) = imgT a0 d j ++ t
  | 0 => ⟨⟨#[]⟩, by rw [app_nil]; rfl⟩
  | k + 1 => by
    obtain ⟨t, ht⟩ := imgT_more (a0 := a0) (j := j) k
    refine ⟨t ++ secT d (a0 + 1 + ((j + k : Nat) : Int)), ?_⟩
    rw [show j + (k + 1) = (j + k) + 1 from rfl, ← ByteArray.append_assoc, ← ht]
    rfl
theorem img_done {a0 r : Nat} {I : ByteArray} (hc : ∀ k, k < nCh I → d.seen.getD (a0 + 1 + k) [] = pad64 (bts (chk I k))) (hr : nCh I ≤ r) : (imgT a0 d r).extract 0 I.size = I := by
  obtain ⟨t, ht⟩ := imgT_more (d := d) (a0 := a0) (j := nCh I) (r - nCh I)
  rw [show nCh I + (r - nCh I) = r by omega] at ht
  have h1 : I.size ≤ 64 * nCh I := by unfold nCh; omega
  have h2 : (bts I).length = I.size := bts_len I
  have hs : I.size ≤ (imgT a0 d (nCh I)).size := by
    rw [← bts_len (imgT a0 d (nCh I)), imgT_done hc _ (Nat.le_refl _), List.length_take, List.length_append, List.length_replicate, h2]
    unfold nCh at *; omega
  rw [ht, ex_l hs]
  apply bts_inj
  rw [bts_ext, imgT_done hc _ (Nat.le_refl _)]
  rw [List.drop_zero, Nat.sub_zero, List.take_take, Nat.min_eq_left h1, List.take_append_of_le_length (by omega), List.take_of_length_le (by omega)]
theorem sec_ext {k a b : Nat} {T : List Int} (h : d.seen.getD k [] = T) (hT : ∀ y ∈ T, 0 ≤ y ∧ y ≤ 255) : bts ((secT d k).extract a b) = (T.drop a).take (b - a) := by
  unfold secT
  rw [Int.toNat_natCast, h, bts_ext, btx hT]
theorem be_small {y : Nat} (h : y < 256) : be y 8 = [0, 0, 0, 0, 0, 0, 0, (y : Int)] := by
  have e : ∀ k, 1 ≤ k → y / 256 ^ k = 0 := fun k hk => Nat.div_eq_of_lt (Nat.lt_of_lt_of_le h (by
    calc 256 = 256 ^ 1 := rfl
      _ ≤ 256 ^ k := Nat.pow_le_pow_right (by decide) hk))
  unfold be
  simp only [List.range, List.range.loop, List.map_cons, List.map_nil]
  rw [e 7 (by decide), e 6 (by decide), e 5 (by decide), e 4 (by decide), e 3 (by decide), e 2 (by decide), e 1 (by decide)]
  simp
  omega
theorem list8 {l : List Int} (h : l.length = 8) : l = [l.getD 0 0, l.getD 1 0, l.getD 2 0, l.getD 3 0, l.getD 4 0, l.getD 5 0, l.getD 6 0, l.getD 7 0] := by
  match l, h with
  | [a, b, c, d, e, f, g, h], _ => rfl
structure HdZ (T : List Int) : Prop where
  len : T.length = 64
  by_ : ∀ y ∈ T, 0 ≤ y ∧ y ≤ 255
  z1 : ∀ i, i < 7 → T.getD i 0 = 0
  z2 : ∀ i, i < 7 → T.getD (12 + i) 0 = 0
theorem getD_mem' {T : List Int} {j : Nat} (h : j < T.length) : T.getD j 0 ∈ T := by
  rw [List.getD_eq_getElem?_getD, List.getElem?_eq_getElem h]; exact List.getElem_mem h
theorem HdZ.sub {T : List Int} (h : HdZ T) {o : Nat} (ho : o + 8 ≤ 64) (hz : ∀ i, i < 7 → T.getD (o + i) 0 = 0) : (T.drop o).take 8 = be (T.getD (o + 7) 0).toNat 8 := by
  have hl : ((T.drop o).take 8).length = 8 := by rw [List.length_take, List.length_drop, h.len]; omega
  have hg : ∀ i, i < 8 → ((T.drop o).take 8).getD i 0 = T.getD (o + i) 0 := fun i hi => by
    rw [List.getD_eq_getElem?_getD, List.getElem?_take, if_pos hi, List.getElem?_drop, ← List.getD_eq_getElem?_getD]
  have hb := h.by_ _ (getD_mem' (T := T) (j := o + 7) (by rw [h.len]; omega))
  rw [be_small (by omega), list8 hl]
  rw [hg 0 (by decide), hg 1 (by decide), hg 2 (by decide), hg 3 (by decide), hg 4 (by decide), hg 5 (by decide), hg 6 (by decide), hg 7 (by decide)]
  rw [hz 0 (by decide), hz 1 (by decide), hz 2 (by decide), hz 3 (by decide), hz 4 (by decide), hz 5 (by decide), hz 6 (by decide)]
  rw [Int.toNat_of_nonneg hb.1]
theorem preE_z {s : ByteArray} (h : (bts s).getD 0 0 = 0) : preE s 0 = 0 := by
  unfold preE
  rw [if_neg]
  intro hc
  by_cases h0 : 0 < s.size
  · have := bts_getD (t := s) (j := 0) h0
    rw [h] at this
    omega
  · omega
theorem HdZ.n1 {T : List Int} (h : HdZ T) {k : Nat} (hs : d.seen.getD k [] = T) : num ((secT d k).extract 0 8) = (T.getD 7 0).toNat ∧ num ((secT d k).extract 12 20) = (T.getD 19 0).toNat ∧ preE (secT d k) 0 = 0 ∧ preE ((secT d k).extract 12 (secT d k).size) 0 = 0 := by
  have b1 := h.by_ _ (getD_mem' (T := T) (j := 7) (by rw [h.len]; omega))
  have b2 := h.by_ _ (getD_mem' (T := T) (j := 19) (by rw [h.len]; omega))
  have hz : (secT d k).size = 64 := by unfold secT; rw [Int.toNat_natCast, hs, tx_sz, h.len]
  refine ⟨num_be (k := 8) (by rw [sec_ext hs h.by_]; exact h.sub (o := 0) (by decide) (fun i hi => by rw [Nat.zero_add]; exact h.z1 i hi)) (by omega),
    num_be (k := 8) (by rw [sec_ext hs h.by_]; exact h.sub (o := 12) (by decide) h.z2) (by omega), preE_z ?_, preE_z ?_⟩
  · have := sec_ext (a := 0) (b := 64) hs h.by_
    rw [← hz, ext_all] at this
    rw [this, List.drop_zero, Nat.sub_zero, hz, List.take_of_length_le (by rw [h.len]; exact Nat.le_refl _)]
    exact h.z1 0 (by decide)
  · rw [hz, sec_ext hs h.by_, List.getD_eq_getElem?_getD, List.getElem?_take, if_pos (by decide), List.getElem?_drop, ← List.getD_eq_getElem?_getD]
    exact h.z2 0 (by decide)
theorem HdZ.no {T : List Int} (h : HdZ T) {k : Nat} (hs : d.seen.getD k [] = T) (hn : T.getD 7 0 = 0 ∨ T.getD 7 0 ≠ T.getD 19 0) : NoHd (secT d k) := by
  have b1 := h.by_ _ (getD_mem' (T := T) (j := 7) (by rw [h.len]; omega))
  have b2 := h.by_ _ (getD_mem' (T := T) (j := 19) (by rw [h.len]; omega))
  obtain ⟨h1, h2, h3, h4⟩ := h.n1 hs
  refine ⟨h3, h4, ?_, ?_, ?_⟩
  · rw [h1, h2]; omega
  · rw [h1]; omega
  · rw [h2]; omega
theorem hdL_bytes {k z : Nat} : ∀ y ∈ be k 8 ++ be z 4 ++ be k 8, 0 ≤ y ∧ y ≤ 255 := by
  intro y hy
  simp only [List.mem_append] at hy
  rcases hy with (hy | hy) | hy
  · exact be_bytes y hy
  · exact be_bytes y hy
  · exact be_bytes y hy
theorem hdC64 {k z : Nat} : hd64 (hdC k z) = be k 8 ++ be z 4 ++ be k 8 ++ List.replicate 44 0 := by
  unfold hd64 pad64 hdC
  rw [btx hdL_bytes]
  have : (be k 8 ++ be z 4 ++ be k 8).length = 20 := by simp only [List.length_append, be_len]
  rw [this]
theorem hdC_Z {k z : Nat} (hk : k < 256) : HdZ (hd64 (hdC k z)) ∧ (hd64 (hdC k z)).getD 7 0 = (k : Int) ∧ (hd64 (hdC k z)).getD 19 0 = (k : Int) ∧ ((hd64 (hdC k z)).drop 8).take 4 = be z 4 := by
  have hb : ∀ y ∈ hd64 (hdC k z), 0 ≤ y ∧ y ≤ 255 := pad_bytes bts_bytes
  have hl : (hd64 (hdC k z)).length = 64 := pad64_len (by rw [bts_len, hdC_size]; decide)
  have e := hdC64 (k := k) (z := z)
  rw [be_small hk] at e
  have h4 : (be z 4).length = 4 := be_len
  generalize be z 4 = Z at e h4
  match Z, h4 with
  | [p, q, r, s], _ =>
    rw [e] at hb hl ⊢
    refine ⟨⟨hl, hb, fun i hi => ?_, fun i hi => ?_⟩, rfl, rfl, rfl⟩
    · match i, hi with
      | 0, _ | 1, _ | 2, _ | 3, _ | 4, _ | 5, _ | 6, _ => rfl
    · match i, hi with
      | 0, _ | 1, _ | 2, _ | 3, _ | 4, _ | 5, _ | 6, _ => rfl
end
section
/- Cells: what a crash leaves. -/
set_option linter.unusedVariables false
set_option linter.unusedSimpArgs false
set_option maxRecDepth 100000
open Go.Proofs
variable {H : Hp} {n : Nat} {x : Nat → Option SO} {d d' : Fd} {i a b c : Nat} {u1 u2 u3 : Bool}
structure CpV (S : List (List Int)) (a0 h r : Nat) (es : List (Value × Value)) : Prop where
  r0 : 0 < r
  r1 : r < 256
  hd : S.getD a0 [] = hd64 (hdC r (encB es).size)
  ch : ∀ k, k < nCh (encB es) → S.getD (a0 + 1 + k) [] = pad64 (bts (chk (encB es) k))
  room : (encB es).size ≤ 64 * (h - 1)
  es : Es es
def CpS (S : List (List Int)) (a0 h r : Nat) (es : List (Value × Value)) : Prop :=
  HdZ (S.getD a0 []) ∧ ((r = 0 ∧ ((S.getD a0 []).getD 7 0 = 0 ∨ (S.getD a0 []).getD 7 0 ≠ (S.getD a0 []).getD 19 0)) ∨ CpV S a0 h r es)
theorem room_ch {I : ByteArray} {h : Nat} (hr : I.size ≤ 64 * (h - 1)) : nCh I ≤ h - 1 := by unfold nCh; omega
theorem CpV.z {S : List (List Int)} {a0 h r : Nat} {es : List (Value × Value)} (c : CpV S a0 h r es) : HdZ (S.getD a0 []) := by rw [c.hd]; exact (hdC_Z c.r1).1
theorem CpV.s {S : List (List Int)} {a0 h r : Nat} {es : List (Value × Value)} (c : CpV S a0 h r es) : CpS S a0 h r es := ⟨c.z, .inr c⟩
theorem CpS.o {a0 h r : Nat} {es : List (Value × Value)} (hh : h ≤ 129) (c : CpS d.seen a0 h r es) : CpO d a0 h r es := by
  obtain ⟨hz, ⟨h0, hn⟩ | v⟩ := c
  · exact .inl ⟨h0, hz.no rfl hn⟩
  · obtain ⟨r0, r1, hd, ch, room, hes⟩ := v
    refine .inr ⟨?_, img_done ch (room_ch room), room, hes⟩
    obtain ⟨h1, h2, h3, h4⟩ := hz.n1 (k := a0) rfl
    obtain ⟨k1, k2, k3, k4⟩ := hdC_Z (k := r) (z := (encB es).size) r1
    refine ⟨h3, h4, ?_, ?_, ?_, r0, by omega⟩
    · rw [h1, hd, k2]; omega
    · exact num_be (k := 4) (by rw [sec_ext hd k1.by_]; exact k4) (by omega)
    · rw [h2, hd, k3]; omega
theorem CpS.congr {S S' : List (List Int)} {a0 h r : Nat} {es : List (Value × Value)} (c : CpS S a0 h r es) (hh : 1 ≤ h) (he : ∀ k, a0 ≤ k → k < a0 + h → S'.getD k [] = S.getD k []) : CpS S' a0 h r es := by
  have h0 := he a0 (Nat.le_refl _) (by omega)
  obtain ⟨hz, hc⟩ := c
  unfold CpS
  rw [h0]
  refine ⟨hz, hc.imp_right fun v => ?_⟩
  obtain ⟨r0, r1, hd, ch, room, hes⟩ := v
  exact ⟨r0, r1, by rw [h0]; exact hd, fun k hk => by have := room_ch room; rw [he _ (by omega) (by omega)]; exact ch k hk, room, hes⟩
theorem z64_eq : z64 = List.replicate 64 0 := rfl
theorem z64_bytes : ∀ y ∈ z64, 0 ≤ y ∧ y ≤ 255 := pad_bytes bts_bytes
theorem z64_Z : HdZ z64 := by
  refine ⟨rfl, z64_bytes, fun i hi => ?_, fun i hi => ?_⟩
  · match i, hi with
    | 0, _ | 1, _ | 2, _ | 3, _ | 4, _ | 5, _ | 6, _ => rfl
  · match i, hi with
    | 0, _ | 1, _ | 2, _ | 3, _ | 4, _ | 5, _ | 6, _ => rfl
theorem z64_get {j : Nat} : z64.getD j 0 = 0 := by
  rw [z64_eq, List.getD_eq_getElem?_getD, List.getElem?_replicate]; split <;> rfl
theorem cps_z {S : List (List Int)} {a0 h : Nat} {es : List (Value × Value)} (he : S.getD a0 [] = z64) : CpS S a0 h 0 es := by
  unfold CpS
  rw [he]
  exact ⟨z64_Z, .inl ⟨rfl, .inl z64_get⟩⟩
theorem done_cpv {S : List (List Int)} {a0 h N : Nat} {es : List (Value × Value)} (hl : a0 + h ≤ S.length) (hh : 2 ≤ h) (hI : (encB es).size ≤ 64 * (h - 1)) (hN : 0 < N ∧ N < 256) (hE : Es es) : CpV (doneS S a0 (hdC N (encB es).size) (encB es)) a0 h N es := by
  have hc := room_ch hI
  exact ⟨hN.1, hN.2, done_at (by omega), fun k hk => done_ch hk (by omega), hI, hE⟩
end
section
/- Cells: regions; what an opening finds. -/
set_option linter.unusedVariables false
set_option linter.unusedSimpArgs false
set_option maxRecDepth 100000
open Go.Proofs
variable {H : Hp} {n : Nat} {x : Nat → Option SO} {d d' : Fd} {i a b c : Nat} {u1 u2 u3 : Bool}
theorem srtK_mem' {es : List (Value × Value)} {s : ByteArray} (h : s.data.toList ∈ es.map keyB) : s ∈ srtK es := by
  unfold srtK
  refine List.mem_map.2 ⟨s.data.toList, (List.mergeSort_perm _ _).mem_iff.2 h, ?_⟩
  apply ByteArray.ext
  rfl
theorem lu_key {es : List (Value × Value)} {s : ByteArray} {v : Value} (h : luS es s = some v) : s.data.toList ∈ es.map keyB := by
  induction es with
  | nil => cases h
  | cons e es ih =>
    unfold luS at h
    split at h
    · rename_i hk
      unfold keyIs at hk
      refine List.mem_map.2 ⟨e, List.mem_cons_self .., ?_⟩
      unfold keyB
      split at hk
      · rename_i t ht
        have : t = s := of_decide_eq_true hk
        rw [this] at ht
        rw [ht]
      · cases hk
    · exact List.mem_cons_of_mem _ (ih h)
theorem keyB_srt {es : List (Value × Value)} : (srtE es).map keyB = (srtK es).map fun s => s.data.toList := by
  unfold srtE; rw [List.map_map]; rfl
theorem Es.srt {es : List (Value × Value)} (h : Es es) : Es (srtE es) := by
  refine ⟨?_, fun e he => ?_, fun e he => ?_, by rw [srtE_len]; exact h.len, fun e he => ?_, ?_⟩
  · have := srtE_keys (es := es) (j := es.length)
    rw [List.take_of_length_le (by rw [srtE_len]; exact Nat.le_refl _)] at this
    exact this
  · unfold srtE at he
    obtain ⟨nm, hm, rfl⟩ := List.mem_map.1 he
    have := (h.at_ hm).2.2
    show nm.data.toList.length ≤ 32
    rw [Array.length_toList]
    exact this
  · unfold srtE at he
    obtain ⟨nm, hm, rfl⟩ := List.mem_map.1 he
    exact ⟨_, rfl, (h.at_ hm).2.1⟩
  · unfold srtE at he
    obtain ⟨nm, hm, rfl⟩ := List.mem_map.1 he
    obtain ⟨e', he', hk'⟩ := List.mem_map.1 (srtK_mem hm)
    show nm.data.toList ≠ []
    rw [← hk']
    exact h.ne e' he'
  · rw [keyB_srt, srtL]
    exact (List.mergeSort_perm _ _).nodup_iff.2 h.nd
theorem Es.nil : Es [] := ⟨rfl, fun _ h => absurd h List.not_mem_nil, fun _ h => absurd h List.not_mem_nil, by decide, fun _ h => absurd h List.not_mem_nil, List.nodup_nil⟩
theorem srtE_nil : srtE [] = [] := by
  have : srtK [] = [] := List.length_eq_zero_iff.1 (by rw [srtK_len]; rfl)
  unfold srtE; rw [this]; rfl
theorem keyB_up {es : List (Value × Value)} {s : ByteArray} {v : Value} (hk : keysS es = true) : (upS es s v).map keyB = if s.data.toList ∈ es.map keyB then es.map keyB else es.map keyB ++ [s.data.toList] := by
  induction es with
  | nil => rfl
  | cons e es ih =>
    unfold keysS at hk
    rw [List.all_cons, Bool.and_eq_true] at hk
    unfold upS
    by_cases c : keyIs e.1 s = true
    · rw [if_pos c]
      have he : keyB e = s.data.toList := by
        unfold keyIs at c
        unfold keyB
        split at c
        · rename_i t ht
          have : t = s := of_decide_eq_true c
          rw [this] at ht
          rw [ht]
        · cases c
      rw [if_pos (by rw [List.map_cons, he]; exact List.mem_cons_self ..), List.map_cons, List.map_cons, he]
      rfl
    · have hne : keyB e ≠ s.data.toList := by
        intro he
        apply c
        unfold keyB at he
        have h1 := hk.1
        unfold keyIs
        cases hq : e.1 <;> simp [hq] at h1
        rename_i q
        rw [hq] at he
        have : q = s := ByteArray.ext (Array.toList_inj.1 he)
        exact decide_eq_true this
      rw [if_neg c, List.map_cons, List.map_cons, ih hk.2]
      by_cases hm : s.data.toList ∈ es.map keyB
      · rw [if_pos hm, if_pos (List.mem_cons_of_mem _ hm)]
      · rw [if_neg hm, if_neg (fun h => by rcases List.mem_cons.1 h with e | e; exact hne e.symm; exact hm e)]
        rfl
theorem up_mem {es : List (Value × Value)} {s : ByteArray} {v : Value} : ∀ {e}, e ∈ upS es s v → e = (.string s, v) ∨ e ∈ es := by
  induction es with
  | nil => intro e h; exact .inl (List.mem_singleton.1 h)
  | cons e' es ih =>
    intro e h
    unfold upS at h
    split at h
    · rcases List.mem_cons.1 h with h | h
      · exact .inl h
      · exact .inr (List.mem_cons_of_mem _ h)
    · rcases List.mem_cons.1 h with h | h
      · exact .inr (by rw [h]; exact List.mem_cons_self ..)
      · exact (ih h).imp_right (List.mem_cons_of_mem _)
theorem keysS_up {es : List (Value × Value)} {s : ByteArray} {y : Value} (h : keysS es = true) : keysS (upS es s y) = true := by
  unfold keysS at h ⊢
  rw [List.all_eq_true] at h ⊢
  intro e he
  rcases up_mem he with rfl | he
  · rfl
  · exact h e he
theorem Es.up {es : List (Value × Value)} (h : Es es) {s t : ByteArray} (hs : s.size ≠ 0) (hs2 : s.size ≤ 32) (ht : t.size ≤ 65535) (hl : s.data.toList ∈ es.map keyB ∨ es.length < 64) : Es (upS es s (.agg ⟨[.string t]⟩)) := by
  have hk := keyB_up (s := s) (v := .agg ⟨[.string t]⟩) h.keys
  refine ⟨keysS_up h.keys, fun e he => ?_, fun e he => ?_, ?_, fun e he => ?_, ?_⟩
  · rcases up_mem he with rfl | he
    · show s.data.toList.length ≤ 32
      rw [Array.length_toList]; exact hs2
    · exact h.kl e he
  · rcases up_mem he with rfl | he
    · exact ⟨t, rfl, ht⟩
    · exact h.vals e he
  · have := congrArg List.length hk
    rw [List.length_map] at this
    rw [this]
    have := h.len
    split
    · rw [List.length_map]; omega
    · rename_i hn
      rw [List.length_append, List.length_map, List.length_singleton]
      rcases hl with hl | hl
      · exact absurd hl hn
      · omega
  · rcases up_mem he with rfl | he
    · show s.data.toList ≠ []
      intro e
      apply hs
      have := congrArg List.length e
      rw [Array.length_toList] at this
      exact this
    · exact h.ne e he
  · rw [hk]
    split
    · exact h.nd
    · rename_i hn
      rw [List.nodup_append]
      exact ⟨h.nd, (List.nodup_cons.2 ⟨List.not_mem_nil, List.nodup_nil⟩), fun a ha b hb => by rw [List.mem_singleton.1 hb]; exact fun e => hn (e ▸ ha)⟩
theorem Es.put {es : List (Value × Value)} (h : Es es) (s t : ByteArray) : Es (putEs es s t) := by
  unfold putEs
  split
  · rename_i h0
    unfold putE at h0
    split at h0
    · cases h0
    split at h0
    · cases h0
    split at h0
    · cases h0
    · rename_i c1 c2 c3
      refine h.up (by omega) (by omega) (by omega) ?_
      by_cases hl : es.length < 64
      · exact .inr hl
      · left
        rcases h.lu s with ⟨h1, _⟩ | h1
        · exact absurd ⟨by rw [h1]; rfl, by omega⟩ c3
        · exact lu_key h1
  · exact h
theorem dl_mem {es : List (Value × Value)} {s : ByteArray} : (dlS es s).Sublist es := by
  induction es with
  | nil => exact .slnil
  | cons e es ih =>
    unfold dlS
    split
    · exact List.sublist_cons_self ..
    · exact ih.cons_cons _
theorem Es.drop {es : List (Value × Value)} (h : Es es) (s : ByteArray) : Es (dlS es s) := by
  have hs := dl_mem (es := es) (s := s)
  refine ⟨?_, fun e he => h.kl e (hs.subset he), fun e he => h.vals e (hs.subset he), Nat.le_trans hs.length_le h.len, fun e he => h.ne e (hs.subset he), (hs.map keyB).nodup h.nd⟩
  have hk := h.keys
  unfold keysS at hk ⊢
  rw [List.all_eq_true] at hk ⊢
  exact fun e he => hk e (hs.subset he)
end
section
/- Cells: commits. -/
set_option linter.unusedVariables false
set_option linter.unusedSimpArgs false
set_option maxRecDepth 100000
open Go.Proofs
variable {H : Hp} {n : Nat} {x : Nat → Option SO} {d d' : Fd} {i a b c : Nat} {u1 u2 u3 : Bool}
def Reg (S : List (List Int)) (B h N L : Nat) (es : List (Value × Value)) : Prop :=
  L ≤ 1 ∧ CpS S (B + L * h) h N es ∧ ∃ r e', CpS S (B + (1 - L) * h) h r e' ∧ (r < N ∨ (N = 0 ∧ r = 0 ∧ L = 1 ∧ es = []))
theorem Reg.opn {B h N L : Nat} {es : List (Value × Value)} (hh : h ≤ 129) (g : Reg d.seen B h N L es) : ∃ r0 r1 e0 e1, CpO d B h r0 e0 ∧ CpO d (B + h) h r1 e1 ∧ opN r0 r1 = N ∧ opL r0 r1 = L ∧ opE r0 r1 e0 e1 = srtE es := by
  obtain ⟨hL, h1, r, e', h2, h3⟩ := g
  have hc : L = 0 ∨ L = 1 := by omega
  rcases hc with rfl | rfl
  · rw [Nat.zero_mul, Nat.add_zero] at h1
    rw [Nat.sub_zero, Nat.one_mul] at h2
    have h4 : r < N := by omega
    refine ⟨N, r, es, e', h1.o hh, h2.o hh, ?_, ?_, ?_⟩
    · unfold opN; rw [if_neg (by omega)]
    · unfold opL; rw [if_neg (by omega), if_pos (by omega)]
    · unfold opE; rw [if_neg (by omega), if_pos (by omega)]
  · rw [Nat.one_mul] at h1
    rw [Nat.sub_self, Nat.zero_mul, Nat.add_zero] at h2
    refine ⟨r, N, e', es, h2.o hh, h1.o hh, ?_, ?_, ?_⟩
    · unfold opN; split <;> omega
    · unfold opL; split
      · rfl
      · rw [if_neg (by omega)]
    · unfold opE
      rcases h3 with h3 | ⟨rfl, rfl, _, rfl⟩
      · rw [if_pos h3]
      · rw [if_neg (by omega), if_neg (by omega), srtE_nil]
theorem Reg.congr {S S' : List (List Int)} {B h N L : Nat} {es : List (Value × Value)} (g : Reg S B h N L es) (hh : 1 ≤ h) (he : ∀ k, B ≤ k → k < B + 2 * h → S'.getD k [] = S.getD k []) : Reg S' B h N L es := by
  obtain ⟨hL, h1, r, e', h2, h3⟩ := g
  have hc : L = 0 ∨ L = 1 := by omega
  refine ⟨hL, h1.congr hh fun k k1 k2 => he k (by omega) ?_, r, e', h2.congr hh fun k k1 k2 => he k (by omega) ?_, h3⟩
  · rcases hc with rfl | rfl <;> omega
  · rcases hc with rfl | rfl <;> omega
theorem Reg.new {B h k : Nat} (hk : B + 2 * h ≤ k) (hh : 1 ≤ h) : Reg (List.replicate k (zi 64)) B h 0 1 [] := by
  have hz : ∀ j, j < k → (List.replicate k (zi 64)).getD j [] = z64 := fun j hj => by
    rw [List.getD_eq_getElem?_getD, List.getElem?_replicate, if_pos hj]; rfl
  exact ⟨Nat.le_refl _, cps_z (hz _ (by omega)), 0, [], cps_z (hz _ (by omega)), .inr ⟨rfl, rfl, rfl, rfl⟩⟩
theorem inv_good {m : Nat} {P : List (List Int) → List (Nat × List Int) → Prop} {st : Int} {X : List (List Int)} {Y : List (Nat × List Int)} {p : Int × Fd} (h : InvP true m P st X Y p) : p.1 = 0 ∧ GoodP true m st X Y p.2 := by
  rcases h with h | ⟨h, _⟩
  · exact h
  · cases h
theorem goodNew {m : Nat} : GoodP true m 0 (List.replicate m (zi 64)) [] (newD m) := ⟨rfl, rfl, rfl, rfl, by simp [newD], rfl, fun _ => rfl⟩
theorem GoodP.seen' {f0 : Bool} {m : Nat} {st : Int} {X : List (List Int)} (g : GoodP f0 m st X [] d) : d.seen = X := by
  have := g.sn
  unfold Sn at this
  rw [this, g.safe, g.pend]
  rfl
theorem Reg.done {S : List (List Int)} {B h N L : Nat} {es0 es : List (Value × Value)} (g : Reg S B h N L es0) (hl : B + 2 * h ≤ S.length) (hh : 2 ≤ h) (hI : (encB es).size ≤ 64 * (h - 1)) (hN : N < 255) (hE : Es es) :
    Reg (doneS S (B + (1 - L) * h) (hdC (N + 1) (encB es).size) (encB es)) B h (N + 1) (1 - L) es := by
  obtain ⟨hL, h1, r, e', h2, h3⟩ := g
  have hc := room_ch hI
  have hcs : L = 0 ∨ L = 1 := by omega
  refine ⟨by omega, ?_, N, es0, ?_, .inl (by omega)⟩
  · rcases hcs with rfl | rfl
    · exact (done_cpv (a0 := B + (1 - 0) * h) (by omega) hh hI (by omega) hE).s
    · exact (done_cpv (a0 := B + (1 - 1) * h) (by omega) hh hI (by omega) hE).s
  · have e : 1 - (1 - L) = L := by omega
    rw [e]
    refine h1.congr (by omega) fun k k1 k2 => done_ne ?_
    rcases hcs with rfl | rfl <;> omega
end
section
/- Cells: the document's example. -/
set_option linter.unusedVariables false
set_option linter.unusedSimpArgs false
set_option maxRecDepth 100000
open Go.Proofs
variable {H : Hp} {n : Nat} {x : Nat → Option SO} {d d' : Fd} {i a b c : Nat} {u1 u2 u3 : Bool} {C C' : Ce}
def kv (k t : ByteArray) : List (Value × Value) := [(.string k, .agg ⟨[.string t]⟩)]
theorem kv_lu {k t : ByteArray} : luS (kv k t) k = some (.agg ⟨[.string t]⟩) := by
  unfold kv luS keyIs
  rw [if_pos (decide_eq_true rfl)]
theorem kv_t {k t : ByteArray} : tOf (kv k t) k = t := by unfold tOf; rw [kv_lu]
theorem kv_es {k t : ByteArray} (h0 : k.size ≠ 0) (hk : k.size ≤ 32) (ht : t.size ≤ 65535) : Es (kv k t) := Es.nil.up (s := k) (t := t) h0 hk ht (.inr (by decide))
theorem kv_srtK {k t : ByteArray} : srtK (kv k t) = [k] := by
  unfold srtK kv
  rw [List.map_cons, List.map_nil, List.mergeSort_singleton]
  rfl
theorem kv_srt {k t : ByteArray} : srtE (kv k t) = kv k t := by
  unfold srtE
  rw [kv_srtK, List.map_cons, kv_t]
  rfl
theorem suf_size {es : List (Value × Value)} : ∀ l, (suf es l).size = (l.map fun nm => 4 + nm.size + (tOf es nm).size).sum
  | [] => rfl
  | nm :: l => by
    unfold suf
    simp only [ByteArray.size_append, tx_sz, be_len, suf_size l, List.map_cons, List.sum_cons]
    omega
theorem enc_size {es : List (Value × Value)} : (encB es).size = 2 + ((srtK es).map fun nm => 4 + nm.size + (tOf es nm).size).sum := by
  rw [encB_suf, ByteArray.size_append, tx_sz, be_len, suf_size]
theorem kv_size {k t : ByteArray} : (encB (kv k t)).size = 6 + k.size + t.size := by
  rw [enc_size, kv_srtK]
  simp only [List.map_cons, List.map_nil, List.sum_cons, List.sum_nil, kv_t]
  omega
theorem putE_ok {es : List (Value × Value)} {k t : ByteArray} (h0 : k.size ≠ 0) (hk : k.size ≤ 32) (ht : t.size ≤ 65535) (hl : es.length < 64) : putE es k t = 0 := by
  unfold putE
  rw [if_neg (by omega), if_neg (by omega), if_neg (by omega)]
theorem coR_inv {f0 : Bool} {m : Nat} {st : Int} {S : List (List Int)} (hh : 2 ≤ C.half) (hI : (encB C.now).size ≤ 64 * (C.half - 1)) (g : GoodP f0 m st S [] d) (hl : C.base + 2 * C.half ≤ m) (hL : C.last ≤ 1) :
    InvP f0 m (PhA S (ceTo C) (hdC (C.num + 1) (encB C.now).size) (encB C.now)) (st + 5 + nCh (encB C.now)) (doneS S (ceTo C) (hdC (C.num + 1) (encB C.now).size) (encB C.now)) [] (coQ C d) := by
  have hc := room_ch hI
  unfold coQ
  refine slW_inv (r := C.half - 1) (by rw [hdC_size]; decide) g ?_ hc
  unfold ceTo
  have hcs : C.last = 0 ∨ C.last = 1 := by omega
  rcases hcs with h | h <;> rw [h] <;> omega
theorem coR_good {m : Nat} {st : Int} {S : List (List Int)} (hD : C.dead = false) (hh : 2 ≤ C.half) (hI : (encB C.now).size ≤ 64 * (C.half - 1)) (g : GoodP true m st S [] d) (hl : C.base + 2 * C.half ≤ m) (hL : C.last ≤ 1) :
    ∃ d1, coR C d = (0, { C with last := 1 - C.last, num := C.num + 1, was := C.now }, d1) ∧ GoodP true m (st + 5 + nCh (encB C.now)) (doneS S (ceTo C) (hdC (C.num + 1) (encB C.now).size) (encB C.now)) [] d1 := by
  obtain ⟨h1, h2⟩ := inv_good (coR_inv hh hI g hl hL)
  refine ⟨(coQ C d).2, ?_, h2⟩
  unfold coR
  rw [if_neg (by rw [hD]; decide), if_neg (by omega), if_neg (by rw [h1]; decide)]
theorem coR_pl {m t : Nat} (hP : Pl d m t) (ht : t + 1000 < 1000000) (hI : C.half ≤ 129) : Pl (coR C d).2.2 m (t + 133) := by
  unfold coR
  split
  · exact hP.mono (by omega)
  split
  · exact hP.mono (by omega)
  · rename_i h
    split
    · exact slW_pl hP ht (by omega)
    · exact slW_pl hP ht (by omega)
theorem openR {B h N L : Nat} {es es' : List (Value × Value)} (hD : DevAt H d i a b c) (hB : B ≤ 4096) (hh : 2 ≤ h ∧ h ≤ 129) (hd : d.ok) (ho : d.off = false) (hl : B + 2 * h ≤ d.seen.length) (g : Reg d.seen B h N L es) (he : srtE es = es') (hn : n + 3 ≤ 1000) :
    SpecAt Tryz.prog nCOpen [.ptr i 0, .v (.int .i64 B), .v (.int .i64 h)] H n (.tup [.ptr n 0, .v (.int .i64 0)]) ⟨(n, some ⟨true, cellB ⟨B, h, N, L, false, es', es'⟩ i (n + 1) (n + 2)⟩) :: (n + 1, some ⟨true, .mp (.map es')⟩) :: (n + 2, some ⟨true, .mp (.map es')⟩) :: H.l, H.x⟩ (n + 3) := by
  obtain ⟨r0, r1, e0, e1, h1, h2, h3, h4, h5⟩ := g.opn hh.2
  have := openS (n := n) hD hB hh hd ho hl h1 h2 hn
  unfold opC at this
  rw [h3, h4, h5, he] at this
  exact this
theorem putS' {i D a b c M W : Nat} {name text : ByteArray} {e : Int} {es' : List (Value × Value)} (h : CellAt H C d i D a b c M W) (hE : Es C.now) (he : putE C.now name text = e) (hs : putEs C.now name text = es') :
    SpecAt Tryz.prog nCPut [.ptr i 0, .v (.string name), .v (.string text)] H n (.v (.int .i64 e))
      ⟨(i, some ⟨true, cellB C D M W⟩) :: (D, some ⟨true, devB d a b c⟩) :: (a, some ⟨true, secB d.seen⟩) :: (b, some ⟨true, secB d.safe⟩) :: (c, some ⟨true, .pl (prow d.pend)⟩) :: (M, some ⟨true, .mp (.map es')⟩) :: (W, some ⟨true, .mp (.map C.was)⟩) :: H.l, H.x⟩ n := by
  subst he; subst hs; exact putS h hE
end
section
/- Cells: the document's list of names with texts, plain. -/
set_option linter.unusedVariables false
set_option linter.unusedSimpArgs false
set_option maxRecDepth 100000
open Go.Proofs
abbrev PL := List (ByteArray × ByteArray)
def prs (es : List (Value × Value)) : PL := (srtK es).map fun nm => (nm, tOf es nm)
def pcell (p : ByteArray × ByteArray) : List Value := [.string p.1, .string p.2]
def prw (P : PL) : List Value := (P.map pcell).flatten
end
section
/- Cells: the document's calls. -/
set_option linter.unusedVariables false
set_option linter.unusedSimpArgs false
set_option maxRecDepth 100000
open Go.Proofs
variable {H : Hp} {n : Nat} {x : Nat → Option SO} {i D M W : Nat} {d d' : Fd} {C C' : Ce}
def rcL (C : Ce) (m w D M W : Nat) : Body := .sv [.ptr D 0, .v (.int .i64 C.base), .v (.int .i64 C.half), .sl M 0 m 2, .sl W 0 w 2, .v (.int .i64 C.num), .v (.int .i64 C.last), .v (.bool C.dead)]
def rcellB (C : Ce) (D M W : Nat) : Body := rcL C C.now.length C.was.length D M W
def rowP (es : List (Value × Value)) : Body := .pl (prw (prs es))
end
section
/- Cells: the document's Put, Drop, Undo, Bytes. -/
set_option linter.unusedVariables false
set_option linter.unusedSimpArgs false
set_option maxRecDepth 100000
open Go.Proofs
variable {H : Hp} {n : Nat} {x : Nat → Option SO} {i D M W : Nat} {d d' : Fd} {C C' : Ce}
structure RcAt (H : Hp) (C : Ce) (i D M W : Nat) : Prop where
  cell : H.get i = some ⟨true, rcellB C D M W⟩
  now : ∃ u, H.get M = some ⟨u, rowP C.now⟩
  was : ∃ u, H.get W = some ⟨u, rowP C.was⟩
  nz : (0 < i ∧ 0 < D ∧ 0 < M ∧ 0 < W) ∧ i < 1000 ∧ i ≠ M ∧ i ≠ W
def rcH (C : Ce) (x : Nat → Option SO) : Hp := ⟨[(1, some ⟨true, rcellB C 2 3 4⟩), (3, some ⟨false, rowP C.now⟩), (4, some ⟨false, rowP C.was⟩)], x⟩
def rcP (i D M W : Nat) : List (Nat × Nat) := [(1, i), (2, D), (3, M), (4, W)]
theorem RcAt.sub (h : RcAt H C i D M W) : hpSub (rcP i D M W) H (rcH C x).l := by
  obtain ⟨h1, ⟨u2, h2⟩, ⟨u3, h3⟩, ⟨p1, p2, p3, p4⟩, p5, p6⟩ := h
  exact ⟨sub_wr rfl p1 p5 h1 rfl, sub_ro rfl p3 h2 rfl, sub_ro rfl p4 h3 rfl, trivial⟩
theorem RcAt.ap (h : RcAt H C i D M W) : apartB (rcP i D M W) (rcH C x).l (rcH C x).l = true := by
  obtain ⟨h1, h2, h3, h4, p5, p6, p7⟩ := h
  simp [rcH, rcP, apartB, apart1, rn, lk, p6, p7, Ne.symm p6, Ne.symm p7]
end
section
/- Cells: the document's Commit. -/
set_option linter.unusedVariables false
set_option linter.unusedSimpArgs false
set_option maxRecDepth 100000
open Go.Proofs
variable {H : Hp} {n : Nat} {x : Nat → Option SO} {i D M W a b c : Nat} {d d' : Fd} {C C' : Ce}
end
section
/- Cells: the document's Commit, walked. -/
set_option linter.unusedVariables false
set_option linter.unusedSimpArgs false
set_option maxRecDepth 100000
open Go.Proofs
variable {H : Hp} {n : Nat} {x : Nat → Option SO} {i D M W a b c : Nat} {d d' : Fd} {C C' : Ce}
def rkH (C : Ce) (d : Fd) (x : Nat → Option SO) : Hp := ⟨[(1, some ⟨true, rcellB C 2 5 6⟩), (2, some ⟨true, refB d 3 4⟩), (3, some ⟨true, strB d.safe⟩), (4, some ⟨true, .pl (qrow d.pend)⟩), (5, some ⟨false, rowP C.now⟩), (6, some ⟨false, rowP C.was⟩)], x⟩
end
section
/- Cells: the document's Commit at any heap; a cell and a list of names with texts. -/
set_option linter.unusedVariables false
set_option linter.unusedSimpArgs false
set_option maxRecDepth 100000
open Go.Proofs
variable {H : Hp} {n : Nat} {x : Nat → Option SO} {i D M W a b c : Nat} {d d' : Fd} {C C' : Ce}
structure RkAt (H : Hp) (C : Ce) (d : Fd) (i D a b M W : Nat) : Prop where
  cell : RcAt H C i D M W
  dev : RefAt H d D a b true true true
  ne : i ≠ D ∧ i ≠ a ∧ i ≠ b ∧ D ≠ M ∧ D ≠ W ∧ a ≠ M ∧ a ≠ W ∧ b ≠ M ∧ b ≠ W
def rkP (i D a b M W : Nat) : List (Nat × Nat) := [(1, i), (2, D), (3, a), (4, b), (5, M), (6, W)]
theorem RkAt.sub (h : RkAt H C d i D a b M W) : hpSub (rkP i D a b M W) H (rkH C d x).l := by
  obtain ⟨⟨h1, ⟨u2, h2⟩, ⟨u3, h3⟩, ⟨p1, p2, p3, p4⟩, p5, p6⟩, ⟨g1, g2, g3, ⟨r1, r2, r3⟩, ⟨q1, q2, q3⟩, n1, n2, n3⟩, _⟩ := h
  exact ⟨sub_wr rfl p1 p5 h1 rfl, sub_wr rfl r1 q1 g1 rfl, sub_wr rfl r2 q2 g2 rfl, sub_wr rfl r3 q3 g3 rfl, sub_ro rfl p3 h2 rfl, sub_ro rfl p4 h3 rfl, trivial⟩
theorem RkAt.ap (h : RkAt H C d i D a b M W) : apartB (rkP i D a b M W) (rkH C d x).l (rkH C d x).l = true := by
  obtain ⟨⟨h1, h2, h3, h4, p5, p6, p7⟩, ⟨g1, g2, g3, _, _, n1, n2, n3⟩, m1, m2, m3, m4, m5, m6, m7, m8, m9⟩ := h
  simp [rkH, rkP, apartB, apart1, rn, lk, p6, p7, Ne.symm p6, Ne.symm p7, n1, n2, n3, Ne.symm n1, Ne.symm n2, Ne.symm n3, m1, m2, m3, m4, m5, m6, m7, m8, m9, Ne.symm m1, Ne.symm m2, Ne.symm m3, Ne.symm m4, Ne.symm m5, Ne.symm m6, Ne.symm m7, Ne.symm m8, Ne.symm m9]
end
section
/- Boot: the state. -/
set_option linter.unusedVariables false
set_option linter.unusedSimpArgs false
set_option maxRecDepth 100000
open Go.Proofs
variable {H : Hp} {n : Nat} {x : Nat → Option SO} {i D M W a b c : Nat} {d d' : Fd} {C C' : Ce}
structure Sq where
  cf : Int
  tr : Int
  lf : Int
  fl : Int
deriving DecidableEq
def nthQ : Sq := ⟨-1, -1, 0, 0⟩
def sqL (q : Sq) : List SV := [.v (.int .i64 q.cf), .v (.int .i64 q.tr), .v (.int .i64 q.lf), .v (.int .i64 q.fl)]
def sqV (q : Sq) : SV := .agg (sqL q)
def boot4 : ByteArray := ⟨#[98, 111, 111, 116]⟩
def bt (s : ByteArray) (k : Nat) : Int := (bts s).getD k 0
def SndT (s : ByteArray) : Prop := s.size = 4 ∧ bt s 0 ≤ 2 ∧ bt s 1 ≤ 2 ∧ (bt s 0 = 0 ∨ bt s 0 ≠ bt s 1) ∧ bt s 2 ≤ 8 ∧ (bt s 1 ≠ 0 ∨ bt s 2 = 0)
theorem bt_le {s : ByteArray} {k : Nat} : 0 ≤ (bts s).getD k 0 ∧ (bts s).getD k 0 ≤ 255 := by
  rw [List.getD_eq_getElem?_getD]
  cases h : (bts s)[k]? with
  | none => decide
  | some y => exact bts_bytes y (List.mem_of_getElem? h)
instance {s : ByteArray} : Decidable (SndT s) := by unfold SndT; exact inferInstance
def stQ (es : List (Value × Value)) : Sq := if es.length = 1 ∧ SndT (tOf es boot4) then ⟨bt (tOf es boot4) 0 - 1, bt (tOf es boot4) 1 - 1, bt (tOf es boot4) 2, bt (tOf es boot4) 3⟩ else nthQ
def NoX (x : Nat → Option SO) : Prop := x 4001003 = some ⟨false, .sv (sqL nthQ)⟩
theorem soundS {s : ByteArray} : SpecAt Tryz.prog nBsound [.v (.string s)] H n (.v (.bool (decide (SndT s)))) H n := okT.pure tBsound (by
  unfold mBsound
  simp -implicitDefEqProofs only [↓fnVC, initTm]
  simp -implicitDefEqProofs only [go_sem]
  by_cases c1 : s.size = 4
  · have a0 : decide ((s.size : Int) = 4) = true := decide_eq_true (by omega)
    have a1 : (0 : Int) < s.size := by omega
    have a2 : (1 : Int) < s.size := by omega
    have a3 : (2 : Int) < s.size := by omega
    simp -implicitDefEqProofs only [go_sem, a0, a1, a2, a3]
    rw [show decide (SndT s) = (decide ((bts s).getD 0 0 ≤ 2) && (decide ((bts s).getD 1 0 ≤ 2) && ((decide ((bts s).getD 0 0 = 0) || !decide ((bts s).getD 0 0 = (bts s).getD 1 0)) && (decide ((bts s).getD 2 0 ≤ 8) && (!decide ((bts s).getD 1 0 = 0) || decide ((bts s).getD 2 0 = 0)))))) by
      rw [Bool.eq_iff_iff]; simp [SndT, bt, c1]]
    cases e0 : decide ((bts s).getD 0 0 ≤ 2)
    · simp -implicitDefEqProofs only [go_sem, a0, a1, a2, a3, e0]
      rfl
    cases e1 : decide ((bts s).getD 1 0 ≤ 2)
    · simp -implicitDefEqProofs only [go_sem, a0, a1, a2, a3, e0, e1]
      rfl
    cases e2 : decide ((bts s).getD 0 0 = 0) <;> cases e3 : decide ((bts s).getD 0 0 = (bts s).getD 1 0) <;> cases e4 : decide ((bts s).getD 2 0 ≤ 8) <;> cases e5 : decide ((bts s).getD 1 0 = 0) <;> cases e6 : decide ((bts s).getD 2 0 = 0) <;>
      (simp -implicitDefEqProofs only [go_sem, a0, a1, a2, a3, e0, e1, e2, e3, e4, e5, e6]) <;> try rfl
  · have a0 : decide ((s.size : Int) = 4) = false := decide_eq_false (by omega)
    rw [show decide (SndT s) = false from decide_eq_false fun h => c1 h.1]
    simp -implicitDefEqProofs only [go_sem, a0])
structure Bt where
  C : Ce
  d : Fd
  bs : Nat
  r : Nat
  on : Bool
  slot : Int
  ver : Int
def btB (T : Bt) (q s : Nat) : Body := .sv [.ptr q 0, .ptr s 0, .v (.int .i64 T.r), .v (.bool T.on), .v (.int .i64 T.slot), .v (.int .i64 T.ver)]
def btL (T : Bt) (w : Bool) : List (Nat × Option SO) := [(1, some ⟨w, btB T 2 3⟩), (2, some ⟨w, cellB T.C 4 8 9⟩), (3, some ⟨w, Sl.slB 4 T.bs T.r⟩), (4, some ⟨w, devB T.d 5 6 7⟩), (5, some ⟨w, secB T.d.seen⟩), (6, some ⟨w, secB T.d.safe⟩), (7, some ⟨w, .pl (prow T.d.pend)⟩), (8, some ⟨w, .mp (.map T.C.now)⟩), (9, some ⟨w, .mp (.map T.C.was)⟩)]
structure CellRd (H : Hp) (C : Ce) (d : Fd) (i D a b c M W : Nat) : Prop where
  gi : ∃ u, H.get i = some ⟨u, cellB C D M W⟩
  gD : ∃ u, H.get D = some ⟨u, devB d a b c⟩
  ga : ∃ u, H.get a = some ⟨u, secB d.seen⟩
  gb : ∃ u, H.get b = some ⟨u, secB d.safe⟩
  gc : ∃ u, H.get c = some ⟨u, .pl (prow d.pend)⟩
  gM : ∃ u, H.get M = some ⟨u, .mp (.map C.now)⟩
  gW : ∃ u, H.get W = some ⟨u, .mp (.map C.was)⟩
  ne : ([i, D, a, b, c, M, W].all fun k => decide (0 < k)) = true
theorem CellRd.sub_r (h : CellRd H C d i D a b c M W) : hpSub (ceP i D a b c M W) H (ceHr C d x).l := by
  obtain ⟨⟨_, g1⟩, ⟨_, g2⟩, ⟨_, g3⟩, ⟨_, g4⟩, ⟨_, g5⟩, ⟨_, g6⟩, ⟨_, g7⟩, hp⟩ := h
  simp at hp
  exact ⟨sub_ro rfl hp.1 g1 rfl, sub_ro rfl hp.2.1 g2 rfl, sub_ro rfl hp.2.2.1 g3 rfl, sub_ro rfl hp.2.2.2.1 g4 rfl, sub_ro rfl hp.2.2.2.2.1 g5 rfl, sub_ro rfl hp.2.2.2.2.2.1 g6 rfl, sub_ro rfl hp.2.2.2.2.2.2 g7 rfl, trivial⟩
theorem getR {name : ByteArray} (h : CellRd H C d i D a b c M W) (hE : Es C.now) : SpecAt Tryz.prog nCGet [.ptr i 0, .v (.string name)] H n (getV C.now name) H n := by
  have := lift_ro (n := n) (okT.spec tCGet (getW (x := H.x) (d := d) (C := C) (name := name) hE)) (ceP i D a b c M W) rfl rfl rfl (by omega) rfl rfl (h.sub_r (x := H.x)) (by simp [ceHr, apartB, apart1, rn, lk]) (by simp [ceHr, wrNZ, rn, lk]) rfl
  exact this
theorem cNamesR (h : CellRd H C d i D a b c M W) (hE : Es C.now) (hn : n + 1 ≤ 1000) : SpecAt Tryz.prog nCNames [.ptr i 0] H n (.sl n 0 C.now.length 1) ⟨(n, some ⟨true, .strs (srtK C.now)⟩) :: H.l, H.x⟩ (n + 1) := by
  have := lift (n := n) (okT.spec tCNames (cNamesW (x := H.x) (d := d) (C := C) hE)) (ceP i D a b c M W) rfl rfl rfl (by omega) rfl rfl (h.sub_r (x := H.x)) (by simp [ceHr, apartB, apart1, rn, lk]) (by simp [ceHr, wrNZ, rn, lk]) (by omega)
  exact this
theorem stateW {T : Bt} (hE : Es T.C.now) (hx : NoX x) : fnVC CT mBState [.ptr 1 0] ⟨btL T false, x⟩ 10 fun v H' n' => Sub 10 ⟨[(0, sqV (stQ T.C.now))], ⟨[], x⟩, 10⟩ ⟨[(0, v)], H', n'⟩ := by
  have hx' : x 4001003 = some ⟨false, .sv (sqL nthQ)⟩ := hx
  unfold mBState btL btB
  simp -implicitDefEqProofs only [↓fnVC, initTm]
  simp -implicitDefEqProofs only [go_sem]
  refine at_call tCGet (getR (i := 2) (D := 4) (a := 5) (b := 6) (c := 7) (M := 8) (W := 9) (C := T.C) (d := T.d) ⟨⟨_, by rfl⟩, ⟨_, by rfl⟩, ⟨_, by rfl⟩, ⟨_, by rfl⟩, ⟨_, by rfl⟩, ⟨_, by rfl⟩, ⟨_, by rfl⟩, rfl⟩ hE) ?_
  unfold getV
  simp -implicitDefEqProofs only [go_sem]
  refine at_call tCNames (cNamesR (i := 2) (D := 4) (a := 5) (b := 6) (c := 7) (M := 8) (W := 9) (C := T.C) (d := T.d) ⟨⟨_, by rfl⟩, ⟨_, by rfl⟩, ⟨_, by rfl⟩, ⟨_, by rfl⟩, ⟨_, by rfl⟩, ⟨_, by rfl⟩, ⟨_, by rfl⟩, rfl⟩ hE (by decide)) ?_
  simp -implicitDefEqProofs only [go_sem]
  have nth : stQ T.C.now = nthQ → Sub 10 ⟨[(0, sqV (stQ T.C.now))], ⟨[], x⟩, 10⟩ ⟨[(0, sqV nthQ)], ⟨[], x⟩, 10⟩ := fun h => by rw [h]; exact sub_val rfl (by decide) (by decide) rfl
  by_cases c1 : T.C.now.length = 1
  · have a1 : decide ((T.C.now.length : Int) = 1) = true := decide_eq_true (by omega)
    simp -implicitDefEqProofs only [go_sem, a1]
    refine at_call tBsound soundS ?_
    by_cases c2 : SndT (tOf T.C.now boot4)
    · have a2 : decide (SndT (tOf T.C.now ⟨#[98, 111, 111, 116]⟩)) = true := decide_eq_true c2
      have b1 : (0 : Int) < (tOf T.C.now ⟨#[98, 111, 111, 116]⟩).size := by have := c2.1; unfold boot4 at this; omega
      have b2 : (1 : Int) < (tOf T.C.now ⟨#[98, 111, 111, 116]⟩).size := by have := c2.1; unfold boot4 at this; omega
      have b3 : (2 : Int) < (tOf T.C.now ⟨#[98, 111, 111, 116]⟩).size := by have := c2.1; unfold boot4 at this; omega
      have b4 : (3 : Int) < (tOf T.C.now ⟨#[98, 111, 111, 116]⟩).size := by have := c2.1; unfold boot4 at this; omega
      have hb : ∀ k, 0 ≤ (bts (tOf T.C.now ⟨#[98, 111, 111, 116]⟩)).getD k 0 ∧ (bts (tOf T.C.now ⟨#[98, 111, 111, 116]⟩)).getD k 0 ≤ 255 := fun k => bt_le
      have w : ∀ k, IntKind.i64.wrap ((bts (tOf T.C.now ⟨#[98, 111, 111, 116]⟩)).getD k 0) = (bts (tOf T.C.now ⟨#[98, 111, 111, 116]⟩)).getD k 0 := fun k => wrap_i64 (by have := hb k; omega) (by have := hb k; omega)
      have w' : ∀ k, IntKind.i64.wrap ((bts (tOf T.C.now ⟨#[98, 111, 111, 116]⟩)).getD k 0 - 1) = (bts (tOf T.C.now ⟨#[98, 111, 111, 116]⟩)).getD k 0 - 1 := fun k => wrap_i64 (by have := hb k; omega) (by have := hb k; omega)
      simp -implicitDefEqProofs only [go_sem, a1, a2, b1, b2, b3, b4, w, w', splice_zero, splice_succ, List.drop_succ_cons, List.drop_zero, List.drop_nil, List.cons_append, List.nil_append, List.take_succ_cons, List.take_zero, List.length_cons, List.length_nil]
      rw [show stQ T.C.now = ⟨bt (tOf T.C.now boot4) 0 - 1, bt (tOf T.C.now boot4) 1 - 1, bt (tOf T.C.now boot4) 2, bt (tOf T.C.now boot4) 3⟩ from if_pos ⟨c1, c2⟩]
      unfold sqV sqL bt boot4
      refine sub_mk [] rfl rfl rfl ?_
      simp only [tmSub, hpSub, objSub, eqTm, eqHp, rn, lk, SV.ren, SV.renC, SV.renB, SV.renA, ren_ints, ren_strs, ren_pl, ren_svs, List.map_cons, List.map_nil, forall_const, Nat.reduceLT, true_and, and_true, ob_some, get_mk, lk_cons, ↓reduceIte, Nat.reduceEqDiff, Nat.reduceAdd, implies_true, reduceCtorEq]
    · have a2 : decide (SndT (tOf T.C.now ⟨#[98, 111, 111, 116]⟩)) = false := decide_eq_false c2
      simp -implicitDefEqProofs only [go_sem, a1, a2, hx', sqL, nthQ, splice_zero, splice_succ, List.drop_succ_cons, List.drop_zero, List.drop_nil, List.cons_append, List.nil_append, List.take_succ_cons, List.take_zero, List.length_cons, List.length_nil]
      rw [show stQ T.C.now = nthQ from if_neg fun h => c2 h.2]
      unfold sqV sqL nthQ
      refine sub_mk [] rfl rfl rfl ?_
      simp only [tmSub, hpSub, objSub, eqTm, eqHp, rn, lk, SV.ren, SV.renC, SV.renB, SV.renA, ren_ints, ren_strs, ren_pl, ren_svs, List.map_cons, List.map_nil, forall_const, Nat.reduceLT, true_and, and_true, ob_some, get_mk, lk_cons, ↓reduceIte, Nat.reduceEqDiff, Nat.reduceAdd, implies_true, reduceCtorEq]
  · have a1 : decide ((T.C.now.length : Int) = 1) = false := decide_eq_false (by omega)
    simp -implicitDefEqProofs only [go_sem, a1, hx', sqL, nthQ, splice_zero, splice_succ, List.drop_succ_cons, List.drop_zero, List.drop_nil, List.cons_append, List.nil_append, List.take_succ_cons, List.take_zero, List.length_cons, List.length_nil]
    rw [show stQ T.C.now = nthQ from if_neg fun h => c1 h.1]
    unfold sqV sqL nthQ
    refine sub_mk [] rfl rfl rfl ?_
    simp only [tmSub, hpSub, objSub, eqTm, eqHp, rn, lk, SV.ren, SV.renC, SV.renB, SV.renA, ren_ints, ren_strs, ren_pl, ren_svs, List.map_cons, List.map_nil, forall_const, Nat.reduceLT, true_and, and_true, ob_some, get_mk, lk_cons, ↓reduceIte, Nat.reduceEqDiff, Nat.reduceAdd, implies_true, reduceCtorEq]
end
section
/- Boot: keep. -/
set_option linter.unusedVariables false
set_option linter.unusedSimpArgs false
set_option maxRecDepth 100000
open Go.Proofs
variable {H : Hp} {n : Nat} {x : Nat → Option SO} {i D M W a b c : Nat} {d d' : Fd} {C C' : Ce}
def ceU (C : Ce) (d : Fd) : List (Nat × Option SO) := [(1, some ⟨true, cellB { C with now := C.was } 2 8 7⟩), (2, some ⟨true, devB d 3 4 5⟩), (3, some ⟨true, secB d.seen⟩), (4, some ⟨true, secB d.safe⟩), (5, some ⟨true, .pl (prow d.pend)⟩), (6, none), (7, some ⟨true, .mp (.map C.was)⟩), (8, some ⟨true, .mp (.map C.was)⟩)]
theorem undoW : fnVC CT mCUndo [.ptr 1 0] (ceH C d x) 8 fun v H' n' => Sub 8 ⟨[(0, .tup [])], ⟨ceU C d, x⟩, 9⟩ ⟨[(0, v)], H', n'⟩ := by
  unfold mCUndo
  rw [show ceH C d x = ⟨ceL C d, x⟩ from rfl]
  unfold ceL devL cellB
  simp -implicitDefEqProofs only [↓fnVC, initTm]
  simp -implicitDefEqProofs only [go_sem]
  refine at_ext (enters_mk Tryz.func49 rfl rfl) (cloneT (i := 7) (by rfl) rfl (by decide)) ?_
  simp -implicitDefEqProofs only [go_sem]
  refine ⟨rfl, ?_⟩
  unfold ceU cellB
  refine sub_mk [] rfl rfl rfl ?_
  simp only [tmSub, hpSub, objSub, eqTm, eqHp, rn, lk, SV.ren, SV.renC, SV.renB, SV.renA, ren_ints, ren_strs, ren_pl, ren_svs, List.map_cons, List.map_nil, forall_const, Nat.reduceLT, true_and, and_true, ob_some, get_mk, lk_cons, ↓reduceIte, Nat.reduceEqDiff, Nat.reduceAdd, implies_true, reduceCtorEq]
  repeat' (first | rfl | apply And.intro)
theorem undoS (h : CellAt H C d i D a b c M W) (hn : n + 1 ≤ 1000) :
    SpecAt Tryz.prog nCUndo [.ptr i 0] H n (.tup []) ⟨(i, some ⟨true, cellB { C with now := C.was } D n W⟩) :: (D, some ⟨true, devB d a b c⟩) :: (a, some ⟨true, secB d.seen⟩) :: (b, some ⟨true, secB d.safe⟩) :: (c, some ⟨true, .pl (prow d.pend)⟩) :: (M, none) :: (W, some ⟨true, .mp (.map C.was)⟩) :: (n, some ⟨true, .mp (.map C.was)⟩) :: H.l, H.x⟩ (n + 1) := by
  have := lift (n := n) (okT.spec tCUndo (undoW (x := H.x) (d := d) (C := C))) (ceP i D a b c M W) rfl rfl rfl (by omega) rfl rfl h.sub h.ap h.nz (by omega)
  exact this
theorem dropS' {name : ByteArray} {es' : List (Value × Value)} (h : CellAt H C d i D a b c M W) (hE : Es C.now) (he : dlS C.now name = es') :
    SpecAt Tryz.prog nCDrop [.ptr i 0, .v (.string name)] H n (.v (.bool (luS C.now name).isSome))
      ⟨(i, some ⟨true, cellB C D M W⟩) :: (D, some ⟨true, devB d a b c⟩) :: (a, some ⟨true, secB d.seen⟩) :: (b, some ⟨true, secB d.safe⟩) :: (c, some ⟨true, .pl (prow d.pend)⟩) :: (M, some ⟨true, .mp (.map es')⟩) :: (W, some ⟨true, .mp (.map C.was)⟩) :: H.l, H.x⟩ n := by
  subst he; exact dropS h hE
def dlN (es : List (Value × Value)) (l : List ByteArray) : List (Value × Value) := l.foldl dlS es
theorem dlN_es {es : List (Value × Value)} (h : Es es) : ∀ l, Es (dlN es l) := by
  intro l
  induction l generalizing es with
  | nil => exact h
  | cons s l ih => exact ih (h.drop s)
theorem dlS_gone {es : List (Value × Value)} {s : ByteArray} (hk : keysS es = true) (hn : (es.map keyB).Nodup) : s.data.toList ∉ (dlS es s).map keyB := by
  induction es with
  | nil => exact List.not_mem_nil
  | cons e es ih =>
    rw [List.map_cons, List.nodup_cons] at hn
    unfold dlS
    have hk' : keysS es = true := by unfold keysS at hk ⊢; rw [List.all_cons, Bool.and_eq_true] at hk; exact hk.2
    split
    · rename_i hc
      have e1 : keyB e = s.data.toList := by
        unfold keyIs at hc
        split at hc
        · rename_i u hu
          unfold keyB
          rw [hu, of_decide_eq_true hc]
        · cases hc
      rw [← e1]; exact hn.1
    · rename_i hc
      rw [List.map_cons, List.mem_cons]
      rintro (h | h)
      · obtain ⟨u, hu⟩ : ∃ u, e.1 = .string u := by
          unfold keysS at hk
          rw [List.all_cons, Bool.and_eq_true] at hk
          have := hk.1
          split at this
          · exact ⟨_, by assumption⟩
          · cases this
        have : u = s := by
          unfold keyB at h
          rw [hu] at h
          exact ByteArray.ext (Array.toList_inj.mp h.symm)
        rw [hu, this] at hc
        exact hc (decide_eq_true rfl)
      · exact ih hk' hn.2 h
theorem dlN_mem {es : List (Value × Value)} : ∀ {l : List ByteArray}, Es es → ∀ e ∈ dlN es l, e ∈ es ∧ ∀ s ∈ l, keyB e ≠ s.data.toList := by
  intro l
  induction l generalizing es with
  | nil => exact fun _ e he => ⟨he, fun _ h => absurd h List.not_mem_nil⟩
  | cons s l ih =>
    intro h e he
    obtain ⟨h1, h2⟩ := ih (h.drop s) e he
    refine ⟨dl_mem.subset h1, fun t ht => ?_⟩
    rcases List.mem_cons.mp ht with rfl | ht
    · intro hc
      obtain ⟨e', g1, g2⟩ : ∃ e' ∈ dlS es t, keyB e' = t.data.toList := ⟨e, h1, hc⟩
      exact dlS_gone h.keys h.nd (List.mem_map.mpr ⟨e', g1, g2⟩)
    · exact h2 t ht
theorem dlN_all {es : List (Value × Value)} (h : Es es) : dlN es (srtK es) = [] := by
  rw [List.eq_nil_iff_forall_not_mem]
  intro e he
  obtain ⟨h1, h2⟩ := dlN_mem h e he
  exact h2 ⟨(keyB e).toArray⟩ (srtK_mem' (List.mem_map_of_mem h1)) rfl
theorem dlN_succ {es : List (Value × Value)} {j : Nat} (hj : j < es.length) : dlS (dlN es ((srtK es).take j)) ((srtK es).getD j .empty) = dlN es ((srtK es).take (j + 1)) := by
  have hl : j < (srtK es).length := by rw [srtK_len]; exact hj
  unfold dlN
  rw [List.take_add_one, List.foldl_append, List.getD_eq_getElem?_getD, List.getElem?_eq_getElem hl]
  rfl
def st4L (q : Sq) : List Int := [IntKind.u8.wrap (IntKind.i64.wrap (q.cf + 1)), IntKind.u8.wrap (IntKind.i64.wrap (q.tr + 1)), IntKind.u8.wrap q.lf, IntKind.u8.wrap q.fl]
def st4 (q : Sq) : ByteArray := tx (st4L q)
def kpC (q : Sq) (C : Ce) : Ce := { C with now := kv boot4 (st4 q) }
def kpF (p : Int × Ce × Fd) (T : Bt) : Int × Bt := (p.1, { T with C := if p.1 = 0 then p.2.1 else { p.2.1 with now := p.2.1.was }, d := p.2.2 })
def kpR (q : Sq) (T : Bt) : Int × Bt := kpF (coR (kpC q T.C) T.d) T
def btN (T : Bt) : List (Nat × Option SO) := [(1, some ⟨true, btB T 2 3⟩), (2, some ⟨true, cellB T.C 4 13 14⟩), (3, some ⟨true, Sl.slB 4 T.bs T.r⟩), (4, some ⟨true, devB T.d 10 11 12⟩), (5, none), (6, none), (7, none), (8, none), (9, none), (10, some ⟨true, secB T.d.seen⟩), (11, some ⟨true, secB T.d.safe⟩), (12, some ⟨true, .pl (prow T.d.pend)⟩), (13, some ⟨true, .mp (.map T.C.now)⟩), (14, some ⟨true, .mp (.map T.C.was)⟩)]
theorem st4_size {q : Sq} : (st4 q).size = 4 := by unfold st4 st4L; rw [tx_sz]; rfl
theorem kv4_es {t : ByteArray} (h : t.size ≤ 65535) : Es (kv boot4 t) := kv_es (by decide) (by decide) h
set_option maxHeartbeats 2000000 in
theorem keepW {T : Bt} {q : Sq} {m t : Nat} (hC : T.C.ok) (hP : Pl T.d m t) (ht : t + 1000 < 1000000) (hx : NoX x) : fnVC CT mBkeep [.ptr 1 0, sqV q] ⟨btL T true, x⟩ 10 fun v H' n' => Sub 10 ⟨[(0, .v (.int .i64 (kpR q T).1))], ⟨btN (kpR q T).2, x⟩, 15⟩ ⟨[(0, v)], H', n'⟩ := by
  have hE := hC.now
  have hlen := hE.len
  unfold mBkeep btL btB sqV sqL
  simp -implicitDefEqProofs only [↓fnVC, initTm]
  simp -implicitDefEqProofs only [go_sem]
  refine at_call tCNames (cNamesR (i := 2) (D := 4) (a := 5) (b := 6) (c := 7) (M := 8) (W := 9) (C := T.C) (d := T.d) ⟨⟨_, by rfl⟩, ⟨_, by rfl⟩, ⟨_, by rfl⟩, ⟨_, by rfl⟩, ⟨_, by rfl⟩, ⟨_, by rfl⟩, ⟨_, by rfl⟩, rfl⟩ hE (by decide)) ?_
  simp -implicitDefEqProofs only [go_sem]
  refine loop_fam (fun (j : Nat) => j ≤ T.C.now.length) (fun j => ⟨[(0, .ptr 1 0), (3, .ptr 10 0), (12, .sl 11 0 T.C.now.length 1), (13, .v (.int .i64 T.C.now.length)), (14, .v (.int .i64 j))], ⟨[(1, some ⟨true, .sv [.ptr 2 0, .ptr 3 0, .v (.int .i64 T.r), .v (.bool T.on), .v (.int .i64 T.slot), .v (.int .i64 T.ver)]⟩), (2, some ⟨true, cellB T.C 4 8 9⟩), (3, some ⟨true, Sl.slB 4 T.bs T.r⟩), (4, some ⟨true, devB T.d 5 6 7⟩), (5, some ⟨true, secB T.d.seen⟩), (6, some ⟨true, secB T.d.safe⟩), (7, some ⟨true, .pl (prow T.d.pend)⟩), (8, some ⟨true, .mp (.map (dlN T.C.now ((srtK T.C.now).take j)))⟩), (9, some ⟨true, .mp (.map T.C.was)⟩), (10, some ⟨true, .sv [.v (.int .i64 q.cf), .v (.int .i64 q.tr), .v (.int .i64 q.lf), .v (.int .i64 q.fl)]⟩), (11, some ⟨true, .strs (srtK T.C.now)⟩)], x⟩, 12⟩) (fun j => T.C.now.length - j) 0 (Nat.zero_le _) ?_ ?_
  · refine sub_mk [] rfl rfl rfl ?_
    simp only [tmSub, hpSub, objSub, eqTm, eqHp, rn, lk, SV.ren, SV.renC, SV.renB, SV.renA, ren_ints, ren_strs, ren_pl, ren_svs, List.map_cons, List.map_nil, forall_const, Nat.reduceLT, true_and, and_true, ob_some, get_mk, lk_cons, ↓reduceIte, Nat.reduceEqDiff, Nat.reduceAdd, implies_true, reduceCtorEq]
    repeat' (first | rfl | apply And.intro)
  · intro j hj
    simp -implicitDefEqProofs only [go_sem]
    refine condK_bb (fun e => ?_) (fun e => ?_)
    · have c1 : j < T.C.now.length := by have := of_decide_eq_true e; omega
      have w2 : IntKind.i64.wrap ((j : Int) + 1) = ((j + 1 : Nat) : Int) := by rw [wrap_i64 (by omega) (by omega)]; omega
      have hsl : j < (srtK T.C.now).length := by rw [srtK_len]; exact c1
      simp -implicitDefEqProofs only [go_sem, e]
      refine ⟨⟨by omega, by omega⟩, hsl, ?_⟩
      refine at_call tCDrop (dropS' (i := 2) (D := 4) (a := 5) (b := 6) (c := 7) (M := 8) (W := 9) (C := { T.C with now := dlN T.C.now ((srtK T.C.now).take j) }) (d := T.d) ⟨by rfl, by rfl, by rfl, by rfl, by rfl, by rfl, by rfl, by decide, by rfl, by rfl⟩ (dlN_es hE _) (dlN_succ c1)) ?_
      simp -implicitDefEqProofs only [go_sem, w2]
      refine kLoop_mk (j + 1) (by omega) (by omega) ?_
      refine sub_mk [] rfl rfl rfl ?_
      simp only [tmSub, hpSub, objSub, eqTm, eqHp, rn, lk, SV.ren, SV.renC, SV.renB, SV.renA, ren_ints, ren_strs, ren_pl, ren_svs, List.map_cons, List.map_nil, forall_const, Nat.reduceLT, true_and, and_true, ob_some, get_mk, lk_cons, ↓reduceIte, Nat.reduceEqDiff, Nat.reduceAdd, implies_true, reduceCtorEq]
      repeat' (first | rfl | apply And.intro)
    · have c1 : j = T.C.now.length := by have := of_decide_eq_false e; omega
      subst c1
      have g0 : dlN T.C.now ((srtK T.C.now).take T.C.now.length) = [] := by
        rw [← srtK_len (es := T.C.now), List.take_length]; exact dlN_all hE
      rw [g0]
      simp -implicitDefEqProofs only [go_sem, e]
      have pe : putE [] boot4 (st4 q) = 0 := putE_ok (by decide) (by decide) (by rw [st4_size]; decide) (by decide)
      refine at_call tCPut (putS' (i := 2) (D := 4) (a := 5) (b := 6) (c := 7) (M := 8) (W := 9) (C := { T.C with now := [] }) (d := T.d) (name := boot4) (text := st4 q) (es' := kv boot4 (st4 q)) ⟨by rfl, by rfl, by rfl, by rfl, by rfl, by rfl, by rfl, by decide, by rfl, by rfl⟩ Es.nil pe (by unfold putEs; rw [if_pos pe]; rfl)) ?_
      simp -implicitDefEqProofs only [go_sem]
      have hC' : (kpC q T.C).ok := ⟨kv4_es (by rw [st4_size]; decide), hC.was, hC.half, hC.base, hC.last, hC.num⟩
      obtain ⟨⟨e, C', d'⟩, hq⟩ : ∃ p, coR (kpC q T.C) T.d = p := ⟨_, rfl⟩
      refine at_call tCCommit (commitS (i := 2) (D := 4) (a := 5) (b := 6) (c := 7) (M := 8) (W := 9) (C := kpC q T.C) (d := T.d) ⟨by rfl, by rfl, by rfl, by rfl, by rfl, by rfl, by rfl, by decide, by rfl, by rfl⟩ hC' hP ht (by decide) hq) ?_
      simp -implicitDefEqProofs only [go_sem]
      have hk : kpR q T = kpF (e, C', d') T := by unfold kpR; rw [hq]
      rw [hk]
      by_cases c3 : e = 0
      · have b1 : decide (e = 0) = true := decide_eq_true c3
        simp -implicitDefEqProofs only [go_sem, b1]
        unfold kpF
        simp only [if_pos c3]
        unfold btN btB
        trace_state
        refine sub_mk [(10, 13), (11, 14), (12, 15), (13, 8), (14, 16)] rfl rfl rfl ?_
        simp only [tmSub, hpSub, objSub, eqTm, eqHp, rn, lk, SV.ren, SV.renC, SV.renB, SV.renA, ren_ints, ren_strs, ren_pl, ren_svs, List.map_cons, List.map_nil, forall_const, Nat.reduceLT, true_and, and_true, ob_some, get_mk, lk_cons, ↓reduceIte, Nat.reduceEqDiff, Nat.reduceAdd, implies_true, reduceCtorEq]
        repeat' (first | rfl | apply And.intro)
      · have b1 : decide (e = 0) = false := decide_eq_false c3
        simp -implicitDefEqProofs only [go_sem, b1]
        refine at_call tCUndo (undoS (i := 2) (D := 4) (a := 13) (b := 14) (c := 15) (M := 8) (W := 16) (C := C') (d := d') ⟨by rfl, by rfl, by rfl, by rfl, by rfl, by rfl, by rfl, by decide, by rfl, by rfl⟩ (by decide)) ?_
        simp -implicitDefEqProofs only [go_sem]
        unfold kpF
        simp only [if_neg c3]
        unfold btN btB
        refine sub_mk [(10, 13), (11, 14), (12, 15), (13, 17), (14, 16)] rfl rfl rfl ?_
        simp only [tmSub, hpSub, objSub, eqTm, eqHp, rn, lk, SV.ren, SV.renC, SV.renB, SV.renA, ren_ints, ren_strs, ren_pl, ren_svs, List.map_cons, List.map_nil, forall_const, Nat.reduceLT, true_and, and_true, ob_some, get_mk, lk_cons, ↓reduceIte, Nat.reduceEqDiff, Nat.reduceAdd, implies_true, reduceCtorEq]
        repeat' (first | rfl | apply And.intro)
end
section
/- Boot: at any heap; Provision. -/
set_option linter.unusedVariables false
set_option linter.unusedSimpArgs false
set_option maxRecDepth 100000
open Go.Proofs
variable {H : Hp} {n : Nat} {x : Nat → Option SO} {i q s D M W a b c : Nat} {d d' : Fd} {C C' : Ce} {T : Bt}
def btP (i q s D a b c M W : Nat) : List (Nat × Nat) := [(1, i), (2, q), (3, s), (4, D), (5, a), (6, b), (7, c), (8, M), (9, W)]
structure BtAt (H : Hp) (T : Bt) (i q s D a b c M W : Nat) : Prop where
  gi : H.get i = some ⟨true, btB T q s⟩
  gq : H.get q = some ⟨true, cellB T.C D M W⟩
  gs : H.get s = some ⟨true, Sl.slB D T.bs T.r⟩
  gD : H.get D = some ⟨true, devB T.d a b c⟩
  ga : H.get a = some ⟨true, secB T.d.seen⟩
  gb : H.get b = some ⟨true, secB T.d.safe⟩
  gc : H.get c = some ⟨true, .pl (prow T.d.pend)⟩
  gM : H.get M = some ⟨true, .mp (.map T.C.now)⟩
  gW : H.get W = some ⟨true, .mp (.map T.C.was)⟩
  ne : ([i, q, s, D, a, b, c, M, W].all fun k => decide (0 < k ∧ k < 1000)) = true
  ap : apartB (btP i q s D a b c M W) (btL T true) (btL T true) = true
  nz : wrNZ (btP i q s D a b c M W) (btL T true) = true
theorem BtAt.sub {w : Bool} (h : BtAt H T i q s D a b c M W) : hpSub (btP i q s D a b c M W) H (btL T w) := by
  obtain ⟨g1, g2, g3, g4, g5, g6, g7, g8, g9, hp, _, _⟩ := h
  simp at hp
  cases w with
  | true => exact ⟨sub_wr rfl hp.1.1 hp.1.2 g1 rfl, sub_wr rfl hp.2.1.1 hp.2.1.2 g2 rfl, sub_wr rfl hp.2.2.1.1 hp.2.2.1.2 g3 rfl, sub_wr rfl hp.2.2.2.1.1 hp.2.2.2.1.2 g4 rfl, sub_wr rfl hp.2.2.2.2.1.1 hp.2.2.2.2.1.2 g5 rfl, sub_wr rfl hp.2.2.2.2.2.1.1 hp.2.2.2.2.2.1.2 g6 rfl, sub_wr rfl hp.2.2.2.2.2.2.1.1 hp.2.2.2.2.2.2.1.2 g7 rfl, sub_wr rfl hp.2.2.2.2.2.2.2.1.1 hp.2.2.2.2.2.2.2.1.2 g8 rfl, sub_wr rfl hp.2.2.2.2.2.2.2.2.1 hp.2.2.2.2.2.2.2.2.2 g9 rfl, trivial⟩
  | false => exact ⟨sub_ro rfl hp.1.1 g1 rfl, sub_ro rfl hp.2.1.1 g2 rfl, sub_ro rfl hp.2.2.1.1 g3 rfl, sub_ro rfl hp.2.2.2.1.1 g4 rfl, sub_ro rfl hp.2.2.2.2.1.1 g5 rfl, sub_ro rfl hp.2.2.2.2.2.1.1 g6 rfl, sub_ro rfl hp.2.2.2.2.2.2.1.1 g7 rfl, sub_ro rfl hp.2.2.2.2.2.2.2.1.1 g8 rfl, sub_ro rfl hp.2.2.2.2.2.2.2.2.1 g9 rfl, trivial⟩
theorem stateS (h : BtAt H T i q s D a b c M W) (hE : Es T.C.now) (hx : NoX H.x) : SpecAt Tryz.prog nBState [.ptr i 0] H n (sqV (stQ T.C.now)) H n := by
  have := lift_ro (n := n) (okT.spec tBState (stateW (x := H.x) (T := T) hE hx)) (btP i q s D a b c M W) rfl rfl rfl (by omega) rfl rfl (h.sub (w := false)) (by simp [btL, apartB, apart1, rn, lk]) (by simp [btL, wrNZ, rn, lk]) rfl
  exact this
def btF (T : Bt) (i q s D a b c M W n : Nat) (l : List (Nat × Option SO)) : List (Nat × Option SO) := (i, some ⟨true, btB T q s⟩) :: (q, some ⟨true, cellB T.C D (n + 3) (n + 4)⟩) :: (s, some ⟨true, Sl.slB D T.bs T.r⟩) :: (D, some ⟨true, devB T.d n (n + 1) (n + 2)⟩) :: (a, none) :: (b, none) :: (c, none) :: (M, none) :: (W, none) :: (n, some ⟨true, secB T.d.seen⟩) :: (n + 1, some ⟨true, secB T.d.safe⟩) :: (n + 2, some ⟨true, .pl (prow T.d.pend)⟩) :: (n + 3, some ⟨true, .mp (.map T.C.now)⟩) :: (n + 4, some ⟨true, .mp (.map T.C.was)⟩) :: l
theorem btF_eq {l : List (Nat × Option SO)} : btF T i q s D a b c M W n l = (i, some ⟨true, btB T q s⟩) :: (q, some ⟨true, cellB T.C D (n + 3) (n + 4)⟩) :: (s, some ⟨true, Sl.slB D T.bs T.r⟩) :: (D, some ⟨true, devB T.d n (n + 1) (n + 2)⟩) :: (a, none) :: (b, none) :: (c, none) :: (M, none) :: (W, none) :: (n, some ⟨true, secB T.d.seen⟩) :: (n + 1, some ⟨true, secB T.d.safe⟩) :: (n + 2, some ⟨true, .pl (prow T.d.pend)⟩) :: (n + 3, some ⟨true, .mp (.map T.C.now)⟩) :: (n + 4, some ⟨true, .mp (.map T.C.was)⟩) :: l := rfl
structure BtK (T : Bt) (m t : Nat) : Prop where
  C : T.C.ok
  P : Pl T.d m t
  t : t + 1000 < 1000000
  bs : T.bs ≤ 4096
  r : T.r ≤ 128
  len : T.bs + 2 * (1 + T.r) ≤ m
  clen : T.C.base + 2 * T.C.half ≤ m
theorem keepS {k : Sq} {m t : Nat} (h : BtAt H T i q s D a b c M W) (hK : BtK T m t) (hx : NoX H.x) (hn : n + 5 ≤ 1000) {e : Int} {T' : Bt} (hq : kpR k T = (e, T')) : SpecAt Tryz.prog nBkeep [.ptr i 0, sqV k] H n (.v (.int .i64 e)) ⟨btF T' i q s D a b c M W n H.l, H.x⟩ (n + 5) := by
  have e1 : (kpR k T).1 = e := by rw [hq]
  have e2 : (kpR k T).2 = T' := by rw [hq]
  subst e1; subst e2
  have := lift (n := n) (okT.spec tBkeep (keepW (x := H.x) (T := T) (q := k) hK.C hK.P hK.t hx)) (btP i q s D a b c M W) rfl rfl rfl (by omega) rfl rfl h.sub h.ap h.nz (by omega)
  exact this
theorem settledS {k : Sq} (hx : NoX H.x) : SpecAt Tryz.prog nBsettled [sqV k] H n (sqV { k with tr := -1, lf := 0 }) H n := lift_pure (okT.spec tBsettled (by
  have hx' : H.x 4001003 = some ⟨false, .sv (sqL nthQ)⟩ := hx
  unfold mBsettled sqV sqL
  simp -implicitDefEqProofs only [↓fnVC, initTm]
  simp -implicitDefEqProofs only [go_sem, hx', sqL, nthQ, splice_zero, splice_succ, List.drop_succ_cons, List.drop_zero, List.drop_nil, List.cons_append, List.nil_append, List.take_succ_cons, List.take_zero, List.length_cons, List.length_nil]
  refine sub_mk [] rfl rfl rfl ?_
  simp only [tmSub, hpSub, objSub, eqTm, eqHp, rn, lk, SV.ren, SV.renC, SV.renB, SV.renA, ren_ints, ren_strs, ren_pl, ren_svs, List.map_cons, List.map_nil, forall_const, Nat.reduceLT, true_and, and_true, ob_some, get_mk, lk_cons, ↓reduceIte, Nat.reduceEqDiff, Nat.reduceAdd, implies_true, reduceCtorEq])) rfl
def sdQ (k : Sq) : Sq := { k with tr := -1, lf := 0 }
def wtB (slot ver : Int) (I : ByteArray) (T : Bt) : Int × Bt := let p := Sl.swR T.bs T.r slot ver I T.d; (p.1, { T with d := p.2 })
def prR (ver : Int) (I : ByteArray) (T : Bt) : Int × Bt :=
  if 0 ≤ (stQ T.C.now).cf then (12, T) else if (wtB 0 ver I T).1 ≠ 0 then wtB 0 ver I T else kpR ⟨0, -1, 0, ver⟩ (wtB 0 ver I T).2
theorem wtB_k {slot ver : Int} {I : ByteArray} {m t : Nat} (h : BtK T m t) (ht : t + 1133 < 1000000) : BtK (wtB slot ver I T).2 m (t + 133) := ⟨h.C, Sl.swR_pl h.P h.t, ht, h.bs, h.r, h.len, h.clen⟩
set_option maxHeartbeats 2000000 in
theorem provW {ver : Int} {I : ByteArray} {m t : Nat} (hK : BtK T m t) (ht : t + 1133 < 1000000) (hx : NoX x) : fnVC CT mBProvision [.ptr 1 0, .v (.int .i64 ver), .v (.string I)] ⟨btL T true, x⟩ 10 fun v H' n' => Sub 10 ⟨[(0, .v (.int .i64 (prR ver I T).1))], ⟨btN (prR ver I T).2, x⟩, 15⟩ ⟨[(0, v)], H', n'⟩ := by
  have hx' : x 4001003 = some ⟨false, .sv (sqL nthQ)⟩ := hx
  unfold mBProvision btL btB
  simp -implicitDefEqProofs only [↓fnVC, initTm]
  simp -implicitDefEqProofs only [go_sem]
  refine at_call tBState (stateS (T := T) (i := 1) (q := 2) (s := 3) (D := 4) (a := 5) (b := 6) (c := 7) (M := 8) (W := 9) ⟨by rfl, by rfl, by rfl, by rfl, by rfl, by rfl, by rfl, by rfl, by rfl, by decide, by rfl, by rfl⟩ hK.C.now hx) ?_
  unfold sqV sqL
  simp -implicitDefEqProofs only [go_sem]
  by_cases c1 : 0 ≤ (stQ T.C.now).cf
  · have a1 : decide ((stQ T.C.now).cf ≥ 0) = true := decide_eq_true c1
    rw [show prR ver I T = (12, T) from if_pos c1]
    simp -implicitDefEqProofs only [go_sem, a1]
    unfold btN btB
    refine sub_mk [(10, 5), (11, 6), (12, 7), (13, 8), (14, 9)] rfl rfl rfl ?_
    simp only [tmSub, hpSub, objSub, eqTm, eqHp, rn, lk, SV.ren, SV.renC, SV.renB, SV.renA, ren_ints, ren_strs, ren_pl, ren_svs, List.map_cons, List.map_nil, forall_const, Nat.reduceLT, true_and, and_true, ob_some, get_mk, lk_cons, ↓reduceIte, Nat.reduceEqDiff, Nat.reduceAdd, implies_true, reduceCtorEq]
    repeat' (first | rfl | apply And.intro)
  have a1 : decide ((stQ T.C.now).cf ≥ 0) = false := decide_eq_false c1
  simp -implicitDefEqProofs only [go_sem, a1]
  obtain ⟨⟨e, d1⟩, hq⟩ : ∃ p, Sl.swR T.bs T.r 0 ver I T.d = p := ⟨_, rfl⟩
  have hw : wtB 0 ver I T = (e, { T with d := d1 }) := by unfold wtB; rw [hq]
  have hK1 : BtK { T with d := d1 } m (t + 133) := by have := wtB_k (slot := 0) (ver := ver) (I := I) hK ht; rw [hw] at this; exact this
  refine at_call tSWrite (Sl.swriteS (q := 3) (i := 4) (a := 5) (b := 6) (c := 7) (d := T.d) hK.bs hK.r (by rfl) ⟨by rfl, by rfl, by rfl, by rfl, by decide⟩ (by decide) hK.P hK.t (by decide) hq) ?_
  rw [Sl.devN_eq]
  simp -implicitDefEqProofs only [go_sem]
  by_cases c2 : e = 0
  · have a2 : decide (e = 0) = true := decide_eq_true c2
    simp -implicitDefEqProofs only [go_sem, a2, hx', sqL, nthQ, splice_zero, splice_succ, List.drop_succ_cons, List.drop_zero, List.drop_nil, List.cons_append, List.nil_append, List.take_succ_cons, List.take_zero, List.length_cons, List.length_nil]
    have hp : prR ver I T = kpR ⟨0, -1, 0, ver⟩ { T with d := d1 } := by unfold prR; rw [if_neg c1, hw, if_neg (by simp [c2])]
    rw [hp]
    obtain ⟨⟨e2, T2⟩, hk⟩ : ∃ p, kpR ⟨0, -1, 0, ver⟩ { T with d := d1 } = p := ⟨_, rfl⟩
    rw [hk]
    refine at_call tBkeep (keepS (T := { T with d := d1 }) (k := ⟨0, -1, 0, ver⟩) (i := 1) (q := 2) (s := 3) (D := 4) (a := 10) (b := 11) (c := 12) (M := 8) (W := 9) ⟨by rfl, by rfl, by rfl, by rfl, by rfl, by rfl, by rfl, by rfl, by rfl, by decide, by rfl, by rfl⟩ hK1 hx (by decide) hk) ?_
    rw [btF_eq]
    simp -implicitDefEqProofs only [go_sem]
    unfold btN btB
    refine sub_mk [(10, 14), (11, 15), (12, 16), (13, 17), (14, 18)] rfl rfl rfl ?_
    simp only [tmSub, hpSub, objSub, eqTm, eqHp, rn, lk, SV.ren, SV.renC, SV.renB, SV.renA, ren_ints, ren_strs, ren_pl, ren_svs, List.map_cons, List.map_nil, forall_const, Nat.reduceLT, true_and, and_true, ob_some, get_mk, lk_cons, ↓reduceIte, Nat.reduceEqDiff, Nat.reduceAdd, implies_true, reduceCtorEq]
    repeat' (first | rfl | apply And.intro)
  · have a2 : decide (e = 0) = false := decide_eq_false c2
    rw [show prR ver I T = (e, { T with d := d1 }) by unfold prR; rw [if_neg c1, hw, if_pos c2]]
    simp -implicitDefEqProofs only [go_sem, a2]
    unfold btN btB
    refine sub_mk [(13, 8), (14, 9)] rfl rfl rfl ?_
    simp only [tmSub, hpSub, objSub, eqTm, eqHp, rn, lk, SV.ren, SV.renC, SV.renB, SV.renA, ren_ints, ren_strs, ren_pl, ren_svs, List.map_cons, List.map_nil, forall_const, Nat.reduceLT, true_and, and_true, ob_some, get_mk, lk_cons, ↓reduceIte, Nat.reduceEqDiff, Nat.reduceAdd, implies_true, reduceCtorEq]
    repeat' (first | rfl | apply And.intro)
theorem provS {ver : Int} {I : ByteArray} {m t : Nat} (h : BtAt H T i q s D a b c M W) (hK : BtK T m t) (ht : t + 1133 < 1000000) (hx : NoX H.x) (hn : n + 5 ≤ 1000) {e : Int} {T' : Bt} (hq : prR ver I T = (e, T')) : SpecAt Tryz.prog nBProvision [.ptr i 0, .v (.int .i64 ver), .v (.string I)] H n (.v (.int .i64 e)) ⟨btF T' i q s D a b c M W n H.l, H.x⟩ (n + 5) := by
  have e1 : (prR ver I T).1 = e := by rw [hq]
  have e2 : (prR ver I T).2 = T' := by rw [hq]
  subst e1; subst e2
  have := lift (n := n) (okT.spec tBProvision (provW (x := H.x) (T := T) (ver := ver) (I := I) hK ht hx)) (btP i q s D a b c M W) rfl rfl rfl (by omega) rfl rfl h.sub h.ap h.nz (by omega)
  exact this
end
section
/- Boot: Boot. -/
set_option linter.unusedVariables false
set_option linter.unusedSimpArgs false
set_option maxRecDepth 100000
open Go.Proofs
variable {H : Hp} {n : Nat} {x : Nat → Option SO} {i q s D M W a b c : Nat} {d d' : Fd} {C C' : Ce} {T : Bt}
def stopT (T : Bt) : Bt := { T with on := false, slot := 0, ver := 0 }
def runT (slot : Int) (ver : Nat) (T : Bt) : Bt := { T with on := true, slot := slot, ver := ver }
abbrev RdV := Nat × ByteArray × Int
def finR (k : Sq) (T : Bt) : RdV × Bt :=
  let p := Sl.srT T.bs T.r k.cf T.d
  if p.2.2 ≠ 0 then ((0, ⟨#[]⟩, p.2.2), T) else if (p.1 : Int) < k.fl then ((0, ⟨#[]⟩, 12), T) else (p, runT k.cf p.1 T)
def fineB (k : Sq) (p : RdV) : Bool := decide (k.lf > 0) && decide (p.2.2 = 0) && decide ((p.1 : Int) ≥ k.fl)
def nxQ (k : Sq) (p : RdV) : Sq := if fineB k p then { k with lf := k.lf - 1 } else sdQ k
def tryR (k : Sq) (T : Bt) : RdV × Bt :=
  let p := Sl.srT T.bs T.r k.tr T.d
  let z := kpR (nxQ k p) T
  if z.1 ≠ 0 then ((0, ⟨#[]⟩, z.1), z.2) else if fineB k p then ((p.1, p.2.1, 0), runT k.tr p.1 z.2) else finR k z.2
def boR (T : Bt) : RdV × Bt :=
  if (stQ T.C.now).cf < 0 then ((0, ⟨#[]⟩, 5), stopT T) else if 0 ≤ (stQ T.C.now).tr then tryR (stQ T.C.now) (stopT T) else finR (stQ T.C.now) (stopT T)
theorem stQ_lf {es : List (Value × Value)} : 0 ≤ (stQ es).lf ∧ (stQ es).lf ≤ 255 := by
  unfold stQ
  split
  · exact bt_le
  · decide
theorem stQ_cf {es : List (Value × Value)} : -1 ≤ (stQ es).cf ∧ (stQ es).cf ≤ 254 := by
  unfold stQ
  split
  · have := @bt_le (tOf es boot4) 0
    unfold bt; simp only; omega
  · decide
theorem kpR_k {k : Sq} {m t : Nat} (h : BtK T m t) (ht : t + 1133 < 1000000) (hn : T.C.num + 1 < 1000000000000) : BtK (kpR k T).2 m (t + 133) ∧ (kpR k T).2.C.num ≤ T.C.num + 1 ∧ (kpR k T).2.bs = T.bs ∧ (kpR k T).2.r = T.r := by
  have hC := h.C
  have hk : Es (kv boot4 (st4 k)) := kv4_es (by rw [st4_size]; decide)
  have hP : Pl (kpR k T).2.d m (t + 133) := coR_pl h.P h.t hC.half.2
  have hc : ∀ p, coR (kpC k T.C) T.d = p → (p.2.1.num ≤ T.C.num + 1 ∧ p.2.1.base = T.C.base ∧ p.2.1.half = T.C.half ∧ p.2.1.last ≤ 1 ∧ p.2.1.now = kv boot4 (st4 k) ∧ (p.2.1.was = T.C.was ∨ p.2.1.was = kv boot4 (st4 k))) := by
    intro p hp
    subst hp
    have hl := hC.last
    unfold coR
    split
    · exact ⟨Nat.le_succ _, rfl, rfl, hl, rfl, .inl rfl⟩
    split
    · exact ⟨Nat.le_succ _, rfl, rfl, hl, rfl, .inl rfl⟩
    split
    · exact ⟨Nat.le_succ _, rfl, rfl, hl, rfl, .inl rfl⟩
    · exact ⟨Nat.le_refl _, rfl, rfl, Nat.sub_le _ _, rfl, .inr rfl⟩
  obtain ⟨h1, h2, h3, h4, h5, h6⟩ := hc _ rfl
  have hW : Es (coR (kpC k T.C) T.d).2.1.was := by rcases h6 with h | h <;> rw [h]; exact hC.was; exact hk
  unfold kpR kpF at *
  simp only at *
  by_cases c1 : (coR (kpC k T.C) T.d).1 = 0
  · simp only [if_pos c1]
    exact ⟨⟨⟨by rw [h5]; exact hk, hW, by rw [h3]; exact hC.half, by rw [h2]; exact hC.base, h4, Nat.lt_of_le_of_lt h1 hn⟩, hP, ht, h.bs, h.r, h.len, by rw [h2, h3]; exact h.clen⟩, h1, trivial, trivial⟩
  · simp only [if_neg c1]
    exact ⟨⟨⟨hW, hW, by simp only [h3]; exact hC.half, by simp only [h2]; exact hC.base, h4, Nat.lt_of_le_of_lt h1 hn⟩, hP, ht, h.bs, h.r, h.len, by simp only [h2, h3]; exact h.clen⟩, h1, trivial, trivial⟩
set_option maxHeartbeats 4000000 in
theorem bootW {m t : Nat} (hK : BtK T m t) (ht : t + 1133 < 1000000) (hnum : T.C.num + 1 < 1000000000000) (hx : NoX x) : fnVC CT mBBoot [.ptr 1 0] ⟨btL T true, x⟩ 10 fun v H' n' => Sub 10 ⟨[(0, Sl.rV (boR T).1)], ⟨btN (boR T).2, x⟩, 15⟩ ⟨[(0, v)], H', n'⟩ := by
  have hx' : x 4001003 = some ⟨false, .sv (sqL nthQ)⟩ := hx
  have hKs : BtK (stopT T) m t := ⟨hK.C, hK.P, hK.t, hK.bs, hK.r, hK.len, hK.clen⟩
  unfold mBBoot btL btB
  simp -implicitDefEqProofs only [↓fnVC, initTm]
  simp -implicitDefEqProofs only [go_sem]
  refine at_call tBState (stateS (T := T) (i := 1) (q := 2) (s := 3) (D := 4) (a := 5) (b := 6) (c := 7) (M := 8) (W := 9) ⟨by rfl, by rfl, by rfl, by rfl, by rfl, by rfl, by rfl, by rfl, by rfl, by decide, by rfl, by rfl⟩ hK.C.now hx) ?_
  unfold sqV sqL
  simp -implicitDefEqProofs only [go_sem, splice_zero, splice_succ, List.drop_succ_cons, List.drop_zero, List.drop_nil, List.cons_append, List.nil_append, List.take_succ_cons, List.take_zero, List.length_cons, List.length_nil]
  by_cases c1 : (stQ T.C.now).cf < 0
  · have a1 : decide ((stQ T.C.now).cf < 0) = true := decide_eq_true c1
    rw [show boR T = ((0, ⟨#[]⟩, 5), stopT T) from if_pos c1]
    simp -implicitDefEqProofs only [go_sem, a1]
    refine in_call mixT tBstop ?_
    unfold mBstop
    simp -implicitDefEqProofs only [↓fnVC, initTm]
    simp -implicitDefEqProofs only [go_sem, splice_zero, splice_succ, List.drop_succ_cons, List.drop_zero, List.drop_nil, List.cons_append, List.nil_append, List.take_succ_cons, List.take_zero, List.length_cons, List.length_nil]
    unfold btN btB stopT Sl.rV
    refine sub_mk [(10, 5), (11, 6), (12, 7), (13, 8), (14, 9)] rfl rfl rfl ?_
    simp only [tmSub, hpSub, objSub, eqTm, eqHp, rn, lk, SV.ren, SV.renC, SV.renB, SV.renA, ren_ints, ren_strs, ren_pl, ren_svs, List.map_cons, List.map_nil, forall_const, Nat.reduceLT, true_and, and_true, ob_some, get_mk, lk_cons, ↓reduceIte, Nat.reduceEqDiff, Nat.reduceAdd, implies_true, reduceCtorEq]
    repeat' (first | rfl | apply And.intro)
  have a1 : decide ((stQ T.C.now).cf < 0) = false := decide_eq_false c1
  simp -implicitDefEqProofs only [go_sem, a1]
  refine in_call mixT tBstop ?_
  unfold mBstop
  simp -implicitDefEqProofs only [↓fnVC, initTm]
  simp -implicitDefEqProofs only [go_sem, splice_zero, splice_succ, List.drop_succ_cons, List.drop_zero, List.drop_nil, List.cons_append, List.nil_append, List.take_succ_cons, List.take_zero, List.length_cons, List.length_nil]
  by_cases c2 : 0 ≤ (stQ T.C.now).tr
  · have a2 : decide ((stQ T.C.now).tr ≥ 0) = true := decide_eq_true c2
    simp -implicitDefEqProofs only [go_sem, a2]
    obtain ⟨⟨v1, I1, e1⟩, hr1⟩ : ∃ p, Sl.srT T.bs T.r (stQ T.C.now).tr T.d = p := ⟨_, rfl⟩
    refine at_call tSRead (Sl.sreadS (q := 3) (i := 4) (a := 5) (b := 6) (c := 7) (d := T.d) hK.bs hK.r (by rfl) ⟨by rfl, by rfl, by rfl, by rfl, by decide⟩ (by decide) hK.P.ok (by rw [hK.P.len]; exact hK.len) hr1) ?_
    unfold Sl.rV
    simp -implicitDefEqProofs only [go_sem]
    have hr3 : Sl.srT (stopT T).bs (stopT T).r (stQ T.C.now).tr (stopT T).d = (v1, I1, e1) := hr1
    cases p1 : decide ((stQ T.C.now).lf > 0) with
    | false =>
      have hf : fineB (stQ T.C.now) (v1, I1, e1) = false := by unfold fineB; simp only [p1]; rfl
      have hnx : nxQ (stQ T.C.now) (v1, I1, e1) = sdQ (stQ T.C.now) := by unfold nxQ; rw [hf]; rfl
      simp -implicitDefEqProofs only [go_sem, p1]
      refine at_call tBsettled (settledS (k := stQ T.C.now) hx) ?_
      unfold sqV sqL
      simp -implicitDefEqProofs only [go_sem, p1, splice_zero, splice_succ, List.drop_succ_cons, List.drop_zero, List.drop_nil, List.cons_append, List.nil_append, List.take_succ_cons, List.take_zero, List.length_cons, List.length_nil]
      obtain ⟨⟨e, T1⟩, hk⟩ : ∃ p, kpR (sdQ (stQ T.C.now)) (stopT T) = p := ⟨_, rfl⟩
      have hkk := kpR_k (k := (sdQ (stQ T.C.now))) hKs ht hnum
      rw [hk] at hkk
      obtain ⟨hK1, _, hb1, hb2⟩ := hkk
      have hT : boR T = if e ≠ 0 then ((0, ⟨#[]⟩, e), T1) else if fineB (stQ T.C.now) (v1, I1, e1) then ((v1, I1, 0), runT (stQ T.C.now).tr v1 T1) else finR (stQ T.C.now) T1 := by
        unfold boR; rw [if_neg c1, if_pos c2]; unfold tryR; simp only [hr3]; rw [hnx, hk]
      refine at_call tBkeep (keepS (T := stopT T) (k := sdQ (stQ T.C.now)) (i := 1) (q := 2) (s := 3) (D := 4) (a := 5) (b := 6) (c := 7) (M := 8) (W := 9) ⟨by rfl, by rfl, by rfl, by rfl, by rfl, by rfl, by rfl, by rfl, by rfl, by decide, by rfl, by rfl⟩ hKs hx (by decide) hk) ?_
      rw [btF_eq]
      unfold btB
      simp -implicitDefEqProofs only [go_sem]
      by_cases d1 : e = 0
      case neg =>
        have k1 : decide (e = 0) = false := decide_eq_false d1
        simp -implicitDefEqProofs only [go_sem, k1, p1]
        rw [hT, if_pos d1]
        unfold btN btB
        refine sub_mk [(10, 12), (11, 13), (12, 14), (13, 15), (14, 16)] rfl rfl rfl ?_
        simp only [tmSub, hpSub, objSub, eqTm, eqHp, rn, lk, SV.ren, SV.renC, SV.renB, SV.renA, ren_ints, ren_strs, ren_pl, ren_svs, List.map_cons, List.map_nil, forall_const, Nat.reduceLT, true_and, and_true, ob_some, get_mk, lk_cons, ↓reduceIte, Nat.reduceEqDiff, Nat.reduceAdd, implies_true, reduceCtorEq, stopT]
        repeat' (first | rfl | apply And.intro)
      have k1 : decide (e = 0) = true := decide_eq_true d1
      simp -implicitDefEqProofs only [go_sem, k1, p1]
      obtain ⟨⟨v2, I2, e2⟩, hr2⟩ : ∃ p, Sl.srT T1.bs T1.r (stQ T.C.now).cf T1.d = p := ⟨_, rfl⟩
      have hr3 : Sl.srT T1.bs T1.r (stQ T.C.now).cf T1.d = (v2, I2, e2) := by exact hr2
      refine at_call tSRead (Sl.sreadS (q := 3) (i := 4) (a := 12) (b := 13) (c := 14) (d := T1.d) hK1.bs hK1.r (by rfl) ⟨by rfl, by rfl, by rfl, by rfl, by decide⟩ (by decide) hK1.P.ok (by rw [hK1.P.len]; exact hK1.len) hr2) ?_
      unfold Sl.rV
      simp -implicitDefEqProofs only [go_sem]
      by_cases g1 : e2 = 0
      · have b1 : decide (e2 = 0) = true := decide_eq_true g1
        simp -implicitDefEqProofs only [go_sem, b1]
        by_cases g2 : (v2 : Int) < (stQ T.C.now).fl
        · have b2 : decide ((v2 : Int) < (stQ T.C.now).fl) = true := decide_eq_true g2
          simp -implicitDefEqProofs only [go_sem, b2]
          rw [show boR T = ((0, ⟨#[]⟩, 12), T1) by rw [hT, if_neg (by simp [d1]), hf, if_neg Bool.false_ne_true]; unfold finR; simp only [hr3]; rw [if_neg (by simp [g1]), if_pos g2]]
          unfold btN btB
          refine sub_mk [(10, 12), (11, 13), (12, 14), (13, 15), (14, 16)] rfl rfl rfl ?_
          simp only [tmSub, hpSub, objSub, eqTm, eqHp, rn, lk, SV.ren, SV.renC, SV.renB, SV.renA, ren_ints, ren_strs, ren_pl, ren_svs, List.map_cons, List.map_nil, forall_const, Nat.reduceLT, true_and, and_true, ob_some, get_mk, lk_cons, ↓reduceIte, Nat.reduceEqDiff, Nat.reduceAdd, implies_true, reduceCtorEq, stopT]
          repeat' (first | rfl | apply And.intro)
        · have b2 : decide ((v2 : Int) < (stQ T.C.now).fl) = false := decide_eq_false g2
          simp -implicitDefEqProofs only [go_sem, b2]
          refine in_call mixT tBstart ?_
          unfold mBstart
          simp -implicitDefEqProofs only [↓fnVC, initTm]
          simp -implicitDefEqProofs only [go_sem, splice_zero, splice_succ, List.drop_succ_cons, List.drop_zero, List.drop_nil, List.cons_append, List.nil_append, List.take_succ_cons, List.take_zero, List.length_cons, List.length_nil]
          rw [show boR T = ((v2, I2, e2), runT (stQ T.C.now).cf v2 T1) by rw [hT, if_neg (by simp [d1]), hf, if_neg Bool.false_ne_true]; unfold finR; simp only [hr3]; rw [if_neg (by simp [g1]), if_neg g2]]
          rw [g1]
          unfold btN btB runT
          refine sub_mk [(10, 12), (11, 13), (12, 14), (13, 15), (14, 16)] rfl rfl rfl ?_
          simp only [tmSub, hpSub, objSub, eqTm, eqHp, rn, lk, SV.ren, SV.renC, SV.renB, SV.renA, ren_ints, ren_strs, ren_pl, ren_svs, List.map_cons, List.map_nil, forall_const, Nat.reduceLT, true_and, and_true, ob_some, get_mk, lk_cons, ↓reduceIte, Nat.reduceEqDiff, Nat.reduceAdd, implies_true, reduceCtorEq, stopT]
          repeat' (first | rfl | apply And.intro)
      · have b1 : decide (e2 = 0) = false := decide_eq_false g1
        simp -implicitDefEqProofs only [go_sem, b1]
        rw [show boR T = ((0, ⟨#[]⟩, e2), T1) by rw [hT, if_neg (by simp [d1]), hf, if_neg Bool.false_ne_true]; unfold finR; simp only [hr3]; rw [if_pos g1]]
        unfold btN btB
        refine sub_mk [(10, 12), (11, 13), (12, 14), (13, 15), (14, 16)] rfl rfl rfl ?_
        simp only [tmSub, hpSub, objSub, eqTm, eqHp, rn, lk, SV.ren, SV.renC, SV.renB, SV.renA, ren_ints, ren_strs, ren_pl, ren_svs, List.map_cons, List.map_nil, forall_const, Nat.reduceLT, true_and, and_true, ob_some, get_mk, lk_cons, ↓reduceIte, Nat.reduceEqDiff, Nat.reduceAdd, implies_true, reduceCtorEq, stopT]
        repeat' (first | rfl | apply And.intro)
    | true =>
      cases p2 : decide (e1 = 0) with
      | false =>
        have hf : fineB (stQ T.C.now) (v1, I1, e1) = false := by unfold fineB; simp only [p1, p2]; rfl
        have hnx : nxQ (stQ T.C.now) (v1, I1, e1) = sdQ (stQ T.C.now) := by unfold nxQ; rw [hf]; rfl
        simp -implicitDefEqProofs only [go_sem, p1, p2]
        refine at_call tBsettled (settledS (k := stQ T.C.now) hx) ?_
        unfold sqV sqL
        simp -implicitDefEqProofs only [go_sem, p1, p2, splice_zero, splice_succ, List.drop_succ_cons, List.drop_zero, List.drop_nil, List.cons_append, List.nil_append, List.take_succ_cons, List.take_zero, List.length_cons, List.length_nil]
        obtain ⟨⟨e, T1⟩, hk⟩ : ∃ p, kpR (sdQ (stQ T.C.now)) (stopT T) = p := ⟨_, rfl⟩
        have hkk := kpR_k (k := (sdQ (stQ T.C.now))) hKs ht hnum
        rw [hk] at hkk
        obtain ⟨hK1, _, hb1, hb2⟩ := hkk
        have hT : boR T = if e ≠ 0 then ((0, ⟨#[]⟩, e), T1) else if fineB (stQ T.C.now) (v1, I1, e1) then ((v1, I1, 0), runT (stQ T.C.now).tr v1 T1) else finR (stQ T.C.now) T1 := by
          unfold boR; rw [if_neg c1, if_pos c2]; unfold tryR; simp only [hr3]; rw [hnx, hk]
        refine at_call tBkeep (keepS (T := stopT T) (k := sdQ (stQ T.C.now)) (i := 1) (q := 2) (s := 3) (D := 4) (a := 5) (b := 6) (c := 7) (M := 8) (W := 9) ⟨by rfl, by rfl, by rfl, by rfl, by rfl, by rfl, by rfl, by rfl, by rfl, by decide, by rfl, by rfl⟩ hKs hx (by decide) hk) ?_
        rw [btF_eq]
        unfold btB
        simp -implicitDefEqProofs only [go_sem]
        by_cases d1 : e = 0
        case neg =>
          have k1 : decide (e = 0) = false := decide_eq_false d1
          simp -implicitDefEqProofs only [go_sem, k1, p1, p2]
          rw [hT, if_pos d1]
          unfold btN btB
          refine sub_mk [(10, 12), (11, 13), (12, 14), (13, 15), (14, 16)] rfl rfl rfl ?_
          simp only [tmSub, hpSub, objSub, eqTm, eqHp, rn, lk, SV.ren, SV.renC, SV.renB, SV.renA, ren_ints, ren_strs, ren_pl, ren_svs, List.map_cons, List.map_nil, forall_const, Nat.reduceLT, true_and, and_true, ob_some, get_mk, lk_cons, ↓reduceIte, Nat.reduceEqDiff, Nat.reduceAdd, implies_true, reduceCtorEq, stopT]
          repeat' (first | rfl | apply And.intro)
        have k1 : decide (e = 0) = true := decide_eq_true d1
        simp -implicitDefEqProofs only [go_sem, k1, p1, p2]
        obtain ⟨⟨v2, I2, e2⟩, hr2⟩ : ∃ p, Sl.srT T1.bs T1.r (stQ T.C.now).cf T1.d = p := ⟨_, rfl⟩
        have hr3 : Sl.srT T1.bs T1.r (stQ T.C.now).cf T1.d = (v2, I2, e2) := by exact hr2
        refine at_call tSRead (Sl.sreadS (q := 3) (i := 4) (a := 12) (b := 13) (c := 14) (d := T1.d) hK1.bs hK1.r (by rfl) ⟨by rfl, by rfl, by rfl, by rfl, by decide⟩ (by decide) hK1.P.ok (by rw [hK1.P.len]; exact hK1.len) hr2) ?_
        unfold Sl.rV
        simp -implicitDefEqProofs only [go_sem]
        by_cases g1 : e2 = 0
        · have b1 : decide (e2 = 0) = true := decide_eq_true g1
          simp -implicitDefEqProofs only [go_sem, b1]
          by_cases g2 : (v2 : Int) < (stQ T.C.now).fl
          · have b2 : decide ((v2 : Int) < (stQ T.C.now).fl) = true := decide_eq_true g2
            simp -implicitDefEqProofs only [go_sem, b2]
            rw [show boR T = ((0, ⟨#[]⟩, 12), T1) by rw [hT, if_neg (by simp [d1]), hf, if_neg Bool.false_ne_true]; unfold finR; simp only [hr3]; rw [if_neg (by simp [g1]), if_pos g2]]
            unfold btN btB
            refine sub_mk [(10, 12), (11, 13), (12, 14), (13, 15), (14, 16)] rfl rfl rfl ?_
            simp only [tmSub, hpSub, objSub, eqTm, eqHp, rn, lk, SV.ren, SV.renC, SV.renB, SV.renA, ren_ints, ren_strs, ren_pl, ren_svs, List.map_cons, List.map_nil, forall_const, Nat.reduceLT, true_and, and_true, ob_some, get_mk, lk_cons, ↓reduceIte, Nat.reduceEqDiff, Nat.reduceAdd, implies_true, reduceCtorEq, stopT]
            repeat' (first | rfl | apply And.intro)
          · have b2 : decide ((v2 : Int) < (stQ T.C.now).fl) = false := decide_eq_false g2
            simp -implicitDefEqProofs only [go_sem, b2]
            refine in_call mixT tBstart ?_
            unfold mBstart
            simp -implicitDefEqProofs only [↓fnVC, initTm]
            simp -implicitDefEqProofs only [go_sem, splice_zero, splice_succ, List.drop_succ_cons, List.drop_zero, List.drop_nil, List.cons_append, List.nil_append, List.take_succ_cons, List.take_zero, List.length_cons, List.length_nil]
            rw [show boR T = ((v2, I2, e2), runT (stQ T.C.now).cf v2 T1) by rw [hT, if_neg (by simp [d1]), hf, if_neg Bool.false_ne_true]; unfold finR; simp only [hr3]; rw [if_neg (by simp [g1]), if_neg g2]]
            rw [g1]
            unfold btN btB runT
            refine sub_mk [(10, 12), (11, 13), (12, 14), (13, 15), (14, 16)] rfl rfl rfl ?_
            simp only [tmSub, hpSub, objSub, eqTm, eqHp, rn, lk, SV.ren, SV.renC, SV.renB, SV.renA, ren_ints, ren_strs, ren_pl, ren_svs, List.map_cons, List.map_nil, forall_const, Nat.reduceLT, true_and, and_true, ob_some, get_mk, lk_cons, ↓reduceIte, Nat.reduceEqDiff, Nat.reduceAdd, implies_true, reduceCtorEq, stopT]
            repeat' (first | rfl | apply And.intro)
        · have b1 : decide (e2 = 0) = false := decide_eq_false g1
          simp -implicitDefEqProofs only [go_sem, b1]
          rw [show boR T = ((0, ⟨#[]⟩, e2), T1) by rw [hT, if_neg (by simp [d1]), hf, if_neg Bool.false_ne_true]; unfold finR; simp only [hr3]; rw [if_pos g1]]
          unfold btN btB
          refine sub_mk [(10, 12), (11, 13), (12, 14), (13, 15), (14, 16)] rfl rfl rfl ?_
          simp only [tmSub, hpSub, objSub, eqTm, eqHp, rn, lk, SV.ren, SV.renC, SV.renB, SV.renA, ren_ints, ren_strs, ren_pl, ren_svs, List.map_cons, List.map_nil, forall_const, Nat.reduceLT, true_and, and_true, ob_some, get_mk, lk_cons, ↓reduceIte, Nat.reduceEqDiff, Nat.reduceAdd, implies_true, reduceCtorEq, stopT]
          repeat' (first | rfl | apply And.intro)
      | true =>
        cases p3 : decide ((v1 : Int) ≥ (stQ T.C.now).fl) with
        | false =>
          have hf : fineB (stQ T.C.now) (v1, I1, e1) = false := by unfold fineB; simp only [p1, p2, p3]; rfl
          have hnx : nxQ (stQ T.C.now) (v1, I1, e1) = sdQ (stQ T.C.now) := by unfold nxQ; rw [hf]; rfl
          simp -implicitDefEqProofs only [go_sem, p1, p2, p3]
          refine at_call tBsettled (settledS (k := stQ T.C.now) hx) ?_
          unfold sqV sqL
          simp -implicitDefEqProofs only [go_sem, p1, p2, p3, splice_zero, splice_succ, List.drop_succ_cons, List.drop_zero, List.drop_nil, List.cons_append, List.nil_append, List.take_succ_cons, List.take_zero, List.length_cons, List.length_nil]
          obtain ⟨⟨e, T1⟩, hk⟩ : ∃ p, kpR (sdQ (stQ T.C.now)) (stopT T) = p := ⟨_, rfl⟩
          have hkk := kpR_k (k := (sdQ (stQ T.C.now))) hKs ht hnum
          rw [hk] at hkk
          obtain ⟨hK1, _, hb1, hb2⟩ := hkk
          have hT : boR T = if e ≠ 0 then ((0, ⟨#[]⟩, e), T1) else if fineB (stQ T.C.now) (v1, I1, e1) then ((v1, I1, 0), runT (stQ T.C.now).tr v1 T1) else finR (stQ T.C.now) T1 := by
            unfold boR; rw [if_neg c1, if_pos c2]; unfold tryR; simp only [hr3]; rw [hnx, hk]
          refine at_call tBkeep (keepS (T := stopT T) (k := sdQ (stQ T.C.now)) (i := 1) (q := 2) (s := 3) (D := 4) (a := 5) (b := 6) (c := 7) (M := 8) (W := 9) ⟨by rfl, by rfl, by rfl, by rfl, by rfl, by rfl, by rfl, by rfl, by rfl, by decide, by rfl, by rfl⟩ hKs hx (by decide) hk) ?_
          rw [btF_eq]
          unfold btB
          simp -implicitDefEqProofs only [go_sem]
          by_cases d1 : e = 0
          case neg =>
            have k1 : decide (e = 0) = false := decide_eq_false d1
            simp -implicitDefEqProofs only [go_sem, k1, p1, p2, p3]
            rw [hT, if_pos d1]
            unfold btN btB
            refine sub_mk [(10, 12), (11, 13), (12, 14), (13, 15), (14, 16)] rfl rfl rfl ?_
            simp only [tmSub, hpSub, objSub, eqTm, eqHp, rn, lk, SV.ren, SV.renC, SV.renB, SV.renA, ren_ints, ren_strs, ren_pl, ren_svs, List.map_cons, List.map_nil, forall_const, Nat.reduceLT, true_and, and_true, ob_some, get_mk, lk_cons, ↓reduceIte, Nat.reduceEqDiff, Nat.reduceAdd, implies_true, reduceCtorEq, stopT]
            repeat' (first | rfl | apply And.intro)
          have k1 : decide (e = 0) = true := decide_eq_true d1
          simp -implicitDefEqProofs only [go_sem, k1, p1, p2, p3]
          obtain ⟨⟨v2, I2, e2⟩, hr2⟩ : ∃ p, Sl.srT T1.bs T1.r (stQ T.C.now).cf T1.d = p := ⟨_, rfl⟩
          have hr3 : Sl.srT T1.bs T1.r (stQ T.C.now).cf T1.d = (v2, I2, e2) := by exact hr2
          refine at_call tSRead (Sl.sreadS (q := 3) (i := 4) (a := 12) (b := 13) (c := 14) (d := T1.d) hK1.bs hK1.r (by rfl) ⟨by rfl, by rfl, by rfl, by rfl, by decide⟩ (by decide) hK1.P.ok (by rw [hK1.P.len]; exact hK1.len) hr2) ?_
          unfold Sl.rV
          simp -implicitDefEqProofs only [go_sem]
          by_cases g1 : e2 = 0
          · have b1 : decide (e2 = 0) = true := decide_eq_true g1
            simp -implicitDefEqProofs only [go_sem, b1]
            by_cases g2 : (v2 : Int) < (stQ T.C.now).fl
            · have b2 : decide ((v2 : Int) < (stQ T.C.now).fl) = true := decide_eq_true g2
              simp -implicitDefEqProofs only [go_sem, b2]
              rw [show boR T = ((0, ⟨#[]⟩, 12), T1) by rw [hT, if_neg (by simp [d1]), hf, if_neg Bool.false_ne_true]; unfold finR; simp only [hr3]; rw [if_neg (by simp [g1]), if_pos g2]]
              unfold btN btB
              refine sub_mk [(10, 12), (11, 13), (12, 14), (13, 15), (14, 16)] rfl rfl rfl ?_
              simp only [tmSub, hpSub, objSub, eqTm, eqHp, rn, lk, SV.ren, SV.renC, SV.renB, SV.renA, ren_ints, ren_strs, ren_pl, ren_svs, List.map_cons, List.map_nil, forall_const, Nat.reduceLT, true_and, and_true, ob_some, get_mk, lk_cons, ↓reduceIte, Nat.reduceEqDiff, Nat.reduceAdd, implies_true, reduceCtorEq, stopT]
              repeat' (first | rfl | apply And.intro)
            · have b2 : decide ((v2 : Int) < (stQ T.C.now).fl) = false := decide_eq_false g2
              simp -implicitDefEqProofs only [go_sem, b2]
              refine in_call mixT tBstart ?_
              unfold mBstart
              simp -implicitDefEqProofs only [↓fnVC, initTm]
              simp -implicitDefEqProofs only [go_sem, splice_zero, splice_succ, List.drop_succ_cons, List.drop_zero, List.drop_nil, List.cons_append, List.nil_append, List.take_succ_cons, List.take_zero, List.length_cons, List.length_nil]
              rw [show boR T = ((v2, I2, e2), runT (stQ T.C.now).cf v2 T1) by rw [hT, if_neg (by simp [d1]), hf, if_neg Bool.false_ne_true]; unfold finR; simp only [hr3]; rw [if_neg (by simp [g1]), if_neg g2]]
              rw [g1]
              unfold btN btB runT
              refine sub_mk [(10, 12), (11, 13), (12, 14), (13, 15), (14, 16)] rfl rfl rfl ?_
              simp only [tmSub, hpSub, objSub, eqTm, eqHp, rn, lk, SV.ren, SV.renC, SV.renB, SV.renA, ren_ints, ren_strs, ren_pl, ren_svs, List.map_cons, List.map_nil, forall_const, Nat.reduceLT, true_and, and_true, ob_some, get_mk, lk_cons, ↓reduceIte, Nat.reduceEqDiff, Nat.reduceAdd, implies_true, reduceCtorEq, stopT]
              repeat' (first | rfl | apply And.intro)
          · have b1 : decide (e2 = 0) = false := decide_eq_false g1
            simp -implicitDefEqProofs only [go_sem, b1]
            rw [show boR T = ((0, ⟨#[]⟩, e2), T1) by rw [hT, if_neg (by simp [d1]), hf, if_neg Bool.false_ne_true]; unfold finR; simp only [hr3]; rw [if_pos g1]]
            unfold btN btB
            refine sub_mk [(10, 12), (11, 13), (12, 14), (13, 15), (14, 16)] rfl rfl rfl ?_
            simp only [tmSub, hpSub, objSub, eqTm, eqHp, rn, lk, SV.ren, SV.renC, SV.renB, SV.renA, ren_ints, ren_strs, ren_pl, ren_svs, List.map_cons, List.map_nil, forall_const, Nat.reduceLT, true_and, and_true, ob_some, get_mk, lk_cons, ↓reduceIte, Nat.reduceEqDiff, Nat.reduceAdd, implies_true, reduceCtorEq, stopT]
            repeat' (first | rfl | apply And.intro)
        | true =>
          have hf : fineB (stQ T.C.now) (v1, I1, e1) = true := by unfold fineB; simp only [p1, p2, p3]; rfl
          have hnx : nxQ (stQ T.C.now) (v1, I1, e1) = { stQ T.C.now with lf := (stQ T.C.now).lf - 1 } := by unfold nxQ; rw [hf]; rfl
          have w1 : IntKind.i64.wrap ((stQ T.C.now).lf - 1) = (stQ T.C.now).lf - 1 := by have := @stQ_lf T.C.now; exact wrap_i64 (by omega) (by omega)
          simp -implicitDefEqProofs only [go_sem, p1, p2, p3]
          refine at_call tBsettled (settledS (k := stQ T.C.now) hx) ?_
          unfold sqV sqL
          simp -implicitDefEqProofs only [go_sem, w1, p1, p2, p3, splice_zero, splice_succ, List.drop_succ_cons, List.drop_zero, List.drop_nil, List.cons_append, List.nil_append, List.take_succ_cons, List.take_zero, List.length_cons, List.length_nil]
          obtain ⟨⟨e, T1⟩, hk⟩ : ∃ p, kpR { stQ T.C.now with lf := (stQ T.C.now).lf - 1 } (stopT T) = p := ⟨_, rfl⟩
          have hkk := kpR_k (k := { stQ T.C.now with lf := (stQ T.C.now).lf - 1 }) hKs ht hnum
          rw [hk] at hkk
          obtain ⟨hK1, _, hb1, hb2⟩ := hkk
          have hT : boR T = if e ≠ 0 then ((0, ⟨#[]⟩, e), T1) else if fineB (stQ T.C.now) (v1, I1, e1) then ((v1, I1, 0), runT (stQ T.C.now).tr v1 T1) else finR (stQ T.C.now) T1 := by
            unfold boR; rw [if_neg c1, if_pos c2]; unfold tryR; simp only [hr3]; rw [hnx, hk]
          refine at_call tBkeep (keepS (T := stopT T) (k := { stQ T.C.now with lf := (stQ T.C.now).lf - 1 }) (i := 1) (q := 2) (s := 3) (D := 4) (a := 5) (b := 6) (c := 7) (M := 8) (W := 9) ⟨by rfl, by rfl, by rfl, by rfl, by rfl, by rfl, by rfl, by rfl, by rfl, by decide, by rfl, by rfl⟩ hKs hx (by decide) hk) ?_
          rw [btF_eq]
          unfold btB
          simp -implicitDefEqProofs only [go_sem]
          by_cases d1 : e = 0
          case neg =>
            have k1 : decide (e = 0) = false := decide_eq_false d1
            simp -implicitDefEqProofs only [go_sem, k1, p1, p2, p3]
            rw [hT, if_pos d1]
            unfold btN btB
            refine sub_mk [(10, 12), (11, 13), (12, 14), (13, 15), (14, 16)] rfl rfl rfl ?_
            simp only [tmSub, hpSub, objSub, eqTm, eqHp, rn, lk, SV.ren, SV.renC, SV.renB, SV.renA, ren_ints, ren_strs, ren_pl, ren_svs, List.map_cons, List.map_nil, forall_const, Nat.reduceLT, true_and, and_true, ob_some, get_mk, lk_cons, ↓reduceIte, Nat.reduceEqDiff, Nat.reduceAdd, implies_true, reduceCtorEq, stopT]
            repeat' (first | rfl | apply And.intro)
          have k1 : decide (e = 0) = true := decide_eq_true d1
          simp -implicitDefEqProofs only [go_sem, k1, p1, p2, p3]
          refine in_call mixT tBstart ?_
          unfold mBstart
          simp -implicitDefEqProofs only [↓fnVC, initTm]
          simp -implicitDefEqProofs only [go_sem, splice_zero, splice_succ, List.drop_succ_cons, List.drop_zero, List.drop_nil, List.cons_append, List.nil_append, List.take_succ_cons, List.take_zero, List.length_cons, List.length_nil]
          rw [hT, if_neg (by simp [d1]), hf, if_pos rfl]
          unfold btN btB runT
          refine sub_mk [(10, 12), (11, 13), (12, 14), (13, 15), (14, 16)] rfl rfl rfl ?_
          simp only [tmSub, hpSub, objSub, eqTm, eqHp, rn, lk, SV.ren, SV.renC, SV.renB, SV.renA, ren_ints, ren_strs, ren_pl, ren_svs, List.map_cons, List.map_nil, forall_const, Nat.reduceLT, true_and, and_true, ob_some, get_mk, lk_cons, ↓reduceIte, Nat.reduceEqDiff, Nat.reduceAdd, implies_true, reduceCtorEq, stopT]
          repeat' (first | rfl | apply And.intro)
  have a2 : decide ((stQ T.C.now).tr ≥ 0) = false := decide_eq_false c2
  simp -implicitDefEqProofs only [go_sem, a2]
  obtain ⟨⟨v2, I2, e2⟩, hr2⟩ : ∃ p, Sl.srT T.bs T.r (stQ T.C.now).cf (stopT T).d = p := ⟨_, rfl⟩
  have hr3 : Sl.srT (stopT T).bs (stopT T).r (stQ T.C.now).cf (stopT T).d = (v2, I2, e2) := by exact hr2
  refine at_call tSRead (Sl.sreadS (q := 3) (i := 4) (a := 5) (b := 6) (c := 7) (d := (stopT T).d) hKs.bs hKs.r (by rfl) ⟨by rfl, by rfl, by rfl, by rfl, by decide⟩ (by decide) hKs.P.ok (by rw [hKs.P.len]; exact hKs.len) hr2) ?_
  unfold Sl.rV
  simp -implicitDefEqProofs only [go_sem]
  by_cases g1 : e2 = 0
  · have b1 : decide (e2 = 0) = true := decide_eq_true g1
    simp -implicitDefEqProofs only [go_sem, b1]
    by_cases g2 : (v2 : Int) < (stQ T.C.now).fl
    · have b2 : decide ((v2 : Int) < (stQ T.C.now).fl) = true := decide_eq_true g2
      simp -implicitDefEqProofs only [go_sem, b2]
      rw [show boR T = ((0, ⟨#[]⟩, 12), (stopT T)) by unfold boR; rw [if_neg c1, if_neg c2]; unfold finR; simp only [hr3]; rw [if_neg (by simp [g1]), if_pos g2]]
      unfold btN btB
      refine sub_mk [(10, 5), (11, 6), (12, 7), (13, 8), (14, 9)] rfl rfl rfl ?_
      simp only [tmSub, hpSub, objSub, eqTm, eqHp, rn, lk, SV.ren, SV.renC, SV.renB, SV.renA, ren_ints, ren_strs, ren_pl, ren_svs, List.map_cons, List.map_nil, forall_const, Nat.reduceLT, true_and, and_true, ob_some, get_mk, lk_cons, ↓reduceIte, Nat.reduceEqDiff, Nat.reduceAdd, implies_true, reduceCtorEq, stopT]
      repeat' (first | rfl | apply And.intro)
    · have b2 : decide ((v2 : Int) < (stQ T.C.now).fl) = false := decide_eq_false g2
      simp -implicitDefEqProofs only [go_sem, b2]
      refine in_call mixT tBstart ?_
      unfold mBstart
      simp -implicitDefEqProofs only [↓fnVC, initTm]
      simp -implicitDefEqProofs only [go_sem, splice_zero, splice_succ, List.drop_succ_cons, List.drop_zero, List.drop_nil, List.cons_append, List.nil_append, List.take_succ_cons, List.take_zero, List.length_cons, List.length_nil]
      rw [show boR T = ((v2, I2, e2), runT (stQ T.C.now).cf v2 (stopT T)) by unfold boR; rw [if_neg c1, if_neg c2]; unfold finR; simp only [hr3]; rw [if_neg (by simp [g1]), if_neg g2]]
      rw [g1]
      unfold btN btB runT
      refine sub_mk [(10, 5), (11, 6), (12, 7), (13, 8), (14, 9)] rfl rfl rfl ?_
      simp only [tmSub, hpSub, objSub, eqTm, eqHp, rn, lk, SV.ren, SV.renC, SV.renB, SV.renA, ren_ints, ren_strs, ren_pl, ren_svs, List.map_cons, List.map_nil, forall_const, Nat.reduceLT, true_and, and_true, ob_some, get_mk, lk_cons, ↓reduceIte, Nat.reduceEqDiff, Nat.reduceAdd, implies_true, reduceCtorEq, stopT]
      repeat' (first | rfl | apply And.intro)
  · have b1 : decide (e2 = 0) = false := decide_eq_false g1
    simp -implicitDefEqProofs only [go_sem, b1]
    rw [show boR T = ((0, ⟨#[]⟩, e2), (stopT T)) by unfold boR; rw [if_neg c1, if_neg c2]; unfold finR; simp only [hr3]; rw [if_pos g1]]
    unfold btN btB
    refine sub_mk [(10, 5), (11, 6), (12, 7), (13, 8), (14, 9)] rfl rfl rfl ?_
    simp only [tmSub, hpSub, objSub, eqTm, eqHp, rn, lk, SV.ren, SV.renC, SV.renB, SV.renA, ren_ints, ren_strs, ren_pl, ren_svs, List.map_cons, List.map_nil, forall_const, Nat.reduceLT, true_and, and_true, ob_some, get_mk, lk_cons, ↓reduceIte, Nat.reduceEqDiff, Nat.reduceAdd, implies_true, reduceCtorEq, stopT]
    repeat' (first | rfl | apply And.intro)
end
section
/- Boot: Confirm. -/
set_option linter.unusedVariables false
set_option linter.unusedSimpArgs false
set_option maxRecDepth 100000
open Go.Proofs
variable {H : Hp} {n : Nat} {x : Nat → Option SO} {i q s D M W a b c : Nat} {d d' : Fd} {C C' : Ce} {T : Bt}
theorem bootS {m t : Nat} (h : BtAt H T i q s D a b c M W) (hK : BtK T m t) (ht : t + 1133 < 1000000) (hnum : T.C.num + 1 < 1000000000000) (hx : NoX H.x) (hn : n + 5 ≤ 1000) {e : RdV} {T' : Bt} (hq : boR T = (e, T')) : SpecAt Tryz.prog nBBoot [.ptr i 0] H n (Sl.rV e) ⟨btF T' i q s D a b c M W n H.l, H.x⟩ (n + 5) := by
  have e1 : (boR T).1 = e := by rw [hq]
  have e2 : (boR T).2 = T' := by rw [hq]
  subst e1; subst e2
  have := lift (n := n) (okT.spec tBBoot (bootW (x := H.x) (T := T) hK ht hnum hx)) (btP i q s D a b c M W) rfl rfl rfl (by omega) rfl rfl h.sub h.ap h.nz (by omega)
  exact this
end
section
/- Boot: Install. -/
set_option linter.unusedVariables false
set_option linter.unusedSimpArgs false
set_option maxRecDepth 100000
open Go.Proofs
variable {H : Hp} {n : Nat} {x : Nat → Option SO} {i q s D M W a b c : Nat} {d d' : Fd} {C C' : Ce} {T : Bt}
def itE (k : Sq) (ver : Int) (I : ByteArray) (tries : Int) (r : Nat) : Int :=
  if k.cf < 0 then 5 else if tries < 1 ∨ 8 < tries then 1 else if k.fl = 255 then 8 else if ver ≤ k.fl then 12 else if 255 < ver ∨ seq I ⟨#[]⟩ = true then 1 else if min 8192 ((r : Int) * 64) < I.size then 4 else 0
def tlR (k : Sq) (ver : Int) (I : ByteArray) (tries : Int) (T : Bt) : Int × Bt :=
  let w := wtB (1 - k.cf) ver I T
  if w.1 ≠ 0 then w else kpR ⟨k.cf, 1 - k.cf, tries, k.fl⟩ w.2
def haltT (o : Int) (T : Bt) : Bt := if T.on = true ∧ T.slot = o then stopT T else T
def inR (ver : Int) (I : ByteArray) (tries : Int) (T : Bt) : Int × Bt :=
  if itE (stQ T.C.now) ver I tries T.r ≠ 0 then (itE (stQ T.C.now) ver I tries T.r, T) else
  let T0 := haltT (1 - (stQ T.C.now).cf) T
  if (stQ T.C.now).tr = -1 ∧ (stQ T.C.now).lf = 0 then tlR (stQ T.C.now) ver I tries T0 else
  let z := kpR (sdQ (stQ T.C.now)) T0
  if z.1 ≠ 0 then z else tlR (stQ T.C.now) ver I tries z.2
set_option maxHeartbeats 8000000 in
theorem instW {ver tries : Int} {I : ByteArray} {m t : Nat} (hK : BtK T m t) (ht : t + 1266 < 1000000) (hnum : T.C.num + 1 < 1000000000000) (hx : NoX x) : fnVC CT mBInstall [.ptr 1 0, .v (.int .i64 ver), .v (.string I), .v (.int .i64 tries)] ⟨btL T true, x⟩ 10 fun v H' n' => Sub 10 ⟨[(0, .v (.int .i64 (inR ver I tries T).1))], ⟨btN (inR ver I tries T).2, x⟩, 15⟩ ⟨[(0, v)], H', n'⟩ := by
  have hx' : x 4001003 = some ⟨false, .sv (sqL nthQ)⟩ := hx
  have hKs : BtK (stopT T) m t := ⟨hK.C, hK.P, hK.t, hK.bs, hK.r, hK.len, hK.clen⟩
  have hcf := @stQ_cf T.C.now
  have hr := hK.r
  have hz : ∀ {e : Int}, itE (stQ T.C.now) ver I tries T.r = e → e ≠ 0 → inR ver I tries T = (e, T) := fun h1 h2 => by unfold inR; rw [h1, if_pos h2]
  unfold mBInstall btL btB
  simp -implicitDefEqProofs only [↓fnVC, initTm]
  simp -implicitDefEqProofs only [go_sem]
  refine at_call tBState (stateS (T := T) (i := 1) (q := 2) (s := 3) (D := 4) (a := 5) (b := 6) (c := 7) (M := 8) (W := 9) ⟨by rfl, by rfl, by rfl, by rfl, by rfl, by rfl, by rfl, by rfl, by rfl, by decide, by rfl, by rfl⟩ hK.C.now hx) ?_
  unfold sqV sqL
  simp -implicitDefEqProofs only [go_sem, hx', sqL, nthQ, splice_zero, splice_succ, List.drop_succ_cons, List.drop_zero, List.drop_nil, List.cons_append, List.nil_append, List.take_succ_cons, List.take_zero, List.length_cons, List.length_nil]
  by_cases c1 : (stQ T.C.now).cf < 0
  · have a1 : decide ((stQ T.C.now).cf < 0) = true := decide_eq_true c1
    cases a0 : (decide ((stQ T.C.now).cf = -1) && (decide ((stQ T.C.now).tr = -1) && (decide ((stQ T.C.now).lf = 0) && decide ((stQ T.C.now).fl = 0)))) with
    | true =>
      simp -implicitDefEqProofs only [go_sem, a0, splice_zero, splice_succ, List.drop_succ_cons, List.drop_zero, List.drop_nil, List.cons_append, List.nil_append, List.take_succ_cons, List.take_zero, List.length_cons, List.length_nil]
      rw [hz (e := 5) (by unfold itE; rw [if_pos c1]) (by decide)]
      unfold btN btB
      refine sub_mk [(10, 5), (11, 6), (12, 7), (13, 8), (14, 9)] rfl rfl rfl ?_
      simp only [tmSub, hpSub, objSub, eqTm, eqHp, rn, lk, SV.ren, SV.renC, SV.renB, SV.renA, ren_ints, ren_strs, ren_pl, ren_svs, List.map_cons, List.map_nil, forall_const, Nat.reduceLT, true_and, and_true, ob_some, get_mk, lk_cons, ↓reduceIte, Nat.reduceEqDiff, Nat.reduceAdd, implies_true, reduceCtorEq]
      repeat' (first | rfl | apply And.intro)
    | false =>
      simp -implicitDefEqProofs only [go_sem, a0, a1, splice_zero, splice_succ, List.drop_succ_cons, List.drop_zero, List.drop_nil, List.cons_append, List.nil_append, List.take_succ_cons, List.take_zero, List.length_cons, List.length_nil]
      rw [hz (e := 5) (by unfold itE; rw [if_pos c1]) (by decide)]
      unfold btN btB
      refine sub_mk [(10, 5), (11, 6), (12, 7), (13, 8), (14, 9)] rfl rfl rfl ?_
      simp only [tmSub, hpSub, objSub, eqTm, eqHp, rn, lk, SV.ren, SV.renC, SV.renB, SV.renA, ren_ints, ren_strs, ren_pl, ren_svs, List.map_cons, List.map_nil, forall_const, Nat.reduceLT, true_and, and_true, ob_some, get_mk, lk_cons, ↓reduceIte, Nat.reduceEqDiff, Nat.reduceAdd, implies_true, reduceCtorEq]
      repeat' (first | rfl | apply And.intro)
  have a0 : decide ((stQ T.C.now).cf = -1) = false := decide_eq_false (by omega)
  have a1 : decide ((stQ T.C.now).cf < 0) = false := decide_eq_false c1
  simp -implicitDefEqProofs only [go_sem, a0, a1, Bool.false_and, splice_zero, splice_succ, List.drop_succ_cons, List.drop_zero, List.drop_nil, List.cons_append, List.nil_append, List.take_succ_cons, List.take_zero, List.length_cons, List.length_nil]
  by_cases c2 : tries < 1
  · have a2 : decide (tries < 1) = true := decide_eq_true c2
    simp -implicitDefEqProofs only [go_sem, a2, splice_zero, splice_succ, List.drop_succ_cons, List.drop_zero, List.drop_nil, List.cons_append, List.nil_append, List.take_succ_cons, List.take_zero, List.length_cons, List.length_nil]
    rw [hz (e := 1) (by unfold itE; rw [if_neg c1, if_pos (.inl c2)]) (by decide)]
    unfold btN btB
    refine sub_mk [(10, 5), (11, 6), (12, 7), (13, 8), (14, 9)] rfl rfl rfl ?_
    simp only [tmSub, hpSub, objSub, eqTm, eqHp, rn, lk, SV.ren, SV.renC, SV.renB, SV.renA, ren_ints, ren_strs, ren_pl, ren_svs, List.map_cons, List.map_nil, forall_const, Nat.reduceLT, true_and, and_true, ob_some, get_mk, lk_cons, ↓reduceIte, Nat.reduceEqDiff, Nat.reduceAdd, implies_true, reduceCtorEq]
    repeat' (first | rfl | apply And.intro)
  have a2 : decide (tries < 1) = false := decide_eq_false c2
  simp -implicitDefEqProofs only [go_sem, a2, splice_zero, splice_succ, List.drop_succ_cons, List.drop_zero, List.drop_nil, List.cons_append, List.nil_append, List.take_succ_cons, List.take_zero, List.length_cons, List.length_nil]
  by_cases c3 : tries > 8
  · have a3 : decide (tries > 8) = true := decide_eq_true c3
    simp -implicitDefEqProofs only [go_sem, a3, splice_zero, splice_succ, List.drop_succ_cons, List.drop_zero, List.drop_nil, List.cons_append, List.nil_append, List.take_succ_cons, List.take_zero, List.length_cons, List.length_nil]
    rw [hz (e := 1) (by unfold itE; rw [if_neg c1, if_pos (.inr c3)]) (by decide)]
    unfold btN btB
    refine sub_mk [(10, 5), (11, 6), (12, 7), (13, 8), (14, 9)] rfl rfl rfl ?_
    simp only [tmSub, hpSub, objSub, eqTm, eqHp, rn, lk, SV.ren, SV.renC, SV.renB, SV.renA, ren_ints, ren_strs, ren_pl, ren_svs, List.map_cons, List.map_nil, forall_const, Nat.reduceLT, true_and, and_true, ob_some, get_mk, lk_cons, ↓reduceIte, Nat.reduceEqDiff, Nat.reduceAdd, implies_true, reduceCtorEq]
    repeat' (first | rfl | apply And.intro)
  have a3 : decide (tries > 8) = false := decide_eq_false c3
  simp -implicitDefEqProofs only [go_sem, a3, splice_zero, splice_succ, List.drop_succ_cons, List.drop_zero, List.drop_nil, List.cons_append, List.nil_append, List.take_succ_cons, List.take_zero, List.length_cons, List.length_nil]
  have c23 : ¬ (tries < 1 ∨ 8 < tries) := by omega
  by_cases c4 : (stQ T.C.now).fl = 255
  · have a4 : decide ((stQ T.C.now).fl = 255) = true := decide_eq_true c4
    simp -implicitDefEqProofs only [go_sem, a4, splice_zero, splice_succ, List.drop_succ_cons, List.drop_zero, List.drop_nil, List.cons_append, List.nil_append, List.take_succ_cons, List.take_zero, List.length_cons, List.length_nil]
    rw [hz (e := 8) (by unfold itE; rw [if_neg c1, if_neg c23, if_pos c4]) (by decide)]
    unfold btN btB
    refine sub_mk [(10, 5), (11, 6), (12, 7), (13, 8), (14, 9)] rfl rfl rfl ?_
    simp only [tmSub, hpSub, objSub, eqTm, eqHp, rn, lk, SV.ren, SV.renC, SV.renB, SV.renA, ren_ints, ren_strs, ren_pl, ren_svs, List.map_cons, List.map_nil, forall_const, Nat.reduceLT, true_and, and_true, ob_some, get_mk, lk_cons, ↓reduceIte, Nat.reduceEqDiff, Nat.reduceAdd, implies_true, reduceCtorEq]
    repeat' (first | rfl | apply And.intro)
  have a4 : decide ((stQ T.C.now).fl = 255) = false := decide_eq_false c4
  simp -implicitDefEqProofs only [go_sem, a4, splice_zero, splice_succ, List.drop_succ_cons, List.drop_zero, List.drop_nil, List.cons_append, List.nil_append, List.take_succ_cons, List.take_zero, List.length_cons, List.length_nil]
  by_cases c5 : ver ≤ (stQ T.C.now).fl
  · have a5 : decide (ver ≤ (stQ T.C.now).fl) = true := decide_eq_true c5
    simp -implicitDefEqProofs only [go_sem, a5, splice_zero, splice_succ, List.drop_succ_cons, List.drop_zero, List.drop_nil, List.cons_append, List.nil_append, List.take_succ_cons, List.take_zero, List.length_cons, List.length_nil]
    rw [hz (e := 12) (by unfold itE; rw [if_neg c1, if_neg c23, if_neg c4, if_pos c5]) (by decide)]
    unfold btN btB
    refine sub_mk [(10, 5), (11, 6), (12, 7), (13, 8), (14, 9)] rfl rfl rfl ?_
    simp only [tmSub, hpSub, objSub, eqTm, eqHp, rn, lk, SV.ren, SV.renC, SV.renB, SV.renA, ren_ints, ren_strs, ren_pl, ren_svs, List.map_cons, List.map_nil, forall_const, Nat.reduceLT, true_and, and_true, ob_some, get_mk, lk_cons, ↓reduceIte, Nat.reduceEqDiff, Nat.reduceAdd, implies_true, reduceCtorEq]
    repeat' (first | rfl | apply And.intro)
  have a5 : decide (ver ≤ (stQ T.C.now).fl) = false := decide_eq_false c5
  simp -implicitDefEqProofs only [go_sem, a5, splice_zero, splice_succ, List.drop_succ_cons, List.drop_zero, List.drop_nil, List.cons_append, List.nil_append, List.take_succ_cons, List.take_zero, List.length_cons, List.length_nil]
  by_cases c6 : ver > 255
  · have a6 : decide (ver > 255) = true := decide_eq_true c6
    simp -implicitDefEqProofs only [go_sem, a6, splice_zero, splice_succ, List.drop_succ_cons, List.drop_zero, List.drop_nil, List.cons_append, List.nil_append, List.take_succ_cons, List.take_zero, List.length_cons, List.length_nil]
    rw [hz (e := 1) (by unfold itE; rw [if_neg c1, if_neg c23, if_neg c4, if_neg c5, if_pos (.inl c6)]) (by decide)]
    unfold btN btB
    refine sub_mk [(10, 5), (11, 6), (12, 7), (13, 8), (14, 9)] rfl rfl rfl ?_
    simp only [tmSub, hpSub, objSub, eqTm, eqHp, rn, lk, SV.ren, SV.renC, SV.renB, SV.renA, ren_ints, ren_strs, ren_pl, ren_svs, List.map_cons, List.map_nil, forall_const, Nat.reduceLT, true_and, and_true, ob_some, get_mk, lk_cons, ↓reduceIte, Nat.reduceEqDiff, Nat.reduceAdd, implies_true, reduceCtorEq]
    repeat' (first | rfl | apply And.intro)
  have a6 : decide (ver > 255) = false := decide_eq_false c6
  simp -implicitDefEqProofs only [go_sem, a6, splice_zero, splice_succ, List.drop_succ_cons, List.drop_zero, List.drop_nil, List.cons_append, List.nil_append, List.take_succ_cons, List.take_zero, List.length_cons, List.length_nil]
  cases c7 : seq I ⟨#[]⟩ with
  | true =>
    simp -implicitDefEqProofs only [go_sem, c7, splice_zero, splice_succ, List.drop_succ_cons, List.drop_zero, List.drop_nil, List.cons_append, List.nil_append, List.take_succ_cons, List.take_zero, List.length_cons, List.length_nil]
    rw [hz (e := 1) (by unfold itE; rw [if_neg c1, if_neg c23, if_neg c4, if_neg c5, if_pos (.inr c7)]) (by decide)]
    unfold btN btB
    refine sub_mk [(10, 5), (11, 6), (12, 7), (13, 8), (14, 9)] rfl rfl rfl ?_
    simp only [tmSub, hpSub, objSub, eqTm, eqHp, rn, lk, SV.ren, SV.renC, SV.renB, SV.renA, ren_ints, ren_strs, ren_pl, ren_svs, List.map_cons, List.map_nil, forall_const, Nat.reduceLT, true_and, and_true, ob_some, get_mk, lk_cons, ↓reduceIte, Nat.reduceEqDiff, Nat.reduceAdd, implies_true, reduceCtorEq]
    repeat' (first | rfl | apply And.intro)
  | false =>
  have c67 : ¬ (255 < ver ∨ seq I ⟨#[]⟩ = true) := by rw [c7]; simp; omega
  have w1 : IntKind.i64.wrap ((T.r : Int) * 64) = (T.r : Int) * 64 := wrap_i64 (by omega) (by omega)
  simp -implicitDefEqProofs only [go_sem, c7, w1, splice_zero, splice_succ, List.drop_succ_cons, List.drop_zero, List.drop_nil, List.cons_append, List.nil_append, List.take_succ_cons, List.take_zero, List.length_cons, List.length_nil]
  by_cases c8 : (I.size : Int) > min 8192 ((T.r : Int) * 64)
  · have a8 : decide ((I.size : Int) > min 8192 ((T.r : Int) * 64)) = true := decide_eq_true c8
    simp -implicitDefEqProofs only [go_sem, a8, splice_zero, splice_succ, List.drop_succ_cons, List.drop_zero, List.drop_nil, List.cons_append, List.nil_append, List.take_succ_cons, List.take_zero, List.length_cons, List.length_nil]
    rw [hz (e := 4) (by unfold itE; rw [if_neg c1, if_neg c23, if_neg c4, if_neg c5, if_neg c67, if_pos c8]) (by decide)]
    unfold btN btB
    refine sub_mk [(10, 5), (11, 6), (12, 7), (13, 8), (14, 9)] rfl rfl rfl ?_
    simp only [tmSub, hpSub, objSub, eqTm, eqHp, rn, lk, SV.ren, SV.renC, SV.renB, SV.renA, ren_ints, ren_strs, ren_pl, ren_svs, List.map_cons, List.map_nil, forall_const, Nat.reduceLT, true_and, and_true, ob_some, get_mk, lk_cons, ↓reduceIte, Nat.reduceEqDiff, Nat.reduceAdd, implies_true, reduceCtorEq]
    repeat' (first | rfl | apply And.intro)
  have a8 : decide ((I.size : Int) > min 8192 ((T.r : Int) * 64)) = false := decide_eq_false c8
  simp -implicitDefEqProofs only [go_sem, a8, splice_zero, splice_succ, List.drop_succ_cons, List.drop_zero, List.drop_nil, List.cons_append, List.nil_append, List.take_succ_cons, List.take_zero, List.length_cons, List.length_nil]
  have hE : itE (stQ T.C.now) ver I tries T.r = 0 := by unfold itE; rw [if_neg c1, if_neg c23, if_neg c4, if_neg c5, if_neg c67, if_neg c8]
  have w2 : IntKind.i64.wrap (1 - (stQ T.C.now).cf) = 1 - (stQ T.C.now).cf := wrap_i64 (by omega) (by omega)
  simp -implicitDefEqProofs only [go_sem, w2, splice_zero, splice_succ, List.drop_succ_cons, List.drop_zero, List.drop_nil, List.cons_append, List.nil_append, List.take_succ_cons, List.take_zero, List.length_cons, List.length_nil]
  refine in_call mixT tBRunning ?_
  unfold mBRunning
  simp -implicitDefEqProofs only [↓fnVC, initTm]
  simp -implicitDefEqProofs only [go_sem]
  by_cases o1 : T.on = true
  · simp -implicitDefEqProofs only [go_sem, o1]
    by_cases o2 : T.slot = 1 - (stQ T.C.now).cf
    · have o3 : decide (T.slot = 1 - (stQ T.C.now).cf) = true := decide_eq_true o2
      simp -implicitDefEqProofs only [go_sem, w2, o3]
      refine in_call mixT tBstop ?_
      unfold mBstop
      simp -implicitDefEqProofs only [↓fnVC, initTm]
      simp -implicitDefEqProofs only [go_sem, splice_zero, splice_succ, List.drop_succ_cons, List.drop_zero, List.drop_nil, List.cons_append, List.nil_append, List.take_succ_cons, List.take_zero, List.length_cons, List.length_nil]
      have hH : haltT (1 - (stQ T.C.now).cf) T = stopT T := if_pos ⟨o1, o2⟩
      refine at_call tBsettled (settledS (k := stQ T.C.now) hx) ?_
      unfold sqV sqL
      simp -implicitDefEqProofs only [go_sem, splice_zero, splice_succ, List.drop_succ_cons, List.drop_zero, List.drop_nil, List.cons_append, List.nil_append, List.take_succ_cons, List.take_zero, List.length_cons, List.length_nil]
      by_cases k1 : (stQ T.C.now).tr = -1 ∧ (stQ T.C.now).lf = 0
      · have u1 : decide ((stQ T.C.now).tr = -1) = true := decide_eq_true k1.1
        have u2 : decide ((stQ T.C.now).lf = 0) = true := decide_eq_true k1.2
        have u3 : decide ((stQ T.C.now).cf = (stQ T.C.now).cf) = true := decide_eq_true rfl
        have u4 : decide ((stQ T.C.now).fl = (stQ T.C.now).fl) = true := decide_eq_true rfl
        simp -implicitDefEqProofs only [go_sem, u1, u2, u3, u4, w2, splice_zero, splice_succ, List.drop_succ_cons, List.drop_zero, List.drop_nil, List.cons_append, List.nil_append, List.take_succ_cons, List.take_zero, List.length_cons, List.length_nil]
        have hT : inR ver I tries T = tlR (stQ T.C.now) ver I tries (stopT T) := by unfold inR; rw [if_neg (by simp [hE])]; simp only [if_pos k1]; rw [hH]
        obtain ⟨⟨e1, d1⟩, hq⟩ : ∃ p, Sl.swR (stopT T).bs (stopT T).r (1 - (stQ T.C.now).cf) ver I (stopT T).d = p := ⟨_, rfl⟩
        have hw : wtB (1 - (stQ T.C.now).cf) ver I (stopT T) = (e1, { (stopT T) with d := d1 }) := by unfold wtB; simp only [hq]
        have hKw : BtK { (stopT T) with d := d1 } m (t + 133) := by have := wtB_k (slot := 1 - (stQ T.C.now).cf) (ver := ver) (I := I) hKs (by omega); rw [hw] at this; exact this
        refine at_call tSWrite (Sl.swriteS (q := 3) (i := 4) (a := 5) (b := 6) (c := 7) (d := (stopT T).d) hKs.bs hKs.r (by rfl) ⟨by rfl, by rfl, by rfl, by rfl, by decide⟩ (by decide) hKs.P hKs.t (by decide) hq) ?_
        rw [Sl.devN_eq]
        simp -implicitDefEqProofs only [go_sem]
        by_cases g1 : e1 = 0
        · have b1 : decide (e1 = 0) = true := decide_eq_true g1
          simp -implicitDefEqProofs only [go_sem, b1, w2, splice_zero, splice_succ, List.drop_succ_cons, List.drop_zero, List.drop_nil, List.cons_append, List.nil_append, List.take_succ_cons, List.take_zero, List.length_cons, List.length_nil]
          rw [show inR ver I tries T = kpR ⟨(stQ T.C.now).cf, 1 - (stQ T.C.now).cf, tries, (stQ T.C.now).fl⟩ { (stopT T) with d := d1 } by rw [hT]; unfold tlR; rw [hw, if_neg (by simp [g1])]]
          obtain ⟨⟨e2, T2⟩, hk2⟩ : ∃ p, kpR ⟨(stQ T.C.now).cf, 1 - (stQ T.C.now).cf, tries, (stQ T.C.now).fl⟩ { (stopT T) with d := d1 } = p := ⟨_, rfl⟩
          rw [hk2]
          refine at_call tBkeep (keepS (T := { (stopT T) with d := d1 }) (k := ⟨(stQ T.C.now).cf, 1 - (stQ T.C.now).cf, tries, (stQ T.C.now).fl⟩) (i := 1) (q := 2) (s := 3) (D := 4) (a := 11) (b := 12) (c := 13) (M := 8) (W := 9) ⟨by rfl, by rfl, by rfl, by rfl, by rfl, by rfl, by rfl, by rfl, by rfl, by decide, by rfl, by rfl⟩ hKw hx (by decide) hk2) ?_
          rw [btF_eq]
          unfold btB
          simp -implicitDefEqProofs only [go_sem]
          unfold btN btB
          refine sub_mk [(10, 14), (11, 15), (12, 16), (13, 17), (14, 18)] rfl rfl rfl ?_
          simp only [tmSub, hpSub, objSub, eqTm, eqHp, rn, lk, SV.ren, SV.renC, SV.renB, SV.renA, ren_ints, ren_strs, ren_pl, ren_svs, List.map_cons, List.map_nil, forall_const, Nat.reduceLT, true_and, and_true, ob_some, get_mk, lk_cons, ↓reduceIte, Nat.reduceEqDiff, Nat.reduceAdd, implies_true, reduceCtorEq, stopT]
          repeat' (first | rfl | apply And.intro)
        · have b1 : decide (e1 = 0) = false := decide_eq_false g1
          rw [show inR ver I tries T = (e1, { (stopT T) with d := d1 }) by rw [hT]; unfold tlR; rw [hw, if_pos g1]]
          simp -implicitDefEqProofs only [go_sem, b1]
          unfold btN btB
          refine sub_mk [(10, 11), (11, 12), (12, 13), (13, 8), (14, 9)] rfl rfl rfl ?_
          simp only [tmSub, hpSub, objSub, eqTm, eqHp, rn, lk, SV.ren, SV.renC, SV.renB, SV.renA, ren_ints, ren_strs, ren_pl, ren_svs, List.map_cons, List.map_nil, forall_const, Nat.reduceLT, true_and, and_true, ob_some, get_mk, lk_cons, ↓reduceIte, Nat.reduceEqDiff, Nat.reduceAdd, implies_true, reduceCtorEq, stopT]
          repeat' (first | rfl | apply And.intro)
      · have u1 : (decide ((stQ T.C.now).tr = -1) && decide ((stQ T.C.now).lf = 0)) = false := by
          rw [Bool.eq_false_iff]; intro h; simp only [Bool.and_eq_true, decide_eq_true_eq] at h; exact k1 h
        simp -implicitDefEqProofs only [go_sem, u1, splice_zero, splice_succ, List.drop_succ_cons, List.drop_zero, List.drop_nil, List.cons_append, List.nil_append, List.take_succ_cons, List.take_zero, List.length_cons, List.length_nil]
        refine at_call tBsettled (settledS (k := stQ T.C.now) hx) ?_
        unfold sqV sqL
        simp -implicitDefEqProofs only [go_sem, splice_zero, splice_succ, List.drop_succ_cons, List.drop_zero, List.drop_nil, List.cons_append, List.nil_append, List.take_succ_cons, List.take_zero, List.length_cons, List.length_nil]
        obtain ⟨⟨e, T1⟩, hk⟩ : ∃ p, kpR (sdQ (stQ T.C.now)) (stopT T) = p := ⟨_, rfl⟩
        have hkk := kpR_k (k := sdQ (stQ T.C.now)) hKs (by omega) hnum
        rw [hk] at hkk
        obtain ⟨hK1, _, hb1, hb2⟩ := hkk
        have hT : inR ver I tries T = if e ≠ 0 then (e, T1) else tlR (stQ T.C.now) ver I tries T1 := by unfold inR; rw [if_neg (by simp [hE])]; simp only [if_neg k1]; rw [hH]; rw [hk]
        refine at_call tBkeep (keepS (T := (stopT T)) (k := sdQ (stQ T.C.now)) (i := 1) (q := 2) (s := 3) (D := 4) (a := 5) (b := 6) (c := 7) (M := 8) (W := 9) ⟨by rfl, by rfl, by rfl, by rfl, by rfl, by rfl, by rfl, by rfl, by rfl, by decide, by rfl, by rfl⟩ hKs hx (by decide) hk) ?_
        rw [btF_eq]
        unfold btB
        simp -implicitDefEqProofs only [go_sem]
        by_cases d1 : e = 0
        case neg =>
          have k1 : decide (e = 0) = false := decide_eq_false d1
          simp -implicitDefEqProofs only [go_sem, k1]
          rw [hT, if_pos d1]
          unfold btN btB
          refine sub_mk [(10, 11), (11, 12), (12, 13), (13, 14), (14, 15)] rfl rfl rfl ?_
          simp only [tmSub, hpSub, objSub, eqTm, eqHp, rn, lk, SV.ren, SV.renC, SV.renB, SV.renA, ren_ints, ren_strs, ren_pl, ren_svs, List.map_cons, List.map_nil, forall_const, Nat.reduceLT, true_and, and_true, ob_some, get_mk, lk_cons, ↓reduceIte, Nat.reduceEqDiff, Nat.reduceAdd, implies_true, reduceCtorEq, stopT]
          repeat' (first | rfl | apply And.intro)
        have d2 : decide (e = 0) = true := decide_eq_true d1
        rw [if_neg (by simp [d1])] at hT
        simp -implicitDefEqProofs only [go_sem, d2, w2]
        obtain ⟨⟨e1, d1⟩, hq⟩ : ∃ p, Sl.swR T1.bs T1.r (1 - (stQ T.C.now).cf) ver I T1.d = p := ⟨_, rfl⟩
        have hw : wtB (1 - (stQ T.C.now).cf) ver I T1 = (e1, { T1 with d := d1 }) := by unfold wtB; simp only [hq]
        have hKw : BtK { T1 with d := d1 } m ((t + 133) + 133) := by have := wtB_k (slot := 1 - (stQ T.C.now).cf) (ver := ver) (I := I) hK1 (by omega); rw [hw] at this; exact this
        refine at_call tSWrite (Sl.swriteS (q := 3) (i := 4) (a := 11) (b := 12) (c := 13) (d := T1.d) hK1.bs hK1.r (by rfl) ⟨by rfl, by rfl, by rfl, by rfl, by decide⟩ (by decide) hK1.P hK1.t (by decide) hq) ?_
        rw [Sl.devN_eq]
        simp -implicitDefEqProofs only [go_sem]
        by_cases g1 : e1 = 0
        · have b1 : decide (e1 = 0) = true := decide_eq_true g1
          simp -implicitDefEqProofs only [go_sem, b1, w2, splice_zero, splice_succ, List.drop_succ_cons, List.drop_zero, List.drop_nil, List.cons_append, List.nil_append, List.take_succ_cons, List.take_zero, List.length_cons, List.length_nil]
          rw [show inR ver I tries T = kpR ⟨(stQ T.C.now).cf, 1 - (stQ T.C.now).cf, tries, (stQ T.C.now).fl⟩ { T1 with d := d1 } by rw [hT]; unfold tlR; rw [hw, if_neg (by simp [g1])]]
          obtain ⟨⟨e2, T2⟩, hk2⟩ : ∃ p, kpR ⟨(stQ T.C.now).cf, 1 - (stQ T.C.now).cf, tries, (stQ T.C.now).fl⟩ { T1 with d := d1 } = p := ⟨_, rfl⟩
          rw [hk2]
          refine at_call tBkeep (keepS (T := { T1 with d := d1 }) (k := ⟨(stQ T.C.now).cf, 1 - (stQ T.C.now).cf, tries, (stQ T.C.now).fl⟩) (i := 1) (q := 2) (s := 3) (D := 4) (a := 16) (b := 17) (c := 18) (M := 14) (W := 15) ⟨by rfl, by rfl, by rfl, by rfl, by rfl, by rfl, by rfl, by rfl, by rfl, by decide, by rfl, by rfl⟩ hKw hx (by decide) hk2) ?_
          rw [btF_eq]
          unfold btB
          simp -implicitDefEqProofs only [go_sem]
          unfold btN btB
          refine sub_mk [(10, 19), (11, 20), (12, 21), (13, 22), (14, 23)] rfl rfl rfl ?_
          simp only [tmSub, hpSub, objSub, eqTm, eqHp, rn, lk, SV.ren, SV.renC, SV.renB, SV.renA, ren_ints, ren_strs, ren_pl, ren_svs, List.map_cons, List.map_nil, forall_const, Nat.reduceLT, true_and, and_true, ob_some, get_mk, lk_cons, ↓reduceIte, Nat.reduceEqDiff, Nat.reduceAdd, implies_true, reduceCtorEq, stopT]
          repeat' (first | rfl | apply And.intro)
        · have b1 : decide (e1 = 0) = false := decide_eq_false g1
          rw [show inR ver I tries T = (e1, { T1 with d := d1 }) by rw [hT]; unfold tlR; rw [hw, if_pos g1]]
          simp -implicitDefEqProofs only [go_sem, b1]
          unfold btN btB
          refine sub_mk [(10, 16), (11, 17), (12, 18), (13, 14), (14, 15)] rfl rfl rfl ?_
          simp only [tmSub, hpSub, objSub, eqTm, eqHp, rn, lk, SV.ren, SV.renC, SV.renB, SV.renA, ren_ints, ren_strs, ren_pl, ren_svs, List.map_cons, List.map_nil, forall_const, Nat.reduceLT, true_and, and_true, ob_some, get_mk, lk_cons, ↓reduceIte, Nat.reduceEqDiff, Nat.reduceAdd, implies_true, reduceCtorEq, stopT]
          repeat' (first | rfl | apply And.intro)
    · have o3 : decide (T.slot = 1 - (stQ T.C.now).cf) = false := decide_eq_false o2
      simp -implicitDefEqProofs only [go_sem, w2, o3]
      have hH : haltT (1 - (stQ T.C.now).cf) T = T := if_neg fun h => o2 h.2
      refine at_call tBsettled (settledS (k := stQ T.C.now) hx) ?_
      unfold sqV sqL
      simp -implicitDefEqProofs only [go_sem, splice_zero, splice_succ, List.drop_succ_cons, List.drop_zero, List.drop_nil, List.cons_append, List.nil_append, List.take_succ_cons, List.take_zero, List.length_cons, List.length_nil]
      by_cases k1 : (stQ T.C.now).tr = -1 ∧ (stQ T.C.now).lf = 0
      · have u1 : decide ((stQ T.C.now).tr = -1) = true := decide_eq_true k1.1
        have u2 : decide ((stQ T.C.now).lf = 0) = true := decide_eq_true k1.2
        have u3 : decide ((stQ T.C.now).cf = (stQ T.C.now).cf) = true := decide_eq_true rfl
        have u4 : decide ((stQ T.C.now).fl = (stQ T.C.now).fl) = true := decide_eq_true rfl
        simp -implicitDefEqProofs only [go_sem, u1, u2, u3, u4, w2, splice_zero, splice_succ, List.drop_succ_cons, List.drop_zero, List.drop_nil, List.cons_append, List.nil_append, List.take_succ_cons, List.take_zero, List.length_cons, List.length_nil]
        have hT : inR ver I tries T = tlR (stQ T.C.now) ver I tries T := by unfold inR; rw [if_neg (by simp [hE])]; simp only [if_pos k1]; rw [hH]
        obtain ⟨⟨e1, d1⟩, hq⟩ : ∃ p, Sl.swR T.bs T.r (1 - (stQ T.C.now).cf) ver I T.d = p := ⟨_, rfl⟩
        have hw : wtB (1 - (stQ T.C.now).cf) ver I T = (e1, { T with d := d1 }) := by unfold wtB; simp only [hq]
        have hKw : BtK { T with d := d1 } m (t + 133) := by have := wtB_k (slot := 1 - (stQ T.C.now).cf) (ver := ver) (I := I) hK (by omega); rw [hw] at this; exact this
        refine at_call tSWrite (Sl.swriteS (q := 3) (i := 4) (a := 5) (b := 6) (c := 7) (d := T.d) hK.bs hK.r (by rfl) ⟨by rfl, by rfl, by rfl, by rfl, by decide⟩ (by decide) hK.P hK.t (by decide) hq) ?_
        rw [Sl.devN_eq]
        simp -implicitDefEqProofs only [go_sem]
        by_cases g1 : e1 = 0
        · have b1 : decide (e1 = 0) = true := decide_eq_true g1
          simp -implicitDefEqProofs only [go_sem, b1, w2, splice_zero, splice_succ, List.drop_succ_cons, List.drop_zero, List.drop_nil, List.cons_append, List.nil_append, List.take_succ_cons, List.take_zero, List.length_cons, List.length_nil]
          rw [show inR ver I tries T = kpR ⟨(stQ T.C.now).cf, 1 - (stQ T.C.now).cf, tries, (stQ T.C.now).fl⟩ { T with d := d1 } by rw [hT]; unfold tlR; rw [hw, if_neg (by simp [g1])]]
          obtain ⟨⟨e2, T2⟩, hk2⟩ : ∃ p, kpR ⟨(stQ T.C.now).cf, 1 - (stQ T.C.now).cf, tries, (stQ T.C.now).fl⟩ { T with d := d1 } = p := ⟨_, rfl⟩
          rw [hk2]
          refine at_call tBkeep (keepS (T := { T with d := d1 }) (k := ⟨(stQ T.C.now).cf, 1 - (stQ T.C.now).cf, tries, (stQ T.C.now).fl⟩) (i := 1) (q := 2) (s := 3) (D := 4) (a := 11) (b := 12) (c := 13) (M := 8) (W := 9) ⟨by unfold btB; rw [o1]; rfl, by rfl, by rfl, by rfl, by rfl, by rfl, by rfl, by rfl, by rfl, by decide, by rfl, by rfl⟩ hKw hx (by decide) hk2) ?_
          rw [btF_eq]
          unfold btB
          simp -implicitDefEqProofs only [go_sem]
          unfold btN btB
          refine sub_mk [(10, 14), (11, 15), (12, 16), (13, 17), (14, 18)] rfl rfl rfl ?_
          simp only [tmSub, hpSub, objSub, eqTm, eqHp, rn, lk, SV.ren, SV.renC, SV.renB, SV.renA, ren_ints, ren_strs, ren_pl, ren_svs, List.map_cons, List.map_nil, forall_const, Nat.reduceLT, true_and, and_true, ob_some, get_mk, lk_cons, ↓reduceIte, Nat.reduceEqDiff, Nat.reduceAdd, implies_true, reduceCtorEq, stopT]
          repeat' (first | rfl | apply And.intro)
        · have b1 : decide (e1 = 0) = false := decide_eq_false g1
          rw [show inR ver I tries T = (e1, { T with d := d1 }) by rw [hT]; unfold tlR; rw [hw, if_pos g1]]
          simp -implicitDefEqProofs only [go_sem, b1]
          unfold btN btB
          rw [o1]
          refine sub_mk [(10, 11), (11, 12), (12, 13), (13, 8), (14, 9)] rfl rfl rfl ?_
          simp only [tmSub, hpSub, objSub, eqTm, eqHp, rn, lk, SV.ren, SV.renC, SV.renB, SV.renA, ren_ints, ren_strs, ren_pl, ren_svs, List.map_cons, List.map_nil, forall_const, Nat.reduceLT, true_and, and_true, ob_some, get_mk, lk_cons, ↓reduceIte, Nat.reduceEqDiff, Nat.reduceAdd, implies_true, reduceCtorEq, stopT]
          repeat' (first | rfl | apply And.intro)
      · have u1 : (decide ((stQ T.C.now).tr = -1) && decide ((stQ T.C.now).lf = 0)) = false := by
          rw [Bool.eq_false_iff]; intro h; simp only [Bool.and_eq_true, decide_eq_true_eq] at h; exact k1 h
        simp -implicitDefEqProofs only [go_sem, u1, splice_zero, splice_succ, List.drop_succ_cons, List.drop_zero, List.drop_nil, List.cons_append, List.nil_append, List.take_succ_cons, List.take_zero, List.length_cons, List.length_nil]
        refine at_call tBsettled (settledS (k := stQ T.C.now) hx) ?_
        unfold sqV sqL
        simp -implicitDefEqProofs only [go_sem, splice_zero, splice_succ, List.drop_succ_cons, List.drop_zero, List.drop_nil, List.cons_append, List.nil_append, List.take_succ_cons, List.take_zero, List.length_cons, List.length_nil]
        obtain ⟨⟨e, T1⟩, hk⟩ : ∃ p, kpR (sdQ (stQ T.C.now)) T = p := ⟨_, rfl⟩
        have hkk := kpR_k (k := sdQ (stQ T.C.now)) hK (by omega) hnum
        rw [hk] at hkk
        obtain ⟨hK1, _, hb1, hb2⟩ := hkk
        have hT : inR ver I tries T = if e ≠ 0 then (e, T1) else tlR (stQ T.C.now) ver I tries T1 := by unfold inR; rw [if_neg (by simp [hE])]; simp only [if_neg k1]; rw [hH]; rw [hk]
        refine at_call tBkeep (keepS (T := T) (k := sdQ (stQ T.C.now)) (i := 1) (q := 2) (s := 3) (D := 4) (a := 5) (b := 6) (c := 7) (M := 8) (W := 9) ⟨by unfold btB; rw [o1]; rfl, by rfl, by rfl, by rfl, by rfl, by rfl, by rfl, by rfl, by rfl, by decide, by rfl, by rfl⟩ hK hx (by decide) hk) ?_
        rw [btF_eq]
        unfold btB
        simp -implicitDefEqProofs only [go_sem]
        by_cases d1 : e = 0
        case neg =>
          have k1 : decide (e = 0) = false := decide_eq_false d1
          simp -implicitDefEqProofs only [go_sem, k1]
          rw [hT, if_pos d1]
          unfold btN btB
          refine sub_mk [(10, 11), (11, 12), (12, 13), (13, 14), (14, 15)] rfl rfl rfl ?_
          simp only [tmSub, hpSub, objSub, eqTm, eqHp, rn, lk, SV.ren, SV.renC, SV.renB, SV.renA, ren_ints, ren_strs, ren_pl, ren_svs, List.map_cons, List.map_nil, forall_const, Nat.reduceLT, true_and, and_true, ob_some, get_mk, lk_cons, ↓reduceIte, Nat.reduceEqDiff, Nat.reduceAdd, implies_true, reduceCtorEq, stopT]
          repeat' (first | rfl | apply And.intro)
        have d2 : decide (e = 0) = true := decide_eq_true d1
        rw [if_neg (by simp [d1])] at hT
        simp -implicitDefEqProofs only [go_sem, d2, w2]
        obtain ⟨⟨e1, d1⟩, hq⟩ : ∃ p, Sl.swR T1.bs T1.r (1 - (stQ T.C.now).cf) ver I T1.d = p := ⟨_, rfl⟩
        have hw : wtB (1 - (stQ T.C.now).cf) ver I T1 = (e1, { T1 with d := d1 }) := by unfold wtB; simp only [hq]
        have hKw : BtK { T1 with d := d1 } m ((t + 133) + 133) := by have := wtB_k (slot := 1 - (stQ T.C.now).cf) (ver := ver) (I := I) hK1 (by omega); rw [hw] at this; exact this
        refine at_call tSWrite (Sl.swriteS (q := 3) (i := 4) (a := 11) (b := 12) (c := 13) (d := T1.d) hK1.bs hK1.r (by rfl) ⟨by rfl, by rfl, by rfl, by rfl, by decide⟩ (by decide) hK1.P hK1.t (by decide) hq) ?_
        rw [Sl.devN_eq]
        simp -implicitDefEqProofs only [go_sem]
        by_cases g1 : e1 = 0
        · have b1 : decide (e1 = 0) = true := decide_eq_true g1
          simp -implicitDefEqProofs only [go_sem, b1, w2, splice_zero, splice_succ, List.drop_succ_cons, List.drop_zero, List.drop_nil, List.cons_append, List.nil_append, List.take_succ_cons, List.take_zero, List.length_cons, List.length_nil]
          rw [show inR ver I tries T = kpR ⟨(stQ T.C.now).cf, 1 - (stQ T.C.now).cf, tries, (stQ T.C.now).fl⟩ { T1 with d := d1 } by rw [hT]; unfold tlR; rw [hw, if_neg (by simp [g1])]]
          obtain ⟨⟨e2, T2⟩, hk2⟩ : ∃ p, kpR ⟨(stQ T.C.now).cf, 1 - (stQ T.C.now).cf, tries, (stQ T.C.now).fl⟩ { T1 with d := d1 } = p := ⟨_, rfl⟩
          rw [hk2]
          refine at_call tBkeep (keepS (T := { T1 with d := d1 }) (k := ⟨(stQ T.C.now).cf, 1 - (stQ T.C.now).cf, tries, (stQ T.C.now).fl⟩) (i := 1) (q := 2) (s := 3) (D := 4) (a := 16) (b := 17) (c := 18) (M := 14) (W := 15) ⟨by rfl, by rfl, by rfl, by rfl, by rfl, by rfl, by rfl, by rfl, by rfl, by decide, by rfl, by rfl⟩ hKw hx (by decide) hk2) ?_
          rw [btF_eq]
          unfold btB
          simp -implicitDefEqProofs only [go_sem]
          unfold btN btB
          refine sub_mk [(10, 19), (11, 20), (12, 21), (13, 22), (14, 23)] rfl rfl rfl ?_
          simp only [tmSub, hpSub, objSub, eqTm, eqHp, rn, lk, SV.ren, SV.renC, SV.renB, SV.renA, ren_ints, ren_strs, ren_pl, ren_svs, List.map_cons, List.map_nil, forall_const, Nat.reduceLT, true_and, and_true, ob_some, get_mk, lk_cons, ↓reduceIte, Nat.reduceEqDiff, Nat.reduceAdd, implies_true, reduceCtorEq, stopT]
          repeat' (first | rfl | apply And.intro)
        · have b1 : decide (e1 = 0) = false := decide_eq_false g1
          rw [show inR ver I tries T = (e1, { T1 with d := d1 }) by rw [hT]; unfold tlR; rw [hw, if_pos g1]]
          simp -implicitDefEqProofs only [go_sem, b1]
          unfold btN btB
          refine sub_mk [(10, 16), (11, 17), (12, 18), (13, 14), (14, 15)] rfl rfl rfl ?_
          simp only [tmSub, hpSub, objSub, eqTm, eqHp, rn, lk, SV.ren, SV.renC, SV.renB, SV.renA, ren_ints, ren_strs, ren_pl, ren_svs, List.map_cons, List.map_nil, forall_const, Nat.reduceLT, true_and, and_true, ob_some, get_mk, lk_cons, ↓reduceIte, Nat.reduceEqDiff, Nat.reduceAdd, implies_true, reduceCtorEq, stopT]
          repeat' (first | rfl | apply And.intro)
  · have o0 : T.on = false := by simpa using o1
    simp -implicitDefEqProofs only [go_sem, o0]
    have hH : haltT (1 - (stQ T.C.now).cf) T = T := if_neg fun h => o1 h.1
    refine at_call tBsettled (settledS (k := stQ T.C.now) hx) ?_
    unfold sqV sqL
    simp -implicitDefEqProofs only [go_sem, splice_zero, splice_succ, List.drop_succ_cons, List.drop_zero, List.drop_nil, List.cons_append, List.nil_append, List.take_succ_cons, List.take_zero, List.length_cons, List.length_nil]
    by_cases k1 : (stQ T.C.now).tr = -1 ∧ (stQ T.C.now).lf = 0
    · have u1 : decide ((stQ T.C.now).tr = -1) = true := decide_eq_true k1.1
      have u2 : decide ((stQ T.C.now).lf = 0) = true := decide_eq_true k1.2
      have u3 : decide ((stQ T.C.now).cf = (stQ T.C.now).cf) = true := decide_eq_true rfl
      have u4 : decide ((stQ T.C.now).fl = (stQ T.C.now).fl) = true := decide_eq_true rfl
      simp -implicitDefEqProofs only [go_sem, u1, u2, u3, u4, w2, splice_zero, splice_succ, List.drop_succ_cons, List.drop_zero, List.drop_nil, List.cons_append, List.nil_append, List.take_succ_cons, List.take_zero, List.length_cons, List.length_nil]
      have hT : inR ver I tries T = tlR (stQ T.C.now) ver I tries T := by unfold inR; rw [if_neg (by simp [hE])]; simp only [if_pos k1]; rw [hH]
      obtain ⟨⟨e1, d1⟩, hq⟩ : ∃ p, Sl.swR T.bs T.r (1 - (stQ T.C.now).cf) ver I T.d = p := ⟨_, rfl⟩
      have hw : wtB (1 - (stQ T.C.now).cf) ver I T = (e1, { T with d := d1 }) := by unfold wtB; simp only [hq]
      have hKw : BtK { T with d := d1 } m (t + 133) := by have := wtB_k (slot := 1 - (stQ T.C.now).cf) (ver := ver) (I := I) hK (by omega); rw [hw] at this; exact this
      refine at_call tSWrite (Sl.swriteS (q := 3) (i := 4) (a := 5) (b := 6) (c := 7) (d := T.d) hK.bs hK.r (by rfl) ⟨by rfl, by rfl, by rfl, by rfl, by decide⟩ (by decide) hK.P hK.t (by decide) hq) ?_
      rw [Sl.devN_eq]
      simp -implicitDefEqProofs only [go_sem]
      by_cases g1 : e1 = 0
      · have b1 : decide (e1 = 0) = true := decide_eq_true g1
        simp -implicitDefEqProofs only [go_sem, b1, w2, splice_zero, splice_succ, List.drop_succ_cons, List.drop_zero, List.drop_nil, List.cons_append, List.nil_append, List.take_succ_cons, List.take_zero, List.length_cons, List.length_nil]
        rw [show inR ver I tries T = kpR ⟨(stQ T.C.now).cf, 1 - (stQ T.C.now).cf, tries, (stQ T.C.now).fl⟩ { T with d := d1 } by rw [hT]; unfold tlR; rw [hw, if_neg (by simp [g1])]]
        obtain ⟨⟨e2, T2⟩, hk2⟩ : ∃ p, kpR ⟨(stQ T.C.now).cf, 1 - (stQ T.C.now).cf, tries, (stQ T.C.now).fl⟩ { T with d := d1 } = p := ⟨_, rfl⟩
        rw [hk2]
        refine at_call tBkeep (keepS (T := { T with d := d1 }) (k := ⟨(stQ T.C.now).cf, 1 - (stQ T.C.now).cf, tries, (stQ T.C.now).fl⟩) (i := 1) (q := 2) (s := 3) (D := 4) (a := 11) (b := 12) (c := 13) (M := 8) (W := 9) ⟨by unfold btB; rw [o0]; rfl, by rfl, by rfl, by rfl, by rfl, by rfl, by rfl, by rfl, by rfl, by decide, by rfl, by rfl⟩ hKw hx (by decide) hk2) ?_
        rw [btF_eq]
        unfold btB
        simp -implicitDefEqProofs only [go_sem]
        unfold btN btB
        refine sub_mk [(10, 14), (11, 15), (12, 16), (13, 17), (14, 18)] rfl rfl rfl ?_
        simp only [tmSub, hpSub, objSub, eqTm, eqHp, rn, lk, SV.ren, SV.renC, SV.renB, SV.renA, ren_ints, ren_strs, ren_pl, ren_svs, List.map_cons, List.map_nil, forall_const, Nat.reduceLT, true_and, and_true, ob_some, get_mk, lk_cons, ↓reduceIte, Nat.reduceEqDiff, Nat.reduceAdd, implies_true, reduceCtorEq, stopT]
        repeat' (first | rfl | apply And.intro)
      · have b1 : decide (e1 = 0) = false := decide_eq_false g1
        rw [show inR ver I tries T = (e1, { T with d := d1 }) by rw [hT]; unfold tlR; rw [hw, if_pos g1]]
        simp -implicitDefEqProofs only [go_sem, b1]
        unfold btN btB
        rw [o0]
        refine sub_mk [(10, 11), (11, 12), (12, 13), (13, 8), (14, 9)] rfl rfl rfl ?_
        simp only [tmSub, hpSub, objSub, eqTm, eqHp, rn, lk, SV.ren, SV.renC, SV.renB, SV.renA, ren_ints, ren_strs, ren_pl, ren_svs, List.map_cons, List.map_nil, forall_const, Nat.reduceLT, true_and, and_true, ob_some, get_mk, lk_cons, ↓reduceIte, Nat.reduceEqDiff, Nat.reduceAdd, implies_true, reduceCtorEq, stopT]
        repeat' (first | rfl | apply And.intro)
    · have u1 : (decide ((stQ T.C.now).tr = -1) && decide ((stQ T.C.now).lf = 0)) = false := by
        rw [Bool.eq_false_iff]; intro h; simp only [Bool.and_eq_true, decide_eq_true_eq] at h; exact k1 h
      simp -implicitDefEqProofs only [go_sem, u1, splice_zero, splice_succ, List.drop_succ_cons, List.drop_zero, List.drop_nil, List.cons_append, List.nil_append, List.take_succ_cons, List.take_zero, List.length_cons, List.length_nil]
      refine at_call tBsettled (settledS (k := stQ T.C.now) hx) ?_
      unfold sqV sqL
      simp -implicitDefEqProofs only [go_sem, splice_zero, splice_succ, List.drop_succ_cons, List.drop_zero, List.drop_nil, List.cons_append, List.nil_append, List.take_succ_cons, List.take_zero, List.length_cons, List.length_nil]
      obtain ⟨⟨e, T1⟩, hk⟩ : ∃ p, kpR (sdQ (stQ T.C.now)) T = p := ⟨_, rfl⟩
      have hkk := kpR_k (k := sdQ (stQ T.C.now)) hK (by omega) hnum
      rw [hk] at hkk
      obtain ⟨hK1, _, hb1, hb2⟩ := hkk
      have hT : inR ver I tries T = if e ≠ 0 then (e, T1) else tlR (stQ T.C.now) ver I tries T1 := by unfold inR; rw [if_neg (by simp [hE])]; simp only [if_neg k1]; rw [hH]; rw [hk]
      refine at_call tBkeep (keepS (T := T) (k := sdQ (stQ T.C.now)) (i := 1) (q := 2) (s := 3) (D := 4) (a := 5) (b := 6) (c := 7) (M := 8) (W := 9) ⟨by unfold btB; rw [o0]; rfl, by rfl, by rfl, by rfl, by rfl, by rfl, by rfl, by rfl, by rfl, by decide, by rfl, by rfl⟩ hK hx (by decide) hk) ?_
      rw [btF_eq]
      unfold btB
      simp -implicitDefEqProofs only [go_sem]
      by_cases d1 : e = 0
      case neg =>
        have k1 : decide (e = 0) = false := decide_eq_false d1
        simp -implicitDefEqProofs only [go_sem, k1]
        rw [hT, if_pos d1]
        unfold btN btB
        refine sub_mk [(10, 11), (11, 12), (12, 13), (13, 14), (14, 15)] rfl rfl rfl ?_
        simp only [tmSub, hpSub, objSub, eqTm, eqHp, rn, lk, SV.ren, SV.renC, SV.renB, SV.renA, ren_ints, ren_strs, ren_pl, ren_svs, List.map_cons, List.map_nil, forall_const, Nat.reduceLT, true_and, and_true, ob_some, get_mk, lk_cons, ↓reduceIte, Nat.reduceEqDiff, Nat.reduceAdd, implies_true, reduceCtorEq, stopT]
        repeat' (first | rfl | apply And.intro)
      have d2 : decide (e = 0) = true := decide_eq_true d1
      rw [if_neg (by simp [d1])] at hT
      simp -implicitDefEqProofs only [go_sem, d2, w2]
      obtain ⟨⟨e1, d1⟩, hq⟩ : ∃ p, Sl.swR T1.bs T1.r (1 - (stQ T.C.now).cf) ver I T1.d = p := ⟨_, rfl⟩
      have hw : wtB (1 - (stQ T.C.now).cf) ver I T1 = (e1, { T1 with d := d1 }) := by unfold wtB; simp only [hq]
      have hKw : BtK { T1 with d := d1 } m ((t + 133) + 133) := by have := wtB_k (slot := 1 - (stQ T.C.now).cf) (ver := ver) (I := I) hK1 (by omega); rw [hw] at this; exact this
      refine at_call tSWrite (Sl.swriteS (q := 3) (i := 4) (a := 11) (b := 12) (c := 13) (d := T1.d) hK1.bs hK1.r (by rfl) ⟨by rfl, by rfl, by rfl, by rfl, by decide⟩ (by decide) hK1.P hK1.t (by decide) hq) ?_
      rw [Sl.devN_eq]
      simp -implicitDefEqProofs only [go_sem]
      by_cases g1 : e1 = 0
      · have b1 : decide (e1 = 0) = true := decide_eq_true g1
        simp -implicitDefEqProofs only [go_sem, b1, w2, splice_zero, splice_succ, List.drop_succ_cons, List.drop_zero, List.drop_nil, List.cons_append, List.nil_append, List.take_succ_cons, List.take_zero, List.length_cons, List.length_nil]
        rw [show inR ver I tries T = kpR ⟨(stQ T.C.now).cf, 1 - (stQ T.C.now).cf, tries, (stQ T.C.now).fl⟩ { T1 with d := d1 } by rw [hT]; unfold tlR; rw [hw, if_neg (by simp [g1])]]
        obtain ⟨⟨e2, T2⟩, hk2⟩ : ∃ p, kpR ⟨(stQ T.C.now).cf, 1 - (stQ T.C.now).cf, tries, (stQ T.C.now).fl⟩ { T1 with d := d1 } = p := ⟨_, rfl⟩
        rw [hk2]
        refine at_call tBkeep (keepS (T := { T1 with d := d1 }) (k := ⟨(stQ T.C.now).cf, 1 - (stQ T.C.now).cf, tries, (stQ T.C.now).fl⟩) (i := 1) (q := 2) (s := 3) (D := 4) (a := 16) (b := 17) (c := 18) (M := 14) (W := 15) ⟨by rfl, by rfl, by rfl, by rfl, by rfl, by rfl, by rfl, by rfl, by rfl, by decide, by rfl, by rfl⟩ hKw hx (by decide) hk2) ?_
        rw [btF_eq]
        unfold btB
        simp -implicitDefEqProofs only [go_sem]
        unfold btN btB
        refine sub_mk [(10, 19), (11, 20), (12, 21), (13, 22), (14, 23)] rfl rfl rfl ?_
        simp only [tmSub, hpSub, objSub, eqTm, eqHp, rn, lk, SV.ren, SV.renC, SV.renB, SV.renA, ren_ints, ren_strs, ren_pl, ren_svs, List.map_cons, List.map_nil, forall_const, Nat.reduceLT, true_and, and_true, ob_some, get_mk, lk_cons, ↓reduceIte, Nat.reduceEqDiff, Nat.reduceAdd, implies_true, reduceCtorEq, stopT]
        repeat' (first | rfl | apply And.intro)
      · have b1 : decide (e1 = 0) = false := decide_eq_false g1
        rw [show inR ver I tries T = (e1, { T1 with d := d1 }) by rw [hT]; unfold tlR; rw [hw, if_pos g1]]
        simp -implicitDefEqProofs only [go_sem, b1]
        unfold btN btB
        refine sub_mk [(10, 16), (11, 17), (12, 18), (13, 14), (14, 15)] rfl rfl rfl ?_
        simp only [tmSub, hpSub, objSub, eqTm, eqHp, rn, lk, SV.ren, SV.renC, SV.renB, SV.renA, ren_ints, ren_strs, ren_pl, ren_svs, List.map_cons, List.map_nil, forall_const, Nat.reduceLT, true_and, and_true, ob_some, get_mk, lk_cons, ↓reduceIte, Nat.reduceEqDiff, Nat.reduceAdd, implies_true, reduceCtorEq, stopT]
        repeat' (first | rfl | apply And.intro)
end
section
/- Boot: plain laws, where the power doesn't go. -/
set_option linter.unusedVariables false
set_option linter.unusedSimpArgs false
set_option maxRecDepth 100000
open Go.Proofs
variable {H : Hp} {n : Nat} {x : Nat → Option SO} {i q s D M W a b c : Nat} {d d' : Fd} {C C' : Ce} {T : Bt}
theorem GoodP.sl {f0 : Bool} {m : Nat} {st : Int} {X : List (List Int)} {Y : List (Nat × List Int)} (g : GoodP f0 m st X Y d) : Sl.GoodP f0 m st X Y d := ⟨g.off, g.safe, g.pend, g.sn, g.len, g.st, g.fa⟩
theorem Sl.GoodP.ce {f0 : Bool} {m : Nat} {st : Int} {X : List (List Int)} {Y : List (Nat × List Int)} (g : Sl.GoodP f0 m st X Y d) : Go.Sx.GoodP f0 m st X Y d := ⟨g.off, g.safe, g.pend, g.sn, g.len, g.st, g.fa⟩
def atN (bs r : Nat) (slot : Int) : Nat := if slot = 1 then bs + (1 + r) else bs
theorem atV_n {bs r : Nat} {slot : Int} (h : Sl.slOK slot = true) : Sl.atV bs r slot = atN bs r slot := by
  unfold Sl.slOK at h
  rcases of_decide_eq_true h with rfl | rfl <;> simp [Sl.atV, atN]
theorem atN_le {bs r : Nat} {slot : Int} : bs ≤ atN bs r slot ∧ atN bs r slot ≤ bs + (1 + r) := by unfold atN; split <;> omega
theorem slOK_cases {slot : Int} (h : Sl.slOK slot = true) : slot = 0 ∨ slot = 1 := of_decide_eq_true h
structure BI (T : Bt) (m t N : Nat) : Prop where
  g : ∃ st, GoodP true m st T.d.seen [] T.d
  reg : Reg T.d.seen T.C.base T.C.half T.C.num T.C.last T.C.now
  dead : T.C.dead = false
  K : BtK T m t
  bs : T.bs = T.C.base + 2 * T.C.half
  num : T.C.num ≤ N
  srt : srtE T.C.now = T.C.now
theorem BI.off {m t N : Nat} (h : BI T m t N) : T.d.off = false := by obtain ⟨st, g⟩ := h.g; exact g.off
def sv (T : Bt) (slot : Int) : RdV := Sl.srT T.bs T.r slot T.d
theorem st4_enc {k : Sq} : (encB (kv boot4 (st4 k))).size = 14 := by rw [kv_size, st4_size]; rfl
theorem kp_good {m t N : Nat} {k : Sq} (h : BI T m t N) (ht : t + 1133 < 1000000) (hN : N < 254) :
    ∃ T', kpR k T = (0, T') ∧ BI T' m (t + 133) (N + 1) ∧ T'.C.now = kv boot4 (st4 k) ∧ (∀ slot, Sl.slOK slot = true → sv T' slot = sv T slot) ∧ T'.on = T.on ∧ T'.slot = T.slot ∧ T'.ver = T.ver ∧ T'.r = T.r ∧ T'.bs = T.bs ∧ T'.C.base = T.C.base ∧ T'.C.half = T.C.half := by
  obtain ⟨st, g⟩ := h.g
  have hC := h.K.C
  have hI : (encB (kpC k T.C).now).size ≤ 64 * ((kpC k T.C).half - 1) := by
    show (encB (kv boot4 (st4 k))).size ≤ 64 * (T.C.half - 1)
    rw [st4_enc]; have := hC.half; omega
  obtain ⟨d1, h1, h2⟩ := coR_good (C := kpC k T.C) h.dead hC.half.1 hI g h.K.clen hC.last
  have hk : kpR k T = (0, { T with C := { (kpC k T.C) with last := 1 - T.C.last, num := T.C.num + 1, was := (kpC k T.C).now }, d := d1 }) := by
    unfold kpR kpF; rw [h1]; rfl
  have hK := (kpR_k (k := k) h.K ht (by have := h.num; omega)).1
  rw [hk] at hK
  have hs := h2.seen'
  have hl := h.K.clen
  have hsl : T.d.seen.length = m := g.len
  have hreg := h.reg.done (es := kv boot4 (st4 k)) (by rw [hsl]; exact hl) hC.half.1 hI (by have := h.num; omega) (kv4_es (by rw [st4_size]; decide))
  have hreg' : Reg d1.seen T.C.base T.C.half (T.C.num + 1) (1 - T.C.last) (kv boot4 (st4 k)) := by rw [hs]; exact hreg
  refine ⟨_, hk, ⟨⟨_, by rw [hs]; exact h2⟩, hreg', h.dead, hK, h.bs, by have := h.num; show T.C.num + 1 ≤ N + 1; omega, kv_srt⟩, rfl, fun slot hsk => ?_, rfl, rfl, rfl, rfl, rfl, rfl, rfl⟩
  refine Sl.srT_congr (a0 := atN T.bs T.r slot) hsk g.off h2.off (atV_n hsk) fun j j1 j2 => ?_
  show d1.seen.getD j [] = T.d.seen.getD j []
  rw [hs]
  refine done_ne (.inr ?_)
  have e1 : nCh (encB (kpC k T.C).now) = 1 := by show nCh (encB (kv boot4 (st4 k))) = 1; unfold nCh; rw [st4_enc]
  rw [e1]
  have e2 : ceTo (kpC k T.C) = T.C.base + (1 - T.C.last) * T.C.half := rfl
  rw [e2]
  have e3 := @atN_le T.bs T.r slot
  have hb := h.bs
  have hh := hC.half.1
  have : T.C.last = 0 ∨ T.C.last = 1 := by have := hC.last; omega
  rcases this with e | e <;> rw [e] <;> omega
def ImOK (v : Nat) (I : ByteArray) (r : Nat) : Prop := (1 ≤ v ∧ v < 256) ∧ 1 ≤ I.size ∧ I.size ≤ 8192 ∧ I.size ≤ r * 64
theorem wt_good {m t N v : Nat} {I : ByteArray} {slot : Int} (h : BI T m t N) (ht : t + 1133 < 1000000) (hs : Sl.slOK slot = true) (hI : ImOK v I T.r) :
    ∃ T', wtB slot v I T = (0, T') ∧ BI T' m (t + 133) N ∧ T'.C = T.C ∧ sv T' slot = (v, I, 0) ∧ (∀ s', Sl.slOK s' = true → s' ≠ slot → sv T' s' = sv T s') ∧ T'.on = T.on ∧ T'.slot = T.slot ∧ T'.ver = T.ver ∧ T'.r = T.r ∧ T'.bs = T.bs := by
  obtain ⟨st, g⟩ := h.g
  obtain ⟨hv, h1, h2, h3⟩ := hI
  have hlen := h.K.len
  have hN : nCh I ≤ T.r := by unfold nCh; omega
  have ha := @atN_le T.bs T.r slot
  have hsl : T.d.seen.length = m := g.len
  have hw := Sl.inv_good (Sl.swR_inv (bs := T.bs) (r := T.r) (a0 := atN T.bs T.r slot) (v := v) (I := I) g.sl (by omega) hs (atV_n hs) hv ⟨h1, h2, h3⟩)
  obtain ⟨⟨e, d1⟩, hq⟩ : ∃ p, Sl.swR T.bs T.r slot v I T.d = p := ⟨_, rfl⟩
  rw [hq] at hw
  obtain ⟨he, h4⟩ := hw
  simp only at he h4
  subst he
  have hk : wtB slot v I T = (0, { T with d := d1 }) := by unfold wtB; rw [hq]
  have hK := wtB_k (slot := slot) (ver := v) (I := I) h.K ht
  rw [hk] at hK
  have hsn := h4.seen
  refine ⟨_, hk, ⟨⟨_, by rw [hsn]; exact h4.ce⟩, ?_, h.dead, hK, h.bs, h.num, h.srt⟩, rfl, ?_, fun s' hs' hne => ?_, rfl, rfl, rfl, rfl, rfl⟩
  · refine h.reg.congr (by have := h.K.C.half; omega) fun j j1 j2 => ?_
    show d1.seen.getD j [] = _
    rw [hsn]
    exact Sl.done_ne (.inl (by have := h.bs; omega))
  · show Sl.srT T.bs T.r slot d1 = _
    exact Sl.srT_wrote h4 hsl (by omega) hs (atV_n hs) hv ⟨h1, h2, h3⟩
  · refine Sl.srT_congr (a0 := atN T.bs T.r s') hs' g.off h4.off (atV_n hs') fun j j1 j2 => ?_
    show d1.seen.getD j [] = T.d.seen.getD j []
    rw [hsn]
    refine Sl.done_ne ?_
    have hN' : Sl.nCh I ≤ T.r := by unfold Sl.nCh; omega
    rcases slOK_cases hs with rfl | rfl <;> rcases slOK_cases hs' with rfl | rfl
    · exact absurd rfl hne
    · exact .inr (by simp [atN] at j1 j2 ⊢; omega)
    · exact .inl (by simp [atN] at j1 j2 ⊢; omega)
    · exact absurd rfl hne
theorem u8_id {y : Int} (h : 0 ≤ y ∧ y ≤ 255) : IntKind.u8.wrap y = y := wrap_u8r h.1 h.2
def SqOK (k : Sq) : Prop := -1 ≤ k.cf ∧ k.cf ≤ 1 ∧ -1 ≤ k.tr ∧ k.tr ≤ 1 ∧ (k.cf = -1 ∨ k.cf ≠ k.tr) ∧ 0 ≤ k.lf ∧ k.lf ≤ 8 ∧ (k.tr ≠ -1 ∨ k.lf = 0) ∧ 0 ≤ k.fl ∧ k.fl ≤ 255
theorem st4_bts {k : Sq} (h : SqOK k) : bts (st4 k) = [k.cf + 1, k.tr + 1, k.lf, k.fl] := by
  obtain ⟨h1, h2, h3, h4, h5, h6, h7, h8, h9, h10⟩ := h
  unfold st4 st4L
  rw [wrap_i64 (by omega) (by omega), wrap_i64 (by omega) (by omega), u8_id (by omega), u8_id (by omega), u8_id (by omega), u8_id (by omega)]
  refine btx fun y hy => ?_
  simp only [List.mem_cons, List.not_mem_nil, or_false] at hy
  rcases hy with rfl | rfl | rfl | rfl <;> omega
theorem stQ_kv {k : Sq} (h : SqOK k) : stQ (kv boot4 (st4 k)) = k := by
  have hb := st4_bts h
  obtain ⟨h1, h2, h3, h4, h5, h6, h7, h8, h9, h10⟩ := h
  have b0 : bt (st4 k) 0 = k.cf + 1 := by unfold bt; rw [hb]; rfl
  have b1 : bt (st4 k) 1 = k.tr + 1 := by unfold bt; rw [hb]; rfl
  have b2 : bt (st4 k) 2 = k.lf := by unfold bt; rw [hb]; rfl
  have b3 : bt (st4 k) 3 = k.fl := by unfold bt; rw [hb]; rfl
  unfold stQ
  rw [kv_t, if_pos ⟨rfl, st4_size, by rw [b0]; omega, by rw [b1]; omega, by rw [b0, b1]; omega, by rw [b2]; omega, by rw [b1, b2]; omega⟩, b0, b1, b2, b3]
  cases k
  simp
theorem stQ_nil : stQ [] = nthQ := if_neg fun h => by cases h.1
end
section
/- Boot: calls, where the power doesn't go. -/
set_option linter.unusedVariables false
set_option linter.unusedSimpArgs false
set_option maxRecDepth 100000
open Go.Proofs
variable {H : Hp} {n : Nat} {x : Nat → Option SO} {i q s D M W a b c : Nat} {d d' : Fd} {C C' : Ce} {T : Bt}
structure Lay (T T' : Bt) : Prop where
  r : T'.r = T.r
  bs : T'.bs = T.bs
def Run (T T' : Bt) : Prop := T'.on = T.on ∧ T'.slot = T.slot ∧ T'.ver = T.ver
theorem BI.stop {m t N : Nat} (h : BI T m t N) : BI (stopT T) m t N := ⟨h.g, h.reg, h.dead, ⟨h.K.C, h.K.P, h.K.t, h.K.bs, h.K.r, h.K.len, h.K.clen⟩, h.bs, h.num, h.srt⟩
theorem BI.run {m t N v : Nat} {sl : Int} (h : BI T m t N) : BI (runT sl v T) m t N := ⟨h.g, h.reg, h.dead, ⟨h.K.C, h.K.P, h.K.t, h.K.bs, h.K.r, h.K.len, h.K.clen⟩, h.bs, h.num, h.srt⟩
theorem prov_good {m t N v : Nat} {I : ByteArray} (h : BI T m t N) (ht : t + 1266 < 1000000) (hN : N < 254) (hk : (stQ T.C.now).cf < 0) (hI : ImOK v I T.r) :
    ∃ T', prR v I T = (0, T') ∧ BI T' m (t + 266) (N + 1) ∧ stQ T'.C.now = ⟨0, -1, 0, v⟩ ∧ sv T' 0 = (v, I, 0) ∧ Run T T' ∧ Lay T T' := by
  obtain ⟨T1, p1, p2, p3, p4, p5, p6, p7, p8, p9, p10⟩ := wt_good (slot := 0) h (by omega) rfl hI
  obtain ⟨T2, q1, q2, q3, q4, q5, q6, q7, q8, q9, q10⟩ := kp_good (k := ⟨0, -1, 0, v⟩) p2 (by omega) hN
  have hv := hI.1
  refine ⟨T2, ?_, q2, ?_, ?_, ⟨by rw [q5, p6], by rw [q6, p7], by rw [q7, p8]⟩, ⟨by rw [q8, p9], by rw [q9, p10]⟩⟩
  · unfold prR; rw [if_neg (by omega), p1, if_neg (by simp), q1]
  · rw [q3]; exact stQ_kv ⟨by simp only; omega, by simp only; omega, by simp only; omega, by simp only; omega, .inr (by simp only; omega), by simp only; omega, by simp only; omega, .inr rfl, by simp only; omega, by simp only; omega⟩
  · rw [q4 0 rfl, p4]
theorem inst_good {m t N v : Nat} {I : ByteArray} {tries : Int} {k : Sq} (h : BI T m t N) (ht : t + 1266 < 1000000) (hN : N < 254) (hk : stQ T.C.now = k) (hok : SqOK k) (hc : 0 ≤ k.cf) (htr : k.tr = -1 ∧ k.lf = 0) (he : itE k v I tries T.r = 0)
    (hh : haltT (1 - k.cf) T = T) (hI : ImOK v I T.r) (hr : 1 ≤ tries ∧ tries ≤ 8) :
    ∃ T', inR v I tries T = (0, T') ∧ BI T' m (t + 266) (N + 1) ∧ stQ T'.C.now = ⟨k.cf, 1 - k.cf, tries, k.fl⟩ ∧ sv T' (1 - k.cf) = (v, I, 0) ∧ sv T' k.cf = sv T k.cf ∧ Run T T' ∧ Lay T T' := by
  obtain ⟨o1, o2, o3, o4, o5, o6, o7, o8, o9, o10⟩ := hok
  have hcs : k.cf = 0 ∨ k.cf = 1 := by omega
  have s1 : Sl.slOK (1 - k.cf) = true := by rcases hcs with e | e <;> rw [e] <;> rfl
  have s2 : Sl.slOK k.cf = true := by rcases hcs with e | e <;> rw [e] <;> rfl
  obtain ⟨T1, p1, p2, p3, p4, p5, p6, p7, p8, p9, p10⟩ := wt_good (slot := 1 - k.cf) h (by omega) s1 hI
  obtain ⟨T2, q1, q2, q3, q4, q5, q6, q7, q8, q9, q10⟩ := kp_good (k := ⟨k.cf, 1 - k.cf, tries, k.fl⟩) p2 (by omega) hN
  refine ⟨T2, ?_, q2, ?_, ?_, ?_, ⟨by rw [q5, p6], by rw [q6, p7], by rw [q7, p8]⟩, ⟨by rw [q8, p9], by rw [q9, p10]⟩⟩
  · unfold inR; rw [hk, if_neg (by simp [he])]; simp only [if_pos htr]; rw [hh]; unfold tlR; rw [p1, if_neg (by simp), q1]
  · rw [q3]; exact stQ_kv ⟨by simp only; omega, by simp only; omega, by simp only; omega, by simp only; omega, by simp only; omega, by simp only; omega, by simp only; omega, by simp only; omega, by simp only; omega, by simp only; omega⟩
  · rw [q4 _ s1, p4]
  · rw [q4 _ s2, p5 _ s2 (by omega)]
theorem boot_fine {m t N v : Nat} {I : ByteArray} {k : Sq} (h : BI T m t N) (ht : t + 1133 < 1000000) (hN : N < 254) (hk : stQ T.C.now = k) (hok : SqOK k) (hc : 0 ≤ k.cf) (htr : 0 ≤ k.tr) (hl : 0 < k.lf) (hs : sv T k.tr = (v, I, 0)) (hv : k.fl ≤ v) :
    ∃ T', boR T = ((v, I, 0), T') ∧ BI T' m (t + 133) (N + 1) ∧ stQ T'.C.now = { k with lf := k.lf - 1 } ∧ (∀ s', Sl.slOK s' = true → sv T' s' = sv T s') ∧ (T'.on = true ∧ T'.slot = k.tr ∧ T'.ver = v) ∧ Lay T T' := by
  obtain ⟨o1, o2, o3, o4, o5, o6, o7, o8, o9, o10⟩ := hok
  obtain ⟨T2, q1, q2, q3, q4, q5, q6, q7, q8, q9, q10⟩ := kp_good (k := { k with lf := k.lf - 1 }) h.stop ht hN
  have hf : fineB k (v, I, 0) = true := by
    unfold fineB
    simp only [Bool.and_eq_true, decide_eq_true_eq]
    exact ⟨⟨hl, trivial⟩, hv⟩
  have hs' : Sl.srT (stopT T).bs (stopT T).r k.tr (stopT T).d = (v, I, 0) := hs
  refine ⟨runT k.tr v T2, ?_, q2.run, ?_, fun s' h1 => q4 s' h1, ⟨rfl, rfl, rfl⟩, ⟨q8, q9⟩⟩
  · unfold boR; rw [hk, if_neg (by omega), if_pos htr]; unfold tryR
    simp only [hs', nxQ, hf, if_true, q1]
    rfl
  · show stQ T2.C.now = _
    rw [q3]; exact stQ_kv ⟨by simp only; omega, by simp only; omega, by simp only; omega, by simp only; omega, by simp only; omega, by simp only; omega, by simp only; omega, by simp only; omega, by simp only; omega, by simp only; omega⟩
theorem boot_spent {m t N v : Nat} {I : ByteArray} {k : Sq} (h : BI T m t N) (ht : t + 1133 < 1000000) (hN : N < 254) (hk : stQ T.C.now = k) (hok : SqOK k) (hc : 0 ≤ k.cf) (htr : 0 ≤ k.tr) (hl : k.lf = 0) (hs : sv T k.cf = (v, I, 0)) (hv : k.fl ≤ v) :
    ∃ T', boR T = ((v, I, 0), T') ∧ BI T' m (t + 133) (N + 1) ∧ stQ T'.C.now = sdQ k ∧ (∀ s', Sl.slOK s' = true → sv T' s' = sv T s') ∧ (T'.on = true ∧ T'.slot = k.cf ∧ T'.ver = v) ∧ Lay T T' := by
  obtain ⟨o1, o2, o3, o4, o5, o6, o7, o8, o9, o10⟩ := hok
  have hcs : k.cf = 0 ∨ k.cf = 1 := by omega
  have s2 : Sl.slOK k.cf = true := by rcases hcs with e | e <;> rw [e] <;> rfl
  obtain ⟨T2, q1, q2, q3, q4, q5, q6, q7, q8, q9, q10⟩ := kp_good (k := sdQ k) h.stop ht hN
  have hf : ∀ p, fineB k p = false := fun p => by
    unfold fineB
    rw [hl]; rfl
  have hs' : Sl.srT T2.bs T2.r k.cf T2.d = (v, I, 0) := (q4 _ s2).trans hs
  refine ⟨runT k.cf v T2, ?_, q2.run, ?_, fun s' h1 => q4 s' h1, ⟨rfl, rfl, rfl⟩, ⟨q8, q9⟩⟩
  · unfold boR; rw [hk, if_neg (by omega), if_pos htr]; unfold tryR
    simp only [nxQ, hf, q1, Bool.false_eq_true, if_false, ne_eq, not_true_eq_false]
    unfold finR
    simp only [hs']
    rw [if_neg (by simp), if_neg (by omega)]
  · show stQ T2.C.now = _
    rw [q3]; exact stQ_kv (k := sdQ k) ⟨o1, o2, by simp only [sdQ]; omega, by simp only [sdQ]; omega, by simp only [sdQ]; omega, by simp only [sdQ]; omega, by simp only [sdQ]; omega, .inr rfl, o9, o10⟩
end
section
/- Boot: Open; the document's example. -/
set_option linter.unusedVariables false
set_option linter.unusedSimpArgs false
set_option maxRecDepth 100000
open Go.Proofs
variable {H : Hp} {n : Nat} {x : Nat → Option SO} {i q s D M W a b c : Nat} {d d' : Fd} {C C' : Ce} {T : Bt}
theorem instS {ver tries : Int} {I : ByteArray} {m t : Nat} (h : BtAt H T i q s D a b c M W) (hK : BtK T m t) (ht : t + 1266 < 1000000) (hnum : T.C.num + 1 < 1000000000000) (hx : NoX H.x) (hn : n + 5 ≤ 1000) {e : Int} {T' : Bt} (hq : inR ver I tries T = (e, T')) : SpecAt Tryz.prog nBInstall [.ptr i 0, .v (.int .i64 ver), .v (.string I), .v (.int .i64 tries)] H n (.v (.int .i64 e)) ⟨btF T' i q s D a b c M W n H.l, H.x⟩ (n + 5) := by
  have e1 : (inR ver I tries T).1 = e := by rw [hq]
  have e2 : (inR ver I tries T).2 = T' := by rw [hq]
  subst e1; subst e2
  have := lift (n := n) (okT.spec tBInstall (instW (x := H.x) (T := T) (ver := ver) (I := I) (tries := tries) hK ht hnum hx)) (btP i q s D a b c M W) rfl rfl rfl (by omega) rfl rfl h.sub h.ap h.nz (by omega)
  exact this
def opnT (B h r N L : Nat) (es : List (Value × Value)) (d : Fd) : Bt := ⟨⟨B, h, N, L, false, es, es⟩, d, B + 2 * h, r, false, 0, 0⟩
def opnL (T : Bt) : List (Nat × Option SO) := devL T.d 1 2 3 4 [(5, some ⟨true, btB T 6 7⟩), (6, some ⟨true, cellB T.C 1 8 9⟩), (7, some ⟨true, Sl.slB 1 T.bs T.r⟩), (8, some ⟨true, .mp (.map T.C.now)⟩), (9, some ⟨true, .mp (.map T.C.was)⟩)]
theorem bopenW {B h r N L : Nat} {es es' : List (Value × Value)} (hB : B ≤ 4096) (hh : 2 ≤ h ∧ h ≤ 129) (hd : d.ok) (ho : d.off = false) (hP : Sl.opP d.seen.length ((B + 2 * h : Nat) : Int) r) (g : Reg d.seen B h N L es) (he : srtE es = es') :
    fnVC CT mBOpen [.ptr 1 0, .v (.int .i64 B), .v (.int .i64 h), .v (.int .i64 r)] ⟨devL d 1 2 3 4 [], x⟩ 5 fun v H' n' => Sub 5 ⟨[(0, .tup [.ptr 5 0, .v (.int .i64 0)])], ⟨opnL (opnT B h r N L es' d), x⟩, 10⟩ ⟨[(0, v)], H', n'⟩ := by
  have hP' := hP
  unfold Sl.opP at hP'
  have w1 : IntKind.i64.wrap (2 * (h : Int)) = ((2 * h : Nat) : Int) := by rw [wrap_i64 (by omega) (by omega)]; omega
  have w2 : IntKind.i64.wrap ((B : Int) + ((2 * h : Nat) : Int)) = ((B + 2 * h : Nat) : Int) := by rw [wrap_i64 (by omega) (by omega)]; omega
  unfold mBOpen devL
  simp -implicitDefEqProofs only [↓fnVC, initTm]
  simp -implicitDefEqProofs only [go_sem]
  refine at_call tCOpen (openR (i := 1) (a := 2) (b := 3) (c := 4) (d := d) ⟨by rfl, by rfl, by rfl, by rfl, by decide⟩ hB hh hd ho (by omega) g he (by decide)) ?_
  simp -implicitDefEqProofs only [go_sem, w1, w2]
  refine at_call tSOpen (Sl.openS (i := 1) (a := 2) (b := 3) (c := 4) (d := d) ⟨by rfl, by rfl, by rfl, by rfl, by decide⟩ hd.most hP ho (by decide)) ?_
  rw [devL_eq]
  simp -implicitDefEqProofs only [go_sem, splice_zero, splice_succ, List.drop_succ_cons, List.drop_zero, List.drop_nil, List.cons_append, List.nil_append, List.take_succ_cons, List.take_zero, List.length_cons, List.length_nil]
  unfold opnL opnT btB devL
  refine sub_mk [(5, 9), (6, 5), (7, 8), (8, 6), (9, 7)] rfl rfl rfl ?_
  simp only [tmSub, hpSub, objSub, eqTm, eqHp, rn, lk, SV.ren, SV.renC, SV.renB, SV.renA, ren_ints, ren_strs, ren_pl, ren_svs, List.map_cons, List.map_nil, forall_const, Nat.reduceLT, true_and, and_true, ob_some, get_mk, lk_cons, ↓reduceIte, Nat.reduceEqDiff, Nat.reduceAdd, implies_true, reduceCtorEq]
  repeat' (first | rfl | apply And.intro)
theorem bopenS {B h r N L : Nat} {es es' : List (Value × Value)} (hD : DevAt H d i a b c) (hB : B ≤ 4096) (hh : 2 ≤ h ∧ h ≤ 129) (hd : d.ok) (ho : d.off = false) (hP : Sl.opP d.seen.length ((B + 2 * h : Nat) : Int) r) (g : Reg d.seen B h N L es) (he : srtE es = es') (hn : n + 5 ≤ 1000) :
    SpecAt Tryz.prog nBOpen [.ptr i 0, .v (.int .i64 B), .v (.int .i64 h), .v (.int .i64 r)] H n (.tup [.ptr n 0, .v (.int .i64 0)]) ⟨devL d i a b c ((n, some ⟨true, btB (opnT B h r N L es' d) (n + 1) (n + 2)⟩) :: (n + 1, some ⟨true, cellB (opnT B h r N L es' d).C i (n + 3) (n + 4)⟩) :: (n + 2, some ⟨true, Sl.slB i (opnT B h r N L es' d).bs r⟩) :: (n + 3, some ⟨true, .mp (.map es')⟩) :: (n + 4, some ⟨true, .mp (.map es')⟩) :: H.l), H.x⟩ (n + 5) := by
  obtain ⟨hi, ha, hb, hc, ⟨p1, p2, p3, p4⟩, ⟨q1, q2, q3, q4⟩, n1, n2, n3, n4, n5, n6⟩ := hD
  have := lift (n := n) (okT.spec tBOpen (bopenW (x := H.x) hB hh hd ho hP g he)) [(1, i), (2, a), (3, b), (4, c)] rfl rfl rfl (by omega) rfl rfl
    ⟨sub_wr rfl p1 q1 hi rfl, sub_wr rfl p2 q2 ha rfl, sub_wr rfl p3 q3 hb rfl, sub_wr rfl p4 q4 hc rfl, trivial⟩
    (by simp [devL, apartB, apart1, rn, lk, n1, n2, n3, n4, n5, n6, Ne.symm n1, Ne.symm n2, Ne.symm n3, Ne.symm n4, Ne.symm n5, Ne.symm n6]) (by simp [devL, wrNZ, rn, lk]; omega) (by omega)
  exact this
end
section
/- Boot: the document's example. -/
set_option linter.unusedVariables false
set_option linter.unusedSimpArgs false
set_option maxRecDepth 100000
open Go.Proofs
variable {H : Hp} {n : Nat} {x : Nat → Option SO} {i q s D M W a b c : Nat} {d d' : Fd} {C C' : Ce} {T : Bt}
theorem stateS' {k : Sq} (h : BtAt H T i q s D a b c M W) (hE : Es T.C.now) (hx : NoX H.x) (hk : stQ T.C.now = k) : SpecAt Tryz.prog nBState [.ptr i 0] H n (sqV k) H n := by subst hk; exact stateS h hE hx
instance {k : Sq} : Decidable (SqOK k) := by unfold SqOK; infer_instance
theorem itE_ok {k : Sq} {v r : Nat} {I : ByteArray} {tries : Int} (h1 : 0 ≤ k.cf) (h2 : 1 ≤ tries ∧ tries ≤ 8) (h4 : k.fl < v) (h5 : v < 256) (h6 : 1 ≤ I.size ∧ I.size ≤ 8192 ∧ I.size ≤ r * 64) : itE k v I tries r = 0 := by
  unfold itE
  rw [if_neg (by omega), if_neg (by omega), if_neg (by omega), if_neg (by omega), if_neg (by rw [seq_nemp (by omega)]; simp; omega), if_neg (by omega)]
theorem BI.new {m h r : Nat} (hm : m ≤ 4096) (hh : 2 ≤ h ∧ h ≤ 129) (hr : 1 ≤ r ∧ r ≤ 128) (hl : 2 * h + 2 * (1 + r) ≤ m) : BI (opnT 0 h r 0 1 [] (newD m)) m 0 0 := by
  have g : GoodP true m 0 (List.replicate m (zi 64)) [] (newD m) := goodNew
  have e1 : 0 + 2 * h ≤ 4096 := by omega
  have e2 : (0 + 2 * h) + 2 * (1 + r) ≤ m := by omega
  have e3 : 0 + 2 * h ≤ m := by omega
  refine ⟨⟨0, g⟩, Reg.new e3 (show 1 ≤ h by omega), rfl, ⟨⟨Es.nil, Es.nil, hh, Nat.zero_le _, Nat.le_refl _, Nat.zero_lt_succ _⟩, Pl.new hm, by decide, e1, hr.2, e2, e3⟩, rfl, Nat.le_refl _, srtE_nil⟩
theorem opn_P {m h r : Nat} (hr : 1 ≤ r ∧ r ≤ 128) (hl : 2 * h + 2 * (1 + r) ≤ m) : Sl.opP (newD m).seen.length ((0 + 2 * h : Nat) : Int) r := by
  have : (newD m).seen.length = m := by simp [newD]
  unfold Sl.opP; rw [this]; omega
theorem bnwS {m h r : Nat} (hD : DevAt H (newD m) i a b c) (hm : m ≤ 4096) (hh : 2 ≤ h ∧ h ≤ 129) (hr : 1 ≤ r ∧ r ≤ 128) (hl : 2 * h + 2 * (1 + r) ≤ m) (hn : n + 5 ≤ 1000) {T : Bt} (hT : opnT 0 h r 0 1 [] (newD m) = T) :
    SpecAt Tryz.prog nBOpen [.ptr i 0, .v (.int .i64 0), .v (.int .i64 h), .v (.int .i64 r)] H n (.tup [.ptr n 0, .v (.int .i64 0)]) ⟨devL T.d i a b c ((n, some ⟨true, btB T (n + 1) (n + 2)⟩) :: (n + 1, some ⟨true, cellB T.C i (n + 3) (n + 4)⟩) :: (n + 2, some ⟨true, Sl.slB i T.bs T.r⟩) :: (n + 3, some ⟨true, .mp (.map T.C.now)⟩) :: (n + 4, some ⟨true, .mp (.map T.C.was)⟩) :: H.l), H.x⟩ (n + 5) := by
  subst hT
  exact bopenS (B := 0) (N := 0) (L := 1) hD (by decide) hh (newD_ok hm) rfl (opn_P hr hl) (Reg.new (by omega) (by omega)) srtE_nil hn
set_option maxHeartbeats 8000000 in
theorem bootsW (hx : NoX x) : fnVC CT mboots [] ⟨[], x⟩ 1 fun v H' n' => Sub 1 ⟨[(0, .v (.bool true))], ⟨[], x⟩, 1⟩ ⟨[(0, v)], H', n'⟩ := by
  unfold mboots
  simp -implicitDefEqProofs only [↓fnVC, initTm]
  simp -implicitDefEqProofs only [go_sem]
  refine at_call tFNew (nwD (k := 30) (by decide) (by decide) (by decide)) ?_
  unfold devL
  simp -implicitDefEqProofs only [go_sem]
  have hB := BI.new (m := 30) (h := 4) (r := 4) (by decide) (by decide) (by decide) (by decide)
  have hk0 : stQ (opnT 0 4 4 0 1 [] (newD 30)).C.now = nthQ := stQ_nil
  have ho0 : (opnT 0 4 4 0 1 [] (newD 30)).on = false := rfl
  have hr0 : (opnT 0 4 4 0 1 [] (newD 30)).r = 4 := rfl
  obtain ⟨T, hT⟩ : ∃ T, opnT 0 4 4 0 1 [] (newD 30) = T := ⟨_, rfl⟩
  rw [hT] at hB hk0 ho0 hr0
  refine at_call tBOpen (bnwS (i := 1) (a := 2) (b := 3) (c := 4) (m := 30) (h := 4) (r := 4) ⟨by rfl, by rfl, by rfl, by rfl, by decide⟩ (by decide) (by decide) (by decide) (by decide) (by decide) hT) ?_
  unfold devL
  simp -implicitDefEqProofs only [go_sem]
  obtain ⟨T1, p1, b1, k1, v1, u1, l1⟩ := prov_good (v := 1) (I := ⟨#[97]⟩) hB (by decide) (by decide) (by rw [hk0]; decide) (by rw [hr0]; exact ⟨by decide, by decide, by decide, by decide⟩)
  refine at_call tBProvision (provS (T := T) (ver := 1) (I := ⟨#[97]⟩) (i := 5) (q := 6) (s := 7) (D := 1) (a := 2) (b := 3) (c := 4) (M := 8) (W := 9) ⟨by rfl, by rfl, by rfl, by rfl, by rfl, by rfl, by rfl, by rfl, by rfl, by decide, by rfl, by rfl⟩ hB.K (by decide) hx (by decide) p1) ?_
  rw [btF_eq]
  simp -implicitDefEqProofs only [go_sem]
  have hr1 : T1.r = 4 := by rw [l1.r, hr0]
  obtain ⟨T2, p2, b2, k2, v2, w2, u2, l2⟩ := inst_good (v := 2) (I := ⟨#[98]⟩) (tries := 2) b1 (by decide) (by decide) k1 (by decide) (by decide) (by decide) (itE_ok (by decide) (by decide) (by decide) (by decide) (by rw [hr1]; decide)) (if_neg fun h => by rw [u1.1, ho0] at h; cases h.1) (by rw [hr1]; exact ⟨by decide, by decide, by decide, by decide⟩) (by decide)
  refine at_call tBInstall (instS (T := T1) (ver := 2) (I := ⟨#[98]⟩) (tries := 2) (i := 5) (q := 6) (s := 7) (D := 1) (a := 10) (b := 11) (c := 12) (M := 13) (W := 14) ⟨by rfl, by rfl, by rfl, by rfl, by rfl, by rfl, by rfl, by rfl, by rfl, by decide, by rfl, by rfl⟩ b1.K (by decide) (by have := b1.num; omega) hx (by decide) p2) ?_
  rw [btF_eq]
  simp -implicitDefEqProofs only [go_sem]
  have k2' : stQ T2.C.now = ⟨0, 1, 2, 1⟩ := k2
  have v2' : sv T2 1 = (2, ⟨#[98]⟩, 0) := v2
  have w2' : sv T2 0 = (1, ⟨#[97]⟩, 0) := w2.trans v1
  obtain ⟨T3, p3, b3, k3, v3, u3, l3⟩ := boot_fine (v := 2) (I := ⟨#[98]⟩) b2 (by decide) (by decide) k2' (by decide) (by decide) (by decide) (by decide) v2' (by decide)
  have k3' : stQ T3.C.now = ⟨0, 1, 1, 1⟩ := k3
  obtain ⟨T4, p4, b4, k4, v4, u4, l4⟩ := boot_fine (v := 2) (I := ⟨#[98]⟩) b3 (by decide) (by decide) k3' (by decide) (by decide) (by decide) (by decide) ((v3 1 rfl).trans v2') (by decide)
  have k4' : stQ T4.C.now = ⟨0, 1, 0, 1⟩ := k4
  obtain ⟨T5, p5, b5, k5, v5, u5, l5⟩ := boot_spent (v := 1) (I := ⟨#[97]⟩) b4 (by decide) (by decide) k4' (by decide) (by decide) (by decide) rfl ((v4 0 rfl).trans ((v3 0 rfl).trans w2')) (by decide)
  have k5' : stQ T5.C.now = ⟨0, -1, 0, 1⟩ := k5
  have q1 : seq ⟨#[98]⟩ ⟨#[98]⟩ = true := seq_self _
  have q2 : seq ⟨#[97]⟩ ⟨#[97]⟩ = true := seq_self _
  have z3 : ((3 : Nat) : Int) = 3 := rfl
  have e0 : IntKind.i64.wrap (0 + 1) = 1 := rfl
  have e1 : IntKind.i64.wrap (1 + 1) = 2 := rfl
  have e2 : IntKind.i64.wrap (2 + 1) = 3 := rfl
  refine loop_roll 4 ?_
  rw [LoopU_succ]
  simp -implicitDefEqProofs only [go_sem, z3, q1, q2, List.getD_cons_zero, List.getD_cons_succ]
  refine at_call tBBoot (bootS (T := T2) (i := 5) (q := 6) (s := 7) (D := 1) (a := 15) (b := 16) (c := 17) (M := 18) (W := 19) ⟨by rfl, by rfl, by rfl, by rfl, by rfl, by rfl, by rfl, by rfl, by rfl, by decide, by rfl, by rfl⟩ b2.K (by decide) (by have := b2.num; omega) hx (by decide) p3) ?_
  rw [btF_eq]
  unfold Sl.rV
  simp -implicitDefEqProofs only [go_sem, z3, q1, q2, e0, e1, e2]
  rw [LoopU_succ]
  simp -implicitDefEqProofs only [go_sem, z3, q1, q2, List.getD_cons_zero, List.getD_cons_succ]
  refine at_call tBBoot (bootS (T := T3) (i := 5) (q := 6) (s := 7) (D := 1) (a := 21) (b := 22) (c := 23) (M := 24) (W := 25) ⟨by rfl, by rfl, by rfl, by rfl, by rfl, by rfl, by rfl, by rfl, by rfl, by decide, by rfl, by rfl⟩ b3.K (by decide) (by have := b3.num; omega) hx (by decide) p4) ?_
  rw [btF_eq]
  unfold Sl.rV
  simp -implicitDefEqProofs only [go_sem, z3, q1, q2, e0, e1, e2]
  rw [LoopU_succ]
  simp -implicitDefEqProofs only [go_sem, z3, q1, q2, List.getD_cons_zero, List.getD_cons_succ]
  refine at_call tBBoot (bootS (T := T4) (i := 5) (q := 6) (s := 7) (D := 1) (a := 26) (b := 27) (c := 28) (M := 29) (W := 30) ⟨by rfl, by rfl, by rfl, by rfl, by rfl, by rfl, by rfl, by rfl, by rfl, by decide, by rfl, by rfl⟩ b4.K (by decide) (by have := b4.num; omega) hx (by decide) p5) ?_
  rw [btF_eq]
  unfold Sl.rV
  simp -implicitDefEqProofs only [go_sem, z3, q1, q2, e0, e1, e2]
  rw [LoopU_succ]
  simp -implicitDefEqProofs only [go_sem, z3, q1, q2, e0, e1, e2]
  refine at_call tBState (stateS' (T := T5) (i := 5) (q := 6) (s := 7) (D := 1) (a := 31) (b := 32) (c := 33) (M := 34) (W := 35) ⟨by rfl, by rfl, by rfl, by rfl, by rfl, by rfl, by rfl, by rfl, by rfl, by decide, by rfl, by rfl⟩ b5.K.C.now hx k5') ?_
  unfold sqV sqL
  simp -implicitDefEqProofs only [go_sem, splice_zero, splice_succ, List.drop_succ_cons, List.drop_zero, List.drop_nil, List.cons_append, List.nil_append, List.take_succ_cons, List.take_zero, List.length_cons, List.length_nil]
  refine sub_mk [] rfl rfl rfl ?_
  simp only [tmSub, hpSub, objSub, eqTm, eqHp, rn, lk, SV.ren, SV.renC, SV.renB, SV.renA, ren_ints, ren_strs, ren_pl, ren_svs, List.map_cons, List.map_nil, forall_const, Nat.reduceLT, true_and, and_true, ob_some, get_mk, lk_cons, ↓reduceIte, Nat.reduceEqDiff, Nat.reduceAdd, implies_true, reduceCtorEq]
  repeat' (first | rfl | apply And.intro)
theorem bootsS (hx : NoX H.x) : SpecAt Tryz.prog nboots [] H n (.v (.bool true)) H n := lift_pure (okT.spec tboots (bootsW hx)) rfl
end
section
/- Boot: a nil region. -/
set_option linter.unusedVariables false
set_option linter.unusedSimpArgs false
set_option maxRecDepth 100000
open Go.Proofs
variable {H : Hp} {n : Nat} {x : Nat → Option SO} {i q s D M W a b c : Nat} {d d' : Fd} {C C' : Ce} {T : Bt}
theorem stateN (hx : NoX H.x) : SpecAt Tryz.prog nBState [.v (.pointer none)] H n (sqV nthQ) H n := lift_pure (okT.spec tBState (by
  have hx' : H.x 4001003 = some ⟨false, .sv (sqL nthQ)⟩ := hx
  unfold mBState
  simp -implicitDefEqProofs only [↓fnVC, initTm]
  simp -implicitDefEqProofs only [go_sem, hx', sqL, nthQ, splice_zero, splice_succ, List.drop_succ_cons, List.drop_zero, List.drop_nil, List.cons_append, List.nil_append, List.take_succ_cons, List.take_zero, List.length_cons, List.length_nil]
  unfold sqV sqL
  refine sub_mk [] rfl rfl rfl ?_
  simp only [tmSub, hpSub, objSub, eqTm, eqHp, rn, lk, SV.ren, SV.renC, SV.renB, SV.renA, ren_ints, ren_strs, ren_pl, ren_svs, List.map_cons, List.map_nil, forall_const, Nat.reduceLT, true_and, and_true, ob_some, get_mk, lk_cons, ↓reduceIte, Nat.reduceEqDiff, Nat.reduceAdd, implies_true, reduceCtorEq])) rfl
theorem bootN (hx : NoX H.x) : SpecAt Tryz.prog nBBoot [.v (.pointer none)] H n (.tup [.v (.int .i64 0), .v (.string ⟨#[]⟩), .v (.int .i64 5)]) H n := lift_pure (okT.spec tBBoot (by
  have hx' : H.x 4001003 = some ⟨false, .sv (sqL nthQ)⟩ := hx
  unfold mBBoot
  simp -implicitDefEqProofs only [↓fnVC, initTm]
  simp -implicitDefEqProofs only [go_sem]
  refine at_call tBState (stateN (by exact hx)) ?_
  unfold sqV sqL nthQ
  simp -implicitDefEqProofs only [go_sem, splice_zero, splice_succ, List.drop_succ_cons, List.drop_zero, List.drop_nil, List.cons_append, List.nil_append, List.take_succ_cons, List.take_zero, List.length_cons, List.length_nil]
  refine sub_mk [] rfl rfl rfl ?_
  simp only [tmSub, hpSub, objSub, eqTm, eqHp, rn, lk, SV.ren, SV.renC, SV.renB, SV.renA, ren_ints, ren_strs, ren_pl, ren_svs, List.map_cons, List.map_nil, forall_const, Nat.reduceLT, true_and, and_true, ob_some, get_mk, lk_cons, ↓reduceIte, Nat.reduceEqDiff, Nat.reduceAdd, implies_true, reduceCtorEq])) rfl
theorem runN : SpecAt Tryz.prog nBRunning [.v (.pointer none)] H n (.tup [.v (.int .i64 0), .v (.int .i64 0), .v (.bool false)]) H n := okT.pure tBRunning (by
  unfold mBRunning
  simp -implicitDefEqProofs only [↓fnVC, initTm]
  simp -implicitDefEqProofs only [go_sem])
theorem provN {v : Int} {I : ByteArray} : SpecAt Tryz.prog nBProvision [.v (.pointer none), .v (.int .i64 v), .v (.string I)] H n (.v (.int .i64 1)) H n := okT.pure tBProvision (by
  unfold mBProvision
  simp -implicitDefEqProofs only [↓fnVC, initTm]
  simp -implicitDefEqProofs only [go_sem])
theorem instN {v t : Int} {I : ByteArray} (hx : NoX H.x) : SpecAt Tryz.prog nBInstall [.v (.pointer none), .v (.int .i64 v), .v (.string I), .v (.int .i64 t)] H n (.v (.int .i64 1)) H n := lift_pure (okT.spec tBInstall (by
  have hx' : H.x 4001003 = some ⟨false, .sv (sqL nthQ)⟩ := hx
  unfold mBInstall
  simp -implicitDefEqProofs only [↓fnVC, initTm]
  simp -implicitDefEqProofs only [go_sem]
  refine at_call tBState (stateN (by exact hx)) ?_
  unfold sqV sqL nthQ
  simp -implicitDefEqProofs only [go_sem, splice_zero, splice_succ, List.drop_succ_cons, List.drop_zero, List.drop_nil, List.cons_append, List.nil_append, List.take_succ_cons, List.take_zero, List.length_cons, List.length_nil]
  refine sub_mk [] rfl rfl rfl ?_
  simp only [tmSub, hpSub, objSub, eqTm, eqHp, rn, lk, SV.ren, SV.renC, SV.renB, SV.renA, ren_ints, ren_strs, ren_pl, ren_svs, List.map_cons, List.map_nil, forall_const, Nat.reduceLT, true_and, and_true, ob_some, get_mk, lk_cons, ↓reduceIte, Nat.reduceEqDiff, Nat.reduceAdd, implies_true, reduceCtorEq])) rfl
theorem confN (hx : NoX H.x) : SpecAt Tryz.prog nBConfirm [.v (.pointer none)] H n (.v (.int .i64 5)) H n := lift_pure (okT.spec tBConfirm (by
  have hx' : H.x 4001003 = some ⟨false, .sv (sqL nthQ)⟩ := hx
  unfold mBConfirm
  simp -implicitDefEqProofs only [↓fnVC, initTm]
  simp -implicitDefEqProofs only [go_sem]
  refine at_call tBRunning runN ?_
  simp -implicitDefEqProofs only [go_sem]
  refine at_call tBState (stateN (by exact hx)) ?_
  unfold sqV sqL nthQ
  simp -implicitDefEqProofs only [go_sem, splice_zero, splice_succ, List.drop_succ_cons, List.drop_zero, List.drop_nil, List.cons_append, List.nil_append, List.take_succ_cons, List.take_zero, List.length_cons, List.length_nil]
  refine sub_mk [] rfl rfl rfl ?_
  simp only [tmSub, hpSub, objSub, eqTm, eqHp, rn, lk, SV.ren, SV.renC, SV.renB, SV.renA, ren_ints, ren_strs, ren_pl, ren_svs, List.map_cons, List.map_nil, forall_const, Nat.reduceLT, true_and, and_true, ob_some, get_mk, lk_cons, ↓reduceIte, Nat.reduceEqDiff, Nat.reduceAdd, implies_true, reduceCtorEq])) rfl
theorem bopenNil {B h r : Int} : SpecAt Tryz.prog nBOpen [.v (.pointer none), .v (.int .i64 B), .v (.int .i64 h), .v (.int .i64 r)] H n (.tup [.v (.pointer none), .v (.int .i64 1)]) H n := okT.pure tBOpen (by
  unfold mBOpen
  simp -implicitDefEqProofs only [↓fnVC, initTm]
  simp -implicitDefEqProofs only [go_sem]
  refine at_call tCOpen openNil ?_
  simp -implicitDefEqProofs only [go_sem])
theorem bopenE {B h r : Int} (hD : DevAt H d i a b c) (hd : d.ok) (hN : noReg d.seen.length B h) : SpecAt Tryz.prog nBOpen [.ptr i 0, .v (.int .i64 B), .v (.int .i64 h), .v (.int .i64 r)] H n (.tup [.v (.pointer none), .v (.int .i64 1)]) H n := okT.pure tBOpen (by
  unfold mBOpen
  simp -implicitDefEqProofs only [↓fnVC, initTm]
  simp -implicitDefEqProofs only [go_sem]
  refine at_call tCOpen (openE hD hd hN) ?_
  simp -implicitDefEqProofs only [go_sem])
end
section
/- Cells: the document's opening, where no copy is. -/
set_option linter.unusedVariables false
set_option linter.unusedSimpArgs false
set_option maxRecDepth 100000
open Go.Proofs
variable {H : Hp} {n : Nat} {x : Nat → Option SO} {d d' : Fd} {i a b c : Nat} {u1 u2 u3 : Bool} {C C' : Ce}
theorem rallW (hd : d.ok) (hsn : Sn d) : fnVC C3 mrFAll [.ptr 1 0] (rp3s d x) 4 fun v H' n' => Sub 4 ⟨[(0, .sl 4 0 d.seen.length 1)], ⟨[(1, some ⟨false, refB d 2 3⟩), (2, some ⟨false, strB d.safe⟩), (3, some ⟨false, .pl (qrow d.pend)⟩), (4, some ⟨true, strB d.seen⟩)], x⟩, 5⟩ ⟨[(0, v)], H', n'⟩ := by
  have q1 := crl_all64 hd
  unfold rp3s mrFAll
  simp -implicitDefEqProofs only [↓fnVC, initTm]
  simp -implicitDefEqProofs only [go_sem]
  refine at_call trFsettled (seS9 (i := 1) (a := 2) (b := 3) (d := d) (r := 4) (o := 0) (m := 1) (row := [64]) (ks := [64]) ⟨rfl, rfl, rfl, by decide⟩ hd (Nat.le_refl _) rfl (by decide) (by decide) rfl) ?_
  rw [q1, ← hsn]
  simp -implicitDefEqProofs only [go_sem]
  refine sub_mk [(4, 5)] rfl rfl rfl ?_
  simp only [tmSub, hpSub, objSub, eqTm, eqHp, rn, lk, SV.ren, SV.renC, SV.renB, SV.renA, ren_ints, ren_strs, ren_pl, ren_svs, SV.v.injEq, Value.int.injEq, Body.ints.injEq, SV.ptr.injEq, SV.sl.injEq, List.map_cons, List.map_nil, forall_const, Nat.reduceLT, imp_self, true_and, and_true, and_self, ob_some, get_mk, lk_cons, ↓reduceIte, Nat.reduceEqDiff, Nat.reduceAdd, false_implies, implies_true, reduceCtorEq]
  repeat' (first | rfl | apply And.intro)
theorem ralG (h : RefAt H d i a b u1 u2 u3) (hd : d.ok) (hs : Sn d) (hn : n < 1000) : SpecAt Tryz.prog nrFAll [.ptr i 0] H n (.sl n 0 d.seen.length 1) ⟨(n, some ⟨true, strB d.seen⟩) :: H.l, H.x⟩ (n + 1) := by
  obtain ⟨hi, ha, hb, ⟨p1, p2, p3⟩, ⟨q1, q2, q3⟩, n1, n2, n3⟩ := h
  have := lift (n := n) (ok3.spec trFAll (rallW (x := H.x) hd hs)) [(1, i), (2, a), (3, b)] rfl rfl rfl (by omega) rfl rfl
    ⟨sub_ro rfl p1 hi rfl, sub_ro rfl p2 ha rfl, sub_ro rfl p3 hb rfl, trivial⟩ (by simp [apartB, apart1, rn, lk]) (by simp [wrNZ, rn, lk]; try omega) (by omega)
  exact this
def rcB (B h nu la : Int) (D : Nat) (wr : SV) : Body := .sv [.ptr D 0, .v (.int .i64 B), .v (.int .i64 h), .sl 0 0 0 2, wr, .v (.int .i64 nu), .v (.int .i64 la), .v (.bool false)]
def ropH (B h : Int) (d : Fd) (x : Nat → Option SO) : Hp := ⟨[(1, some ⟨false, rcB B h 0 1 2 (.sl 0 0 0 2)⟩), (2, some ⟨false, refB d 3 4⟩), (3, some ⟨false, strB d.safe⟩), (4, some ⟨false, .pl (qrow d.pend)⟩)], x⟩
theorem rcopiedN {B h k : Nat} (hB : B ≤ 4096) (hh : 2 ≤ h ∧ h ≤ 4096) (hk : k ≤ 1) (hd : d.ok) (hs : Sn d) (hl : B + k * h + h ≤ d.seen.length) (hN : NoHd (secT d (B + k * h : Nat))) :
    fnVC CT mrcopied [.ptr 1 0, .v (.int .i64 k)] (ropH B h d x) 5 fun v H' n' => Sub 5 ⟨[(0, .tup [.v (.int .i64 0), .sl 0 0 0 2])], ⟨[], x⟩, 5⟩ ⟨[(0, v)], H', n'⟩ := by
  unfold mrcopied ropH rcB
  simp -implicitDefEqProofs only [↓fnVC, initTm]
  simp -implicitDefEqProofs only [go_sem]
  refine at_call trFAll (ralG (i := 2) (a := 3) (b := 4) (d := d) (u1 := false) (u2 := false) (u3 := false) ⟨by rfl, by rfl, by rfl, by decide⟩ hd hs (by decide)) ?_
  have hm : k * h ≤ 4096 := by
    calc k * h ≤ 1 * h := Nat.mul_le_mul_right _ hk
      _ ≤ 4096 := by omega
  have w5 : IntKind.i64.wrap ((k : Int) * (h : Int)) = ((k * h : Nat) : Int) := by
    rw [← Int.natCast_mul]; exact wrap_i64 (by omega) (by omega)
  have w6 : IntKind.i64.wrap ((B : Int) + ((k * h : Nat) : Int)) = ((B + k * h : Nat) : Int) := by
    rw [wrap_i64 (by omega) (by omega)]; omega
  unfold strB
  simp -implicitDefEqProofs only [go_sem, w5, w6]
  have hsz : (secT d (B + k * h : Nat)).size = 64 := secT_size hd (by omega) (by omega)
  have hg : (List.map tx d.seen).getD (B + k * h) ByteArray.empty = secT d (B + k * h : Nat) := by
    unfold secT
    rw [Int.toNat_natCast, List.getD_eq_getElem?_getD, List.getElem?_map, List.getElem?_eq_getElem (by omega), List.getD_eq_getElem?_getD, List.getElem?_eq_getElem (by omega)]
    rfl
  refine ⟨⟨by omega, by omega⟩, by rw [List.length_map]; omega, ?_⟩
  rw [hg]
  generalize secT d (B + k * h : Nat) = s at hN hsz
  obtain ⟨e1, e2, hnn, l1, l2⟩ := hN
  refine at_call trRead (rreadS0 (s := s) (by decide)) ?_
  simp -implicitDefEqProofs only [go_sem]
  have f1 := rd_at (s := s) (k := 0) (w := 8) (by omega)
  have f2 := rd_at (s := s) (k := 8) (w := 4) (by omega)
  have f3 := rd_at (s := s) (k := 12) (w := 8) (by omega)
  rw [ext_all] at f1
  refine at_call trRNumber (reightSp (i := 6) (s := s) (e := 0) (by rfl) (by decide)) ?_
  rw [e1, f1.1, f1.2.1, f1.2.2]
  simp -implicitDefEqProofs only [go_sem]
  refine at_call trRNumber (rnumSp (i := 6) (k := 4) (s := s.extract 8 s.size) (e := 0) (by rfl) (by decide) (by decide)) ?_
  rw [f2.1, f2.2.1, f2.2.2]
  simp -implicitDefEqProofs only [go_sem]
  refine at_call trRNumber (reightSp (i := 6) (s := s.extract 12 s.size) (e := 0) (by rfl) (by decide)) ?_
  rw [e2, f3.1, f3.2.1, f3.2.2]
  rw [show 12 + 8 = 20 from rfl]
  unfold rdO
  simp -implicitDefEqProofs only [go_sem]
  by_cases c1 : num (s.extract 0 8) = 0
  · have a1 : decide ((num (s.extract 0 8) : Int) = 0) = true := decide_eq_true (by omega)
    simp -implicitDefEqProofs only [go_sem, a1]
    refine sub_mk [] rfl rfl rfl ?_
    simp only [tmSub, hpSub, objSub, eqTm, eqHp, rn, lk, SV.ren, SV.renC, SV.renB, SV.renA, ren_ints, ren_strs, ren_pl, ren_svs, SV.v.injEq, Value.int.injEq, Body.ints.injEq, SV.ptr.injEq, SV.sl.injEq, List.map_cons, List.map_nil, forall_const, Nat.reduceLT, imp_self, true_and, and_true, and_self, ob_some, get_mk, lk_cons, ↓reduceIte, Nat.reduceEqDiff, Nat.reduceAdd, false_implies, implies_true, reduceCtorEq]
  have a1 : decide ((num (s.extract 0 8) : Int) = 0) = false := decide_eq_false (by omega)
  by_cases c2 : num (s.extract 0 8) = 9223372036854775807
  · have a2 : decide ((num (s.extract 0 8) : Int) = 9223372036854775807) = true := decide_eq_true (by omega)
    simp -implicitDefEqProofs only [go_sem, a1, a2]
    refine sub_mk [] rfl rfl rfl ?_
    simp only [tmSub, hpSub, objSub, eqTm, eqHp, rn, lk, SV.ren, SV.renC, SV.renB, SV.renA, ren_ints, ren_strs, ren_pl, ren_svs, SV.v.injEq, Value.int.injEq, Body.ints.injEq, SV.ptr.injEq, SV.sl.injEq, List.map_cons, List.map_nil, forall_const, Nat.reduceLT, imp_self, true_and, and_true, and_self, ob_some, get_mk, lk_cons, ↓reduceIte, Nat.reduceEqDiff, Nat.reduceAdd, false_implies, implies_true, reduceCtorEq]
  have a2 : decide ((num (s.extract 0 8) : Int) = 9223372036854775807) = false := decide_eq_false (by omega)
  have a3 : decide ((num (s.extract 0 8) : Int) = (num (s.extract 12 20) : Int)) = false := decide_eq_false (by omega)
  simp -implicitDefEqProofs only [go_sem, a1, a2, a3, Bool.not_false]
  refine sub_mk [] rfl rfl rfl ?_
  simp only [tmSub, hpSub, objSub, eqTm, eqHp, rn, lk, SV.ren, SV.renC, SV.renB, SV.renA, ren_ints, ren_strs, ren_pl, ren_svs, SV.v.injEq, Value.int.injEq, Body.ints.injEq, SV.ptr.injEq, SV.sl.injEq, List.map_cons, List.map_nil, forall_const, Nat.reduceLT, imp_self, true_and, and_true, and_self, ob_some, get_mk, lk_cons, ↓reduceIte, Nat.reduceEqDiff, Nat.reduceAdd, false_implies, implies_true, reduceCtorEq]
structure RopAt (H : Hp) (B h : Int) (d : Fd) (i D a b : Nat) : Prop where
  cell : ∃ u, H.get i = some ⟨u, rcB B h 0 1 D (.sl 0 0 0 2)⟩
  dev : ∃ u, H.get D = some ⟨u, refB d a b⟩
  safe : ∃ u, H.get a = some ⟨u, strB d.safe⟩
  pend : ∃ u, H.get b = some ⟨u, .pl (qrow d.pend)⟩
  ne : 0 < i ∧ 0 < D ∧ 0 < a ∧ 0 < b
theorem rcopiedNS {B h k D : Nat} (hO : RopAt H B h d i D a b) (hB : B ≤ 4096) (hh : 2 ≤ h ∧ h ≤ 4096) (hk : k ≤ 1) (hd : d.ok) (hs : Sn d) (hl : B + k * h + h ≤ d.seen.length) (hN : NoHd (secT d (B + k * h : Nat))) :
    SpecAt Tryz.prog nrcopied [.ptr i 0, .v (.int .i64 k)] H n (.tup [.v (.int .i64 0), .sl 0 0 0 2]) H n := by
  obtain ⟨⟨u1, h1⟩, ⟨u2, h2⟩, ⟨u3, h3⟩, ⟨u4, h4⟩, p1, p2, p3, p4⟩ := hO
  have := lift_ro (n := n) (okT.spec trcopied (rcopiedN (x := H.x) hB hh hk hd hs hl hN)) [(1, i), (2, D), (3, a), (4, b)] rfl rfl rfl (by omega) rfl rfl
    ⟨sub_ro rfl p1 h1 rfl, sub_ro rfl p2 h2 rfl, sub_ro rfl p3 h3 rfl, sub_ro rfl p4 h4 rfl, trivial⟩ (by simp [ropH, apartB, apart1, rn, lk]) (by simp [ropH, wrNZ, rn, lk]) rfl
  exact this
def rnwB (B h : Int) (D : Nat) : Body := .sv [.ptr D 0, .v (.int .i64 B), .v (.int .i64 h), .sl 0 0 0 2, .sl 0 0 0 2, .v (.int .i64 0), .v (.int .i64 1), .v (.bool false)]
set_option maxHeartbeats 1000000 in
theorem ropenW {B h : Nat} (hB : B ≤ 4096) (hh : 2 ≤ h ∧ h ≤ 4096) (hd : d.ok) (hs : Sn d) (ho : d.off = false) (hl : B + 2 * h ≤ d.seen.length) (h0 : NoHd (secT d B)) (h1 : NoHd (secT d (B + h : Nat))) :
    fnVC CT mrCOpen [.ptr 1 0, .v (.int .i64 B), .v (.int .i64 h)] (rp3s d x) 4 fun v H' n' => Sub 4 ⟨[(0, .tup [.ptr 4 0, .v (.int .i64 0)])], ⟨[(4, some ⟨true, rnwB B h 1⟩)], x⟩, 5⟩ ⟨[(0, v)], H', n'⟩ := by
  have hsn := hd.most
  obtain ⟨hh1, hh2⟩ := hh
  unfold mrCOpen rp3s refB strB
  simp -implicitDefEqProofs only [↓fnVC, initTm]
  have a1 : decide ((B : Int) < 0) = false := decide_eq_false (by omega)
  have a2 : decide ((h : Int) < 2) = false := decide_eq_false (by omega)
  have a3 : decide ((B : Int) > (d.seen.length : Int)) = false := decide_eq_false (by omega)
  have w1 : IntKind.i64.wrap ((d.seen.length : Int) - (B : Int)) = ((d.seen.length - B : Nat) : Int) := by rw [wrap_i64 (by omega) (by omega)]; omega
  have e4 : ((d.seen.length - B : Nat) : Int).tdiv 2 = (((d.seen.length - B) / 2 : Nat) : Int) := rfl
  have w2 : IntKind.i64.wrap (((d.seen.length - B : Nat) : Int).tdiv 2) = (((d.seen.length - B) / 2 : Nat) : Int) := by rw [e4, wrap_i64 (by omega) (by omega)]
  have a4 : decide ((h : Int) > (((d.seen.length - B) / 2 : Nat) : Int)) = false := decide_eq_false (by omega)
  simp -implicitDefEqProofs only [go_sem, a1, a2, a3, w1, w2, a4]
  refine condK_bb (fun c => by rw [ho] at c; cases c) (fun c => ?_)
  simp -implicitDefEqProofs only [go_sem, if_true, Option.bind_some, Option.bind_none, sp8_0, sp8_1, sp8_2, sp8_3, sp8_4, sp8_5, sp8_6, sp8_7]
  refine at_call trcopied (rcopiedNS (i := 4) (D := 1) (a := 2) (b := 3) (k := 0) (B := B) (h := h) (d := d) ⟨⟨_, by rfl⟩, ⟨_, by rfl⟩, ⟨_, by rfl⟩, ⟨_, by rfl⟩, by decide⟩ hB ⟨hh1, hh2⟩ (by decide) hd hs (by omega) (by rw [Nat.zero_mul]; exact h0)) ?_
  simp -implicitDefEqProofs only [go_sem]
  refine at_call trcopied (rcopiedNS (i := 4) (D := 1) (a := 2) (b := 3) (k := 1) (B := B) (h := h) (d := d) ⟨⟨_, by rfl⟩, ⟨_, by rfl⟩, ⟨_, by rfl⟩, ⟨_, by rfl⟩, by decide⟩ hB ⟨hh1, hh2⟩ (by decide) hd hs (by omega) (by rw [Nat.one_mul]; exact h1)) ?_
  simp -implicitDefEqProofs only [go_sem, sp8_0, sp8_1, sp8_2, sp8_3, sp8_4, sp8_5, sp8_6, sp8_7]
  unfold rnwB
  refine sub_mk [] rfl rfl rfl ?_
  simp only [tmSub, hpSub, objSub, eqTm, eqHp, rn, lk, SV.ren, SV.renC, SV.renB, SV.renA, ren_ints, ren_strs, ren_pl, ren_svs, SV.v.injEq, Value.int.injEq, Body.ints.injEq, SV.ptr.injEq, SV.sl.injEq, List.map_cons, List.map_nil, forall_const, Nat.reduceLT, imp_self, true_and, and_true, and_self, ob_some, get_mk, lk_cons, ↓reduceIte, Nat.reduceEqDiff, Nat.reduceAdd, false_implies, implies_true, reduceCtorEq]
theorem ropenS {B h : Nat} (hR : RefAt H d i a b true true true) (hB : B ≤ 4096) (hh : 2 ≤ h ∧ h ≤ 4096) (hd : d.ok) (hs : Sn d) (ho : d.off = false) (hl : B + 2 * h ≤ d.seen.length) (h0 : NoHd (secT d B)) (h1 : NoHd (secT d (B + h : Nat))) (hn : n + 1 ≤ 1000) :
    SpecAt Tryz.prog nrCOpen [.ptr i 0, .v (.int .i64 B), .v (.int .i64 h)] H n (.tup [.ptr n 0, .v (.int .i64 0)]) ⟨(n, some ⟨true, rnwB B h i⟩) :: H.l, H.x⟩ (n + 1) := by
  obtain ⟨hi, ha, hb, ⟨p1, p2, p3⟩, ⟨q1, q2, q3⟩, n1, n2, n3⟩ := hR
  have := lift (n := n) (okT.spec trCOpen (ropenW (x := H.x) hB hh hd hs ho hl h0 h1)) [(1, i), (2, a), (3, b)] rfl rfl rfl (by omega) rfl rfl
    ⟨sub_ro rfl p1 hi rfl, sub_ro rfl p2 ha rfl, sub_ro rfl p3 hb rfl, trivial⟩ (by simp [rp3s, apartB, apart1, rn, lk]) (by simp [rp3s, wrNZ, rn, lk]) (by omega)
  exact this
theorem ropenE {B h : Int} (hR : RefAt H d i a b true true true) (hd : d.ok) (hN : noReg d.seen.length B h) : SpecAt Tryz.prog nrCOpen [.ptr i 0, .v (.int .i64 B), .v (.int .i64 h)] H n (.tup [.v (.pointer none), .v (.int .i64 1)]) H n := by
  obtain ⟨hi, ha, hb, ⟨p1, p2, p3⟩, ⟨q1, q2, q3⟩, n1, n2, n3⟩ := hR
  have hsn := hd.most
  refine okT.pure trCOpen (?_)
  unfold mrCOpen
  unfold refB at hi
  simp -implicitDefEqProofs only [↓fnVC, initTm]
  by_cases c1 : B < 0
  · have a1 : decide (B < 0) = true := decide_eq_true c1
    simp -implicitDefEqProofs only [go_sem, a1]
  have a1 : decide (B < 0) = false := decide_eq_false c1
  by_cases c2 : h < 2
  · have a2 : decide (h < 2) = true := decide_eq_true c2
    simp -implicitDefEqProofs only [go_sem, a1, a2]
  have a2 : decide (h < 2) = false := decide_eq_false c2
  by_cases c3 : (d.seen.length : Int) < B
  · have a3 : decide (B > (d.seen.length : Int)) = true := decide_eq_true c3
    simp -implicitDefEqProofs only [go_sem, hi, a1, a2, a3]
  have a3 : decide (B > (d.seen.length : Int)) = false := decide_eq_false c3
  have w1 : IntKind.i64.wrap ((d.seen.length : Int) - B) = (d.seen.length : Int) - B := by rw [wrap_i64 (by omega) (by omega)]
  have w2 : IntKind.i64.wrap (((d.seen.length : Int) - B).tdiv 2) = ((d.seen.length : Int) - B).tdiv 2 := by
    rw [Int.tdiv_eq_ediv_of_nonneg (by omega)]
    exact wrap_i64 (by omega) (by omega)
  have a4 : decide (h > ((d.seen.length : Int) - B).tdiv 2) = true := decide_eq_true (by
    rcases hN with h | h | h | h
    · exact absurd h c1
    · exact absurd h c2
    · exact absurd h c3
    · exact h)
  simp -implicitDefEqProofs only [go_sem, hi, a1, a2, a3, w1, w2, a4]
end
section
/- Boot: what can't be a region. -/
set_option linter.unusedVariables false
set_option linter.unusedSimpArgs false
set_option maxRecDepth 100000
open Go.Proofs
variable {H : Hp} {n : Nat} {x : Nat → Option SO} {i q s D M W a b c : Nat} {d d' : Fd} {C C' : Ce} {T : Bt}
theorem newNo {k j : Nat} (h : j < k) : NoHd (secT (newD k) j) := by
  have hz : (newD k).seen.getD j [] = z64 := by
    show (List.replicate k (zi 64)).getD j [] = z64
    rw [List.getD_eq_getElem?_getD, List.getElem?_replicate, if_pos h]; rfl
  exact z64_Z.no hz (.inl z64_get)
set_option maxHeartbeats 8000000 in
theorem noneW {B h r v : Int} {I : ByteArray} (hb : -9223372036854775808 ≤ B ∧ B < 9223372036854775808 ∧ -9223372036854775808 ≤ h ∧ h < 9223372036854775808 ∧ -9223372036854775808 ≤ r ∧ r < 9223372036854775808) (hx : NoX x) :
    fnVC CT mBootNone [.agg [.v (.int .i64 B), .v (.int .i64 h), .v (.int .i64 r)], .v (.int .i64 v), .v (.string I)] ⟨[], x⟩ 1 fun v H' n' => Sub 1 ⟨[(0, .v (.bool true))], ⟨[], x⟩, 1⟩ ⟨[(0, v)], H', n'⟩ := by
  unfold mBootNone
  simp -implicitDefEqProofs only [↓fnVC, initTm]
  simp -implicitDefEqProofs only [go_sem]
  refine at_call tboots (bootsS hx) ?_
  simp -implicitDefEqProofs only [go_sem]
  refine at_call tFNew (nwD (k := 30) (by decide) (by decide) (by decide)) ?_
  unfold devL
  simp -implicitDefEqProofs only [go_sem]
  refine at_call trFNew (rnwG (k := 30) (by decide) (by decide) (by decide)) ?_
  unfold refL
  have z3 : ((3 : Nat) : Int) = 3 := rfl
  simp -implicitDefEqProofs only [go_sem, z3, splice_zero, splice_succ, List.drop_succ_cons, List.drop_zero, List.drop_nil, List.cons_append, List.nil_append, List.take_succ_cons, List.take_zero, List.length_cons, List.length_nil, if_true, Option.bind_some, Option.bind_none]
  have n00 : decide (((0 : Nat) : Int) = 0) = true := rfl
  have dok : (newD 30).ok := newD_ok (by decide)
  have dsn : Sn (newD 30) := Sn.new
  have dof : (newD 30).off = false := rfl
  have dlen : (newD 30).seen.length = 30 := by simp [newD]
  have hno : ∀ j : Nat, j < 30 → NoHd (secT (newD 30) ((j : Nat) : Int)) := fun j hj => newNo hj
  have hnR : ∀ B h, B + 2 * h ≤ 30 → 1 ≤ h → Reg (newD 30).seen B h 0 1 [] := fun B h h1 h2 => Reg.new h1 h2
  generalize newD 30 = d0 at dok dsn dof dlen hno hnR ⊢
  by_cases hr : noReg 30 B h
  · refine at_call tBOpen (bopenE (i := 2) (a := 3) (b := 4) (c := 5) (d := d0) ⟨by rfl, by rfl, by rfl, by rfl, by decide⟩ dok (by rw [dlen]; exact hr)) ?_
    simp -implicitDefEqProofs only [go_sem, z3, splice_zero, splice_succ, List.drop_succ_cons, List.drop_zero, List.drop_nil, List.cons_append, List.nil_append, List.take_succ_cons, List.take_zero, List.length_cons, List.length_nil, if_true, Option.bind_some, Option.bind_none]
    refine in_call mixT trBOpen ?_
    unfold mrBOpen
    simp -implicitDefEqProofs only [↓fnVC, initTm]
    simp -implicitDefEqProofs only [go_sem]
    refine at_call trCOpen (ropenE (i := 6) (a := 7) (b := 8) (d := d0) ⟨by rfl, by rfl, by rfl, by decide⟩ dok (by rw [dlen]; exact hr)) ?_
    simp -implicitDefEqProofs only [go_sem, splice_zero, splice_succ, List.drop_succ_cons, List.drop_zero, List.drop_nil, List.cons_append, List.nil_append, List.take_succ_cons, List.take_zero, List.length_cons, List.length_nil, if_true, Option.bind_some, Option.bind_none]
    refine at_call tBOpen bopenNil ?_
    simp -implicitDefEqProofs only [go_sem]
    refine at_call tBBoot (bootN hx) ?_
    simp -implicitDefEqProofs only [go_sem]
    refine at_call tBRunning runN ?_
    simp -implicitDefEqProofs only [go_sem]
    refine at_call tBState (stateN hx) ?_
    unfold sqV sqL nthQ
    simp -implicitDefEqProofs only [go_sem, splice_zero, splice_succ, List.drop_succ_cons, List.drop_zero, List.drop_nil, List.cons_append, List.nil_append, List.take_succ_cons, List.take_zero, List.length_cons, List.length_nil, if_true, Option.bind_some, Option.bind_none]
    refine at_call tBProvision provN ?_
    simp -implicitDefEqProofs only [go_sem]
    refine at_call tBInstall (instN hx) ?_
    have q1 : seq ⟨#[]⟩ ⟨#[]⟩ = true := seq_self _
    simp -implicitDefEqProofs only [go_sem, q1]
    refine at_call tBConfirm (confN hx) ?_
    simp -implicitDefEqProofs only [go_sem, q1]
    refine sub_mk [] rfl rfl rfl ?_
    simp only [tmSub, hpSub, objSub, eqTm, eqHp, rn, lk, SV.ren, SV.renC, SV.renB, SV.renA, ren_ints, ren_strs, ren_pl, ren_svs, List.map_cons, List.map_nil, forall_const, Nat.reduceLT, true_and, and_true, ob_some, get_mk, lk_cons, ↓reduceIte, Nat.reduceEqDiff, Nat.reduceAdd, implies_true, reduceCtorEq]
    repeat' (first | rfl | apply And.intro)
  have hr1 : 0 ≤ B ∧ 2 ≤ h ∧ B ≤ 30 ∧ h ≤ ((30 : Nat) - B).tdiv 2 := by unfold noReg at hr; omega
  rw [Int.tdiv_eq_ediv_of_nonneg (by omega)] at hr1
  obtain ⟨B, rfl⟩ : ∃ k : Nat, B = k := ⟨B.toNat, by omega⟩
  obtain ⟨h, rfl⟩ : ∃ k : Nat, h = k := ⟨h.toNat, by omega⟩
  have hBh : B + 2 * h ≤ 30 := by omega
  have w1 : IntKind.i64.wrap (2 * (h : Int)) = ((2 * h : Nat) : Int) := by rw [wrap_i64 (by omega) (by omega)]; omega
  have w2 : IntKind.i64.wrap ((B : Int) + ((2 * h : Nat) : Int)) = ((B + 2 * h : Nat) : Int) := by rw [wrap_i64 (by omega) (by omega)]; omega
  by_cases hP : Sl.opP 30 ((B + 2 * h : Nat) : Int) r
  · have hP' := hP
    unfold Sl.opP at hP'
    obtain ⟨r, rfl⟩ : ∃ k : Nat, r = k := ⟨r.toNat, by omega⟩
    refine at_call tBOpen (bopenS (i := 2) (a := 3) (b := 4) (c := 5) (d := d0) ⟨by rfl, by rfl, by rfl, by rfl, by decide⟩ (by omega) (by omega) dok dof (by rw [dlen]; exact hP) (hnR B h hBh (by omega)) srtE_nil (by decide)) ?_
    unfold devL
    simp -implicitDefEqProofs only [go_sem, z3, splice_zero, splice_succ, List.drop_succ_cons, List.drop_zero, List.drop_nil, List.cons_append, List.nil_append, List.take_succ_cons, List.take_zero, List.length_cons, List.length_nil, if_true, Option.bind_some, Option.bind_none]
    refine in_call mixT trBOpen ?_
    unfold mrBOpen
    simp -implicitDefEqProofs only [↓fnVC, initTm]
    simp -implicitDefEqProofs only [go_sem]
    refine at_call trCOpen (ropenS (i := 6) (a := 7) (b := 8) (d := d0) ⟨by rfl, by rfl, by rfl, by decide⟩ (by omega) (by omega) dok dsn dof (by omega) (hno B (by omega)) (hno (B + h) (by omega)) (by decide)) ?_
    simp -implicitDefEqProofs only [go_sem, w1, w2, splice_zero, splice_succ, List.drop_succ_cons, List.drop_zero, List.drop_nil, List.cons_append, List.nil_append, List.take_succ_cons, List.take_zero, List.length_cons, List.length_nil, if_true, Option.bind_some, Option.bind_none]
    refine at_call trSOpen (Sl.ropenS (i := 6) (a := 7) (b := 8) (d := d0) ⟨by rfl, by rfl, by rfl, by decide⟩ dok.most (by rw [dlen]; exact hP) dof (by decide)) ?_
    unfold refL
    simp -implicitDefEqProofs only [go_sem, splice_zero, splice_succ, List.drop_succ_cons, List.drop_zero, List.drop_nil, List.cons_append, List.nil_append, List.take_succ_cons, List.take_zero, List.length_cons, List.length_nil, if_true, Option.bind_some, Option.bind_none]
    refine at_call tBOpen bopenNil ?_
    simp -implicitDefEqProofs only [go_sem]
    refine at_call tBBoot (bootN hx) ?_
    simp -implicitDefEqProofs only [go_sem]
    refine at_call tBRunning runN ?_
    simp -implicitDefEqProofs only [go_sem]
    refine at_call tBState (stateN hx) ?_
    unfold sqV sqL nthQ
    simp -implicitDefEqProofs only [go_sem, splice_zero, splice_succ, List.drop_succ_cons, List.drop_zero, List.drop_nil, List.cons_append, List.nil_append, List.take_succ_cons, List.take_zero, List.length_cons, List.length_nil, if_true, Option.bind_some, Option.bind_none]
    refine at_call tBProvision provN ?_
    simp -implicitDefEqProofs only [go_sem]
    refine at_call tBInstall (instN hx) ?_
    have q1 : seq ⟨#[]⟩ ⟨#[]⟩ = true := seq_self _
    simp -implicitDefEqProofs only [go_sem, q1]
    refine at_call tBConfirm (confN hx) ?_
    simp -implicitDefEqProofs only [go_sem, q1]
    refine sub_mk [] rfl rfl rfl ?_
    simp only [tmSub, hpSub, objSub, eqTm, eqHp, rn, lk, SV.ren, SV.renC, SV.renB, SV.renA, ren_ints, ren_strs, ren_pl, ren_svs, List.map_cons, List.map_nil, forall_const, Nat.reduceLT, true_and, and_true, ob_some, get_mk, lk_cons, ↓reduceIte, Nat.reduceEqDiff, Nat.reduceAdd, implies_true, reduceCtorEq]
    repeat' (first | rfl | apply And.intro)
  · refine in_call mixT tBOpen ?_
    unfold mBOpen
    simp -implicitDefEqProofs only [↓fnVC, initTm]
    simp -implicitDefEqProofs only [go_sem]
    refine at_call tCOpen (openR (i := 2) (a := 3) (b := 4) (c := 5) (d := d0) ⟨by rfl, by rfl, by rfl, by rfl, by decide⟩ (by omega) (by omega) dok dof (by omega) (hnR B h hBh (by omega)) srtE_nil (by decide)) ?_
    simp -implicitDefEqProofs only [go_sem, w1, w2]
    refine at_call tSOpen (Sl.openNo (w := true) (i := 2) (a := 3) (b := 4) (c := 5) (d := d0) (by rfl) dok.most (by rw [dlen]; exact hP) (by omega)) ?_
    simp -implicitDefEqProofs only [go_sem, z3, splice_zero, splice_succ, List.drop_succ_cons, List.drop_zero, List.drop_nil, List.cons_append, List.nil_append, List.take_succ_cons, List.take_zero, List.length_cons, List.length_nil, if_true, Option.bind_some, Option.bind_none]
    refine in_call mixT trBOpen ?_
    unfold mrBOpen
    simp -implicitDefEqProofs only [↓fnVC, initTm]
    simp -implicitDefEqProofs only [go_sem]
    refine at_call trCOpen (ropenS (i := 6) (a := 7) (b := 8) (d := d0) ⟨by rfl, by rfl, by rfl, by decide⟩ (by omega) (by omega) dok dsn dof (by omega) (hno B (by omega)) (hno (B + h) (by omega)) (by decide)) ?_
    simp -implicitDefEqProofs only [go_sem, w1, w2, splice_zero, splice_succ, List.drop_succ_cons, List.drop_zero, List.drop_nil, List.cons_append, List.nil_append, List.take_succ_cons, List.take_zero, List.length_cons, List.length_nil, if_true, Option.bind_some, Option.bind_none]
    refine at_call trSOpen (Sl.ropenNo (i := 6) (a := 7) (b := 8) (u1 := true) (u2 := true) (u3 := true) (d := d0) ⟨by rfl, by rfl, by rfl, by decide⟩ dok.most (by rw [dlen]; exact hP) (by omega)) ?_
    simp -implicitDefEqProofs only [go_sem, splice_zero, splice_succ, List.drop_succ_cons, List.drop_zero, List.drop_nil, List.cons_append, List.nil_append, List.take_succ_cons, List.take_zero, List.length_cons, List.length_nil, if_true, Option.bind_some, Option.bind_none]
    refine at_call tBOpen bopenNil ?_
    simp -implicitDefEqProofs only [go_sem]
    refine at_call tBBoot (bootN hx) ?_
    simp -implicitDefEqProofs only [go_sem]
    refine at_call tBRunning runN ?_
    simp -implicitDefEqProofs only [go_sem]
    refine at_call tBState (stateN hx) ?_
    unfold sqV sqL nthQ
    simp -implicitDefEqProofs only [go_sem, splice_zero, splice_succ, List.drop_succ_cons, List.drop_zero, List.drop_nil, List.cons_append, List.nil_append, List.take_succ_cons, List.take_zero, List.length_cons, List.length_nil, if_true, Option.bind_some, Option.bind_none]
    refine at_call tBProvision provN ?_
    simp -implicitDefEqProofs only [go_sem]
    refine at_call tBInstall (instN hx) ?_
    have q1 : seq ⟨#[]⟩ ⟨#[]⟩ = true := seq_self _
    simp -implicitDefEqProofs only [go_sem, q1]
    refine at_call tBConfirm (confN hx) ?_
    simp -implicitDefEqProofs only [go_sem, q1]
    refine sub_mk [] rfl rfl rfl ?_
    simp only [tmSub, hpSub, objSub, eqTm, eqHp, rn, lk, SV.ren, SV.renC, SV.renB, SV.renA, ren_ints, ren_strs, ren_pl, ren_svs, List.map_cons, List.map_nil, forall_const, Nat.reduceLT, true_and, and_true, ob_some, get_mk, lk_cons, ↓reduceIte, Nat.reduceEqDiff, Nat.reduceAdd, implies_true, reduceCtorEq]
    repeat' (first | rfl | apply And.intro)
end
section
/- Boot: the package's variable at a law's door. -/
set_option linter.unusedVariables false
set_option linter.unusedSimpArgs false
set_option maxRecDepth 100000
open Go.Proofs Go.ChangeShapes Go.WideShapes Go.ChangeAt Go.RowKit
def nthA : Array Value := #[.int .i64 (-1), .int .i64 (-1), .int .i64 0, .int .i64 0]
theorem nothing_at {W : World} (h : laidMetH Tryz.prog [("ostler/boot.nothing", YtjjnmdpppcmmfaaGreatDoor.Rows.laid_ostler_boot_nothing)] W) : ∃ T fr, W.heap[0]? = some (.cells nthA T fr) := by
  have h' : laidMet Tryz.prog [("ostler/boot.nothing", YtjjnmdpppcmmfaaGreatDoor.Rows.laid_ostler_boot_nothing)] W := h
  obtain ⟨ps, ⟨g', t', cs, fuel, p, q, hg', ht', hvar, hd, _, _⟩, _⟩ := h'
  have hg : Tryz.prog.globalNamed "ostler/boot.nothing" = some 0 := by kernel_rfl
  have hty : (Tryz.prog.globals[0]?).map (·.type) = some 59 := by kernel_rfl
  obtain rfl := Option.some.inj (hg.symm.trans hg')
  obtain rfl := Option.some.inj (hty.symm.trans ht')
  obtain ⟨xs, n, rfl, hx, hl, hxl, hf⟩ := DataW.trod_struct Tryz.underlying59 hd
  have h0 := hf 0 { name := "Confirmed", type := 3, offset := 0, embedded := false, tag := "", pkgPath := "", byteOffset := 0 } rfl
  have h1 := hf 1 { name := "Tried", type := 3, offset := 1, embedded := false, tag := "", pkgPath := "", byteOffset := 8 } rfl
  have h2 := hf 2 { name := "Left", type := 3, offset := 2, embedded := false, tag := "", pkgPath := "", byteOffset := 16 } rfl
  have h3 := hf 3 { name := "Floor", type := 3, offset := 3, embedded := false, tag := "", pkgPath := "", byteOffset := 24 } rfl
  have c3 : Tryz.prog.cellsOf 3 = 1 := by kernel_rfl
  have c59 : Tryz.prog.cellsOf 59 = 4 := by kernel_rfl
  rw [c59] at hl
  have hcs : cs = nthA := by
    obtain ⟨l⟩ := cs
    simp only at hl h0 h1 h2 h3
    match l, hl with
    | [a, b, c, d], _ =>
      match xs, hxl with
      | [y0, y1, y2, y3], _ =>
        simp only [c3, List.drop_succ_cons, List.drop_zero, List.take_succ_cons, List.take_zero, List.getElem?_cons_succ, List.getElem?_cons_zero] at h0 h1 h2 h3
        obtain ⟨z0, e0, rfl, _⟩ := DataW.trod_int Tryz.underlying3 h0
        obtain ⟨z1, e1, rfl, _⟩ := DataW.trod_int Tryz.underlying3 h1
        obtain ⟨z2, e2, rfl, _⟩ := DataW.trod_int Tryz.underlying3 h2
        obtain ⟨z3, e3, rfl, _⟩ := DataW.trod_int Tryz.underlying3 h3
        simp only [List.cons.injEq, and_true] at e0 e1 e2 e3
        subst e0; subst e1; subst e2; subst e3
        simp [YtjjnmdpppcmmfaaGreatDoor.Rows.laid_ostler_boot_nothing] at hx
        obtain ⟨⟨q0, q1, q2, q3⟩, _⟩ := hx
        subst q0; subst q1; subst q2; subst q3
        rfl
  subst hcs
  unfold World.var? at hvar
  rw [hg] at hvar
  simp only [Option.bind_some] at hvar
  split at hvar
  · rename_i c T fr hh
    cases hvar
    exact ⟨T, fr, hh⟩
  · cases hvar
def ρb (i : Nat) : Loc := if i = 4001003 then ⟨some 0, 0, 4, false, none⟩ else ρ00 i
def xb (i : Nat) : Option SO := if i = 4001003 then some ⟨false, .sv (sqL nthQ)⟩ else none
theorem NoX_b : NoX xb := rfl
theorem ρb_sh {i : Nat} : (ρb i).sh = none := by
  unfold ρb; split
  · rfl
  · exact ρ00_sh
theorem hrel_boot {W : World} (h : ∃ T fr, W.heap[0]? = some (.cells nthA T fr)) : HRel (· < W.heap.size) W ρb 1 ⟨[], xb⟩ W := by
  obtain ⟨T, fr, h⟩ := h
  have hx : ∀ i s, Hp.get ⟨[], xb⟩ i = some s → i = 4001003 ∧ s = ⟨false, .sv (sqL nthQ)⟩ := fun i s hs => by
    have hs' : xb i = some s := hs
    unfold xb at hs'
    split at hs'
    · rename_i e; cases hs'; exact ⟨e, rfl⟩
    · cases hs'
  have hsz : 0 < W.heap.size := by
    rw [Array.getElem?_eq_some_iff] at h
    exact h.1
  exact { os := rfl, tape := rfl, output := rfl, size := Nat.le_refl _, keep := fun _ _ => rfl, old := fun _ h => h, nil := ⟨rfl, rfl⟩, pos := by omega
          obj := fun i s hs => by
            obtain ⟨rfl, rfl⟩ := hx i s hs
            refine ⟨⟨nthA, T, fr, h, by decide, by decide, fun j y hj => ?_, fun e => by cases e⟩, fun _ => rfl⟩
            match j, hj with
            | 0, hj => cases hj; exact ⟨_, rfl, rfl⟩
            | 1, hj => cases hj; exact ⟨_, rfl, rfl⟩
            | 2, hj => cases hj; exact ⟨_, rfl, rfl⟩
            | 3, hj => cases hj; exact ⟨_, rfl, rfl⟩
            | j + 4, hj => cases hj
          lt := fun i s hs => by obtain ⟨rfl, rfl⟩ := hx i s hs; exact ⟨rfl, rfl⟩
          own := fun i s b hs hw => by obtain ⟨rfl, rfl⟩ := hx i s hs; cases hw
          inj := fun i j s s' b _ hs _ hw => by obtain ⟨rfl, rfl⟩ := hx i s hs; cases hw
          live := fun i s b hs hb => by
            obtain ⟨rfl, rfl⟩ := hx i s hs
            have : (0 : Nat) = b := Option.some.inj hb
            omega
          xok := fun i s hs => by obtain ⟨rfl, rfl⟩ := hx i s hs; exact ⟨by decide, rfl, rfl, rfl⟩
          shp := fun i T c b hb => (by rw [ρb_sh] at hb; cases hb), shk := ShKeep.refl _
          gl := fun g hg => by
            have hg0 : g = 0 := of_decide_eq_true hg
            subst hg0
            exact ⟨rfl, rfl⟩ }
end
end Go.Sx