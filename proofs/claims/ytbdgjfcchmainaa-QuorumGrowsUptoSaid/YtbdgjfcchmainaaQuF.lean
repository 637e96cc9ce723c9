/- More signatures take nobody away. -/
import Derived.Test.YtbdgjfcchmainaaQuE

set_option linter.unusedVariables false
set_option linter.unusedSimpArgs false
set_option maxRecDepth 100000
namespace Go.Sx
open Go.Proofs
theorem hit_app (id text : ByteArray) (a b : Sg) : hit id text (a ++ b) = (hit id text a || hit id text b) := List.any_append
def bkL (l : Sg) : Nat → Sg
  | 0 => []
  | j + 1 => bkL l j ++ [l.getD (l.length - 1 - j) gE, l.getD j gE]
theorem bkL_len (l : Sg) : ∀ j, (bkL l j).length = 2 * j
  | 0 => rfl
  | j + 1 => by simp only [bkL, List.length_append, bkL_len l j, List.length_cons, List.length_nil]; omega
theorem getD_mem {l : Sg} {i : Nat} (h : i < l.length) : l.getD i gE ∈ l := by
  rw [List.getD_eq_getElem?_getD, List.getElem?_eq_getElem h]; exact List.getElem_mem h
theorem bkL_sub {l : Sg} : ∀ {j}, j ≤ l.length → ∀ g ∈ bkL l j, g ∈ l
  | 0, _ => fun g hg => absurd hg List.not_mem_nil
  | j + 1, h => fun g hg => by
    rcases List.mem_append.1 hg with h' | h'
    · exact bkL_sub (by omega) g h'
    · simp only [List.mem_cons, List.not_mem_nil, or_false] at h'
      rcases h' with rfl | rfl
      · exact getD_mem (by omega)
      · exact getD_mem (by omega)
theorem bkL_has {l : Sg} : ∀ {j i}, i < j → l.getD i gE ∈ bkL l j
  | j + 1, i, h => by
    by_cases e : i = j
    · subst e; exact List.mem_append_right _ (by simp)
    · exact List.mem_append_left _ (bkL_has (by omega))
theorem hit_bk (id text : ByteArray) (l : Sg) : hit id text (bkL l l.length) = hit id text l := by
  unfold hit
  refine Bool.eq_iff_iff.2 ?_
  rw [List.any_eq_true, List.any_eq_true]
  constructor
  · rintro ⟨g, hg, h⟩; exact ⟨g, bkL_sub (Nat.le_refl _) g hg, h⟩
  · rintro ⟨g, hg, h⟩
    obtain ⟨i, hi, rfl⟩ := List.getElem_of_mem hg
    have e : l.getD i gE = l[i] := by rw [List.getD_eq_getElem?_getD, List.getElem?_eq_getElem hi]; rfl
    exact ⟨l[i], by rw [← e]; exact bkL_has hi, h⟩
theorem who_bk (l : List ByteArray) (need : Int) (text : ByteArray) (gs : Sg) : whoL l need text (bkL gs gs.length) = whoL l need text gs := by
  unfold whoL
  simp only [hit_bk]
def grd (few : List ByteArray) : List ByteArray → Nat → Nat
  | [], n => n
  | x :: r, n => grd few r (if n < few.length ∧ few.getD n .empty = x then n + 1 else n)
theorem grd_snoc (few : List ByteArray) : ∀ (r : List ByteArray) (x : ByteArray) (n : Nat), grd few (r ++ [x]) n = if grd few r n < few.length ∧ few.getD (grd few r n) .empty = x then grd few r n + 1 else grd few r n
  | [], x, n => rfl
  | y :: r, x, n => grd_snoc few r x _
theorem grd_le (few : List ByteArray) : ∀ (r : List ByteArray) (n : Nat), n ≤ few.length → grd few r n ≤ few.length
  | [], n, h => h
  | y :: r, n, h => grd_le few r _ (by split <;> omega)
theorem grd_all (few : List ByteArray) : ∀ (r : List ByteArray) (n : Nat), n ≤ few.length → (few.drop n).Sublist r → grd few r n = few.length
  | [], n, h, hs => by
    have := List.eq_nil_of_sublist_nil hs
    have := List.drop_eq_nil_iff.1 this
    show n = _; omega
  | x :: r, n, h, hs => by
    show grd few r _ = _
    by_cases hn : n < few.length
    · have hd : few.drop n = few.getD n .empty :: few.drop (n + 1) := by
        rw [List.drop_eq_getElem_cons hn, List.getD_eq_getElem?_getD, List.getElem?_eq_getElem hn]; rfl
      by_cases e : few.getD n .empty = x
      · rw [if_pos ⟨hn, e⟩]
        refine grd_all few r (n + 1) hn ?_
        rw [hd, e] at hs
        exact List.cons_sublist_cons.1 hs
      · rw [if_neg (fun h => e h.2)]
        refine grd_all few r n h ?_
        rw [hd] at hs ⊢
        rcases List.sublist_cons_iff.1 hs with h' | ⟨t, ht, _⟩
        · exact h'
        · exact absurd (List.cons.inj ht).1 e
    · rw [if_neg (fun h => hn h.1)]
      refine grd_all few r n h ?_
      rw [List.drop_eq_nil_of_le (by omega)]; exact List.nil_sublist _
theorem who_sub (l : List ByteArray) (need : Int) (text : ByteArray) (a b : Sg) : (whoL l need text a).Sublist (whoL l need text (b ++ a)) := by
  unfold whoL
  split
  · have e : l.filter (fun id => hit id text a) = (l.filter fun id => hit id text (b ++ a)).filter fun id => hit id text a := by
      rw [List.filter_filter]
      refine List.filter_congr fun id _ => ?_
      rw [hit_app]
      cases hit id text a <;> simp
    rw [e]
    exact List.filter_sublist
  · exact List.Sublist.refl _
theorem or1 {b : Nat} (h : b ≤ 255) : ∃ c : Nat, ior .u8 (b : Int) 1 = c ∧ bitB c 0 = true := by
  have := all256 (p := fun b => 0 ≤ ior .u8 b 1 ∧ (!decide (iand .u8 (ishr .u8 (ior .u8 b 1) 0) 1 = 0)) = true) (by decide) (c := b) (by omega) (by omega)
  refine ⟨(ior .u8 (b : Int) 1).toNat, by omega, ?_⟩
  unfold bitB
  rw [show (((ior .u8 (b : Int) 1).toNat : Nat) : Int) = ior .u8 (b : Int) 1 by omega]
  exact this.2
theorem mem_setL {bits : Nat} : ∀ {j : Nat} {s : ByteArray}, s ∈ setL bits j → s.size = 32
  | j + 1, s, h => by
    rcases List.mem_append.1 h with h | h
    · exact mem_setL h
    · split at h
      · simp only [List.mem_cons, List.not_mem_nil, or_false, or_self] at h; rw [h]; exact idB_size _
      · exact absurd h List.not_mem_nil
theorem setL_0 {bits : Nat} (h : bitB bits 0 = true) : ∀ {j : Nat}, 0 < j → idB (sd 0) ∈ setL bits j
  | 1, _ => by show _ ∈ [] ++ _; rw [if_pos h]; simp
  | j + 2, _ => List.mem_append_left _ (setL_0 h (j := j + 1) (Nat.succ_pos _))
theorem ok1set {bits : Nat} (h : bitB bits 0 = true) : okSet (rising (setL bits 5)) 1 = true := by
  have hs5 := setL_len bits 5
  have hrl : (rising (setL bits 5)).length ≤ (setL bits 5).length := by rw [← (cmp_srt (setL bits 5)).1]; refine Nat.le_trans (cmp_srt (setL bits 5)).2 ?_; rw [srtB_len]; exact Nat.le_refl _
  have hp : 0 < (rising (setL bits 5)).length := List.length_pos_of_mem (rising_mem.2 (setL_0 h (by decide)))
  unfold okSet
  rw [okTo_ris (rising_ris _) (fun s hs => mem_setL (rising_mem.1 hs)) (Nat.le_refl _), Bool.and_true]
  exact decide_eq_true ⟨by omega, by omega, by omega, by omega⟩
end Go.Sx

/- QuorumGrows, walked. -/
set_option linter.unusedVariables false
set_option linter.unusedSimpArgs false
set_option maxRecDepth 100000
namespace Go.Sx
attribute [local go_sem ↓] bind_mk intsB_mk strsB_mk svB_mk fnVC ob_some vc_skip vc_exit vc_ret vc_seq vc_block kSeq_normal kSeq_exit kSeq_ret kBlock_normal kBlock_exit kBlock_ret vc_reg vc_regD vc_cond condK_true condK_false vc_loop kLoop_exit kLoop_ret kRoll_normal kRoll_exit kRoll_ret vcOps_nil vcOps_cons gd_bool gd_undef put_some put_none vcT_fin vcT_pure vcT_act vcT_acts vcT_stop stab_none stab_some stabM_nil stabM_cons stabO_ld stabO_ldn stabO_slP stabO_b2s fldOf_ai fldOf_agg fldOf_ait fldOf_aggt intsOf_nil intsOf_cons strsOf_nil strsOf_cons c_omap ob_if lk_nil lk_cons ev_t ev_k z_mov z_pick z_bin z_binA z_binB z_binP z_un z_r2s z_conv z_s2b z_b2s z_mkM z_luM z_upM z_lenM lenMk_mp lenMk_nil plsOf_v z_delM asM_so plV_v plV_agg mpOf_mp mpOf_nil mpUp_mp asM_mp luV_ok luV_v z_allocT aggOf_mk z_boxT z_alloc z_bld z_bldI z_rowI z_rowS z_ld z_ldn z_st z_stn asN_ptr asN_fn z_nilck z_fld z_fadr z_idxA z_idxP z_idxS z_idxV z_slS z_slL z_slP z_mk z_lenS z_lenL z_app appC_ints appC_pl appC_sv appC_strs isS_strs loose_ints loose_pl loose_sv z_slM z_callv callvK_fn callvK_f callvK_yl vc_rangeF rfEnd_eq rfGo_none rfGo_ret rfGo_exit yGo_mk yEnd_n yEnd_r yEnd_e yRdy_mk yMid_n putPs_nil putPs_cons leaf_v leaf_ptr leaf_sl leaf_yl leaf_mp z_appS z_appST z_appZ z_cpyS z_mkfn reps_int reps_str z_rowV z_slnil nilK_zero z_cpy z_call asT_tup z_extT z_box boxOf_ai boxOf_agg boxOf_int boxOf_str boxOf_bool boxOf_ptr boxOf_sl sbin_int sbin_str sbinA_mk ae_nil ae_int ae_str sbinB_mk sbinP_nn sbinP_pn sbinP_np i_add i_sub i_mul i_quo i_rem i_and i_or i_xor i_andNot i_shl i_shr i_eql i_neq i_lss i_leq i_gtr i_geq st_add st_eql st_neq st_lss st_leq st_gtr st_geq bo_eql bo_neq pt_eql pt_neq un_neg un_xor un_not asI_mk asB_mk asS_mk asP_mk asSl_mk asBy_mk bnd_none bnd_some get_mk hput_mk hdel_mk kill_eq wrOf_eq rowOf_eq rsvs_0 rsvs_1 rsvs_2 rsvs_3 rsv_t rsv_c1 rsv_cn nt_v nt_ptr nt_sl nt_agg nt_ai get_ints get_strs get_pl get_sv getN_ints getN_sv set_ints set_strs set_sv setN_ints setN_sv part_ints part_strs part_sv cat_ints cat_strs cat_sv over_ints over_strs over_sv ones_ints ones_strs evs_nil evs_cons condK_eqt condK_eqf det_callP V_ns V_nn V_gs V_gn obC_mk fresh_ev freshT_ev freshR_ev setN_plagg setN_intsv setN_svai setN_svagg over_intsv set_pl setN_pl setN_plai getN_pl getN_strs part_pl cat_pl over_pl over_plints z_mm
attribute [local go_sem] initTm ne_eq not_true_eq_false not_false_eq_true true_and and_true List.length_cons List.length_nil Int.toNat_natCast Nat.add_zero Nat.zero_add Nat.mul_one List.getElem?_cons_zero List.drop_zero List.take_length List.take_succ_cons List.take_zero List.take_nil List.drop_succ_cons Option.map_some Nat.le_refl implies_true List.getElem?_cons_succ decide_true decide_false Bool.not_true Bool.not_false beq_self_eq_true Nat.succ_ne_self Nat.one_ne_zero Nat.zero_ne_one vk_mk hk_mk nk_mk tok_eq plsOf_map intsOf_map bodyOf_pl bodyOf_ints bodyOf_strs bodyOf_sv part_aggv part_agg part_ai part_int part_str part_bool part_sl part_ptr part_nil numsOf_map u_int u_str u_bool u_pnil u_sl u_ptr u_oci u_ocs evq_nil evq_cons fillS_nil fillS_cons u_ocb ones_pl cells_sv cells_ints cells_strs cells_pl smms_nil smms_cons smm_min smm_max plsOf_nil List.nil_append List.all_cons List.all_nil Bool.and_self Bool.true_and Bool.and_true zws_len zw_len zi_len List.set_cons_zero List.set_cons_succ List.flatMap_cons List.flatMap_nil List.append_nil
attribute [local go_sem_proc] Nat.reduceEqDiff Nat.reduceAdd Nat.reduceMul Nat.reduceLT Nat.reduceLeDiff Nat.reduceSub Int.reduceToNat Int.reduceLE Int.reduceLT reduceCtorEq Int.reduceEq Int.reduceGT Int.reduceGE Int.reduceNeg
attribute [local go_sem_proc ↓] reduceIte
section
open Go.Proofs
variable {H : Hp} {n : Nat} {x : Nat → Option SO}
theorem ml2 {a b : Value} : List.map SV.v [a, b] = [.v a, .v b] := rfl
theorem sgP_one (l : Sg) : ((sgP l).all fun x => x.oneCell') = true := by
  induction l with
  | nil => rfl
  | cons g l ih => exact ih
set_option maxHeartbeats 4000000 in
theorem growsW {A B : List Bt} {m k bits : Nat} (hb : bits ≤ 255) (hm : m ≤ A.length) (hk : k ≤ B.length) (hokA : ∀ b ∈ A, b.ok) (hokB : ∀ b ∈ B, b.ok) :
    fnVC CT mQGrows [.v (.int .u8 bits), .sl 1 0 m 5, .sl 2 0 k 5] ⟨[(2, some ⟨false, .pl (btP B)⟩), (1, some ⟨false, .pl (btP A)⟩)], x⟩ 3 fun v H' n' => Sub 3 ⟨[(0, .v (.bool true))], ⟨[], x⟩, 3⟩ ⟨[(0, v)], H', n'⟩ := by
  obtain ⟨c1, hc1, hc2⟩ := or1 hb
  have hset := ok1set hc2
  have hs5 := setL_len c1 5
  have hrl : (rising (setL c1 5)).length ≤ (setL c1 5).length := by rw [← (cmp_srt (setL c1 5)).1]; refine Nat.le_trans (cmp_srt (setL c1 5)).2 ?_; rw [srtB_len]; exact Nat.le_refl _
  have hRc : 0 + (rising (setL c1 5)).length ≤ (risR (setL c1 5)).length := by unfold risR; rw [List.length_append]; omega
  have hR : rising (setL c1 5) = ((risR (setL c1 5)).drop 0).take (rising (setL c1 5)).length := by rw [List.drop_zero]; unfold risR; rw [List.take_left' rfl]
  have hmk : mkV (setL c1 5) 1 24 = .tup [.agg [.sl 24 0 (rising (setL c1 5)).length 1, .v (.int .i64 1)], .v (.int .i64 0)] := if_pos hset
  unfold mQGrows
  simp -implicitDefEqProofs only [↓fnVC, initTm]
  simp -implicitDefEqProofs only [go_sem]
  refine at_call tcounts7 countsS ?_
  simp -implicitDefEqProofs only [go_sem]
  refine at_call tring7 (ringS (by decide)) ?_
  simp only [keyL_app]
  simp -implicitDefEqProofs only [go_sem, hc1]
  refine at_call tset7 (setS (i := 3) (bits := c1) (need := 1) ⟨sub_ro rfl (by decide) (by rfl) rfl, sub_ro rfl (by decide) (by rfl) rfl, sub_ro rfl (by decide) (by rfl) rfl, sub_ro rfl (by decide) (by rfl) rfl, sub_ro rfl (by decide) (by rfl) rfl, sub_ro rfl (by decide) (by rfl) rfl, sub_ro rfl (by decide) (by rfl) rfl, sub_ro rfl (by decide) (by rfl) rfl, sub_ro rfl (by decide) (by rfl) rfl, sub_ro rfl (by decide) (by rfl) rfl, sub_ro rfl (by decide) (by rfl) rfl, sub_ro rfl (by decide) (by rfl) rfl, sub_ro rfl (by decide) (by rfl) rfl, sub_ro rfl (by decide) (by rfl) rfl, sub_ro rfl (by decide) (by rfl) rfl, sub_ro rfl (by decide) (by rfl) rfl, sub_ro rfl (by decide) (by rfl) rfl, sub_ro rfl (by decide) (by rfl) rfl, sub_ro rfl (by decide) (by rfl) rfl, sub_ro rfl (by decide) (by rfl) rfl, sub_ro rfl (by decide) (by rfl) rfl, trivial⟩ (by decide) (by decide)) ?_
  rw [hmk]
  simp -implicitDefEqProofs only [go_sem, spA, spB, spC, tk2]
  by_cases hm0 : m = 0
  · have g0 : decide ((m : Int) = 0) = true := decide_eq_true (by omega)
    simp -implicitDefEqProofs only [go_sem, g0]
    exact sub_val rfl (by decide) (by decide) rfl
  have g0 : decide ((m : Int) = 0) = false := decide_eq_false (by omega)
  have e1 : min (m : Int) 4 = ((min m 4 : Nat) : Int) := by omega
  have e2 : min (k : Int) 4 = ((min k 4 : Nat) : Int) := by omega
  obtain ⟨p, hp⟩ : ∃ p, p = min m 4 := ⟨_, rfl⟩
  obtain ⟨q, hq⟩ : ∃ q, q = min k 4 := ⟨_, rfl⟩
  rw [← hp] at e1
  rw [← hq] at e2
  have p8 : min p 8 = p := by omega
  have q8 : min q 8 = q := by omega
  simp -implicitDefEqProofs only [go_sem, g0, e1, e2, Nat.sub_zero]
  refine ⟨by omega, by omega, ?_⟩
  refine at_call tsigned7 (signedS (l := A) (i := 3) (b := 1) (m := p) ⟨sub_ro rfl (by decide) (by rfl) rfl, sub_ro rfl (by decide) (by rfl) rfl, sub_ro rfl (by decide) (by rfl) rfl, sub_ro rfl (by decide) (by rfl) rfl, sub_ro rfl (by decide) (by rfl) rfl, sub_ro rfl (by decide) (by rfl) rfl, sub_ro rfl (by decide) (by rfl) rfl, sub_ro rfl (by decide) (by rfl) rfl, sub_ro rfl (by decide) (by rfl) rfl, sub_ro rfl (by decide) (by rfl) rfl, sub_ro rfl (by decide) (by rfl) rfl, sub_ro rfl (by decide) (by rfl) rfl, sub_ro rfl (by decide) (by rfl) rfl, sub_ro rfl (by decide) (by rfl) rfl, sub_ro rfl (by decide) (by rfl) rfl, sub_ro rfl (by decide) (by rfl) rfl, sub_ro rfl (by decide) (by rfl) rfl, sub_ro rfl (by decide) (by rfl) rfl, sub_ro rfl (by decide) (by rfl) rfl, sub_ro rfl (by decide) (by rfl) rfl, sub_ro rfl (by decide) (by rfl) rfl, trivial⟩ (by rfl) (by decide) (by decide) (by omega) hokA) ?_
  rw [p8]
  simp -implicitDefEqProofs only [go_sem]
  refine at_call tsigned7 (signedS (l := B) (i := 3) (b := 2) (m := q) ⟨sub_ro rfl (by decide) (by rfl) rfl, sub_ro rfl (by decide) (by rfl) rfl, sub_ro rfl (by decide) (by rfl) rfl, sub_ro rfl (by decide) (by rfl) rfl, sub_ro rfl (by decide) (by rfl) rfl, sub_ro rfl (by decide) (by rfl) rfl, sub_ro rfl (by decide) (by rfl) rfl, sub_ro rfl (by decide) (by rfl) rfl, sub_ro rfl (by decide) (by rfl) rfl, sub_ro rfl (by decide) (by rfl) rfl, sub_ro rfl (by decide) (by rfl) rfl, sub_ro rfl (by decide) (by rfl) rfl, sub_ro rfl (by decide) (by rfl) rfl, sub_ro rfl (by decide) (by rfl) rfl, sub_ro rfl (by decide) (by rfl) rfl, sub_ro rfl (by decide) (by rfl) rfl, sub_ro rfl (by decide) (by rfl) rfl, sub_ro rfl (by decide) (by rfl) rfl, sub_ro rfl (by decide) (by rfl) rfl, sub_ro rfl (by decide) (by rfl) rfl, sub_ro rfl (by decide) (by rfl) rfl, trivial⟩ (by rfl) (by decide) (by decide) (by omega) hokB) ?_
  rw [q8]
  have g1 := btP_0 (l := A) (by omega)
  have htx : (A.getD 0 bE).text.size ≤ 1000000000 := (hokA _ (by rw [List.getD_eq_getElem?_getD, List.getElem?_eq_getElem (by omega)]; exact List.getElem_mem _)).2.2.1
  generalize (A.getD 0 bE).text = T at g1 htx
  have la := sgL_len A p
  have lb := sgL_len B q
  have za := sgL_z A p
  have zb := sgL_z B q
  generalize sgL A p = SA at la za ⊢
  generalize sgL B q = SB at lb zb ⊢
  have eA : (sgP SA).take (p * 2) = sgP SA := List.take_of_length_le (by rw [sgP_len, la]; omega)
  have eB : (sgP SB).take (q * 2) = sgP SB := List.take_of_length_le (by rw [sgP_len, lb]; omega)
  have oA := sgP_one SA
  have oB := sgP_one SB
  have nA := sgP_len SA
  have nB := sgP_len SB
  simp -implicitDefEqProofs only [go_sem, g1, eA, eB, oA, oB]
  refine ⟨by omega, by omega, by omega, by omega, by omega, by omega, by omega, by omega, ?_⟩
  obtain ⟨G, hG⟩ : ∃ G, G = SB ++ SA := ⟨_, rfl⟩
  obtain ⟨N, hN⟩ : ∃ N, N = q + p := ⟨_, rfl⟩
  have hGP : sgP SB ++ sgP SA = sgP G := by rw [hG, sgP_app]
  have hGl : G.length = N := by rw [hG, List.length_append]; omega
  have zG : sgZ G := fun g hg => by
    rw [hG] at hg
    exact (List.mem_append.1 hg).elim (zb g) (za g)
  rw [hGP, ← hN]
  have nG := sgP_len G
  refine loop_fam (fun (j : Nat) => j ≤ N)
    (fun j => ⟨[(8, .ptr 25 0), (10, .sl 26 0 p 2), (12, .v (.string T)), (13, .sl 30 0 N 2), (14, .sl 31 0 (2 * j) 2), (65, .v (.int .i64 N)), (66, .v (.int .i64 j))], ⟨[(24, some ⟨true, .strs (risR (setL c1 5))⟩), (25, some ⟨true, .sv [.sl 24 0 (rising (setL c1 5)).length 1, .v (.int .i64 1)]⟩), (26, some ⟨true, .pl (sgP SA)⟩), (30, some ⟨true, .pl (sgP G)⟩), (31, some ⟨true, .pl (sgP (bkL G j))⟩)], x⟩, 32⟩)
    (fun j => N - j) 0 (Nat.zero_le _) ?_ ?_
  · refine sub_mk [(31, 0)] rfl rfl rfl ?_
    simp only [tmSub, hpSub, objSub, eqTm, eqHp, rn, lk, SV.ren, SV.renC, SV.renB, SV.renA, ren_ints, ren_strs, ren_pl, ren_svs, SV.v.injEq, Value.int.injEq, Body.ints.injEq, SV.ptr.injEq, SV.sl.injEq, Value.string.injEq, Value.bool.injEq, List.map_cons, List.map_nil, forall_const, Nat.reduceLT, Nat.lt_add_one, imp_self, true_and, and_true, and_self, ob_some, get_mk, lk_cons, ↓reduceIte, Nat.reduceEqDiff, ne_eq, not_true_eq_false, not_false_eq_true, Nat.one_ne_zero, Nat.zero_ne_one, Nat.succ_ne_self, Nat.reduceAdd, Bool.false_eq_true, false_implies, implies_true, reduceCtorEq]
    exact ⟨rfl, rfl⟩
  · intro j hj
    have nK := sgP_len (bkL G j)
    have lK := bkL_len G j
    simp -implicitDefEqProofs only [go_sem]
    refine condK_bb (fun d => ?_) (fun d => ?_)
    · have d1 : j < N := by have := of_decide_eq_true d; omega
      have w1 : IntKind.i64.wrap ((N : Int) - 1) = ((N - 1 : Nat) : Int) := by rw [wrap_i64 (by omega) (by omega)]; omega
      have w2 : IntKind.i64.wrap (((N - 1 : Nat) : Int) - (j : Int)) = ((N - 1 - j : Nat) : Int) := by rw [wrap_i64 (by omega) (by omega)]; omega
      have w3 : IntKind.i64.wrap ((j : Int) + 1) = ((j + 1 : Nat) : Int) := by rw [wrap_i64 (by omega) (by omega)]; omega
      have s1 := sgP_at (l := G) (j := N - 1 - j) (by omega)
      have s2 := sgP_at (l := G) (j := j) (by omega)
      have x1 : (N - 1 - j) * 2 = 2 * (N - 1 - j) := by omega
      have x2 : j * 2 = 2 * j := by omega
      have x3 : 2 * j * 2 = 4 * j := by omega
      have hsu : bkL G (j + 1) = bkL G j ++ [G.getD (N - 1 - j) gE, G.getD j gE] := by show bkL G j ++ [G.getD (G.length - 1 - j) gE, G.getD j gE] = _; rw [hGl]
      have eK : (sgP (bkL G j)).take (4 * j) = sgP (bkL G j) := List.take_of_length_le (by omega)
      simp -implicitDefEqProofs only [go_sem, d, w1, w2, s1, s2, x1, x2, x3, eK, ml2, pl4, List.length_cons, List.length_nil]
      refine ⟨⟨by omega, by omega⟩, by omega, ⟨by omega, by omega⟩, by omega, ?_⟩
      simp -implicitDefEqProofs only [go_sem, d, w1, w2, w3, s1, s2, x1, x2, x3, eK, ml2, pl4, List.length_cons, List.length_nil]
      refine ⟨by omega, by omega, by omega, ?_⟩
      refine kLoop_mk (j + 1) (by omega) (by omega) ?_
      refine sub_mk [(31, 33)] rfl rfl rfl ?_
      simp only [tmSub, hpSub, objSub, eqTm, eqHp, rn, lk, SV.ren, SV.renC, SV.renB, SV.renA, ren_ints, ren_strs, ren_pl, ren_svs, SV.v.injEq, Value.int.injEq, Body.ints.injEq, SV.ptr.injEq, SV.sl.injEq, Value.string.injEq, Value.bool.injEq, List.map_cons, List.map_nil, forall_const, Nat.reduceLT, Nat.lt_add_one, imp_self, true_and, and_true, and_self, ob_some, get_mk, lk_cons, ↓reduceIte, Nat.reduceEqDiff, ne_eq, not_true_eq_false, not_false_eq_true, Nat.one_ne_zero, Nat.zero_ne_one, Nat.succ_ne_self, Nat.reduceAdd, Bool.false_eq_true, false_implies, implies_true, reduceCtorEq, hsu, sgP_app]
      exact ⟨⟨by omega, w3⟩, rfl⟩
    · have d1 : j = N := by have := of_decide_eq_false d; omega
      subst d1
      simp -implicitDefEqProofs only [go_sem, d]
      have hgA : SA = ((SA.drop 0).take p) := by rw [List.drop_zero, List.take_of_length_le (by omega)]
      have hgG : G = ((G.drop 0).take j) := by rw [List.drop_zero, List.take_of_length_le (by omega)]
      have hgK : bkL G j = (((bkL G j).drop 0).take (2 * j)) := by rw [List.drop_zero, List.take_of_length_le (by omega)]
      have zK : sgZ (bkL G j) := fun g hg => zG g (bkL_sub (by omega) g hg)
      obtain ⟨L, hL⟩ : ∃ L, L = rising (setL c1 5) := ⟨_, rfl⟩
      obtain ⟨RR, hRR⟩ : ∃ RR, RR = risR (setL c1 5) := ⟨_, rfl⟩
      rw [← hL, ← hRR] at hRc hR
      rw [← hL] at hset hrl
      rw [← hL, ← hRR]
      refine at_call tQWho (whoS (a := 24) (b := 26) (l := L) (ss := RR) (o := 0) (m := L.length) (gl := SA) (gs := SA) (p := 0) (k := p) (need := 1) (text := T) (by rfl) (by rfl) (by decide) (by decide) hR hRc (by omega) hgA (by omega) (by omega) za htx) ?_
      simp -implicitDefEqProofs only [go_sem]
      refine at_call tQWho (whoS (a := 24) (b := 30) (l := L) (ss := RR) (o := 0) (m := L.length) (gl := G) (gs := G) (p := 0) (k := j) (need := 1) (text := T) (by rfl) (by rfl) (by decide) (by decide) hR hRc (by omega) hgG (by omega) (by omega) zG htx) ?_
      simp -implicitDefEqProofs only [go_sem]
      refine at_call tQWho (whoS (a := 24) (b := 31) (l := L) (ss := RR) (o := 0) (m := L.length) (gl := bkL G j) (gs := bkL G j) (p := 0) (k := 2 * j) (need := 1) (text := T) (by rfl) (by rfl) (by decide) (by decide) hR hRc (by omega) hgK (by omega) (by omega) zK htx) ?_
      have ebk : whoL L 1 T (bkL G j) = whoL L 1 T G := by rw [← hGl]; exact who_bk L 1 T G
      rw [ebk]
      have hsub : (whoL L 1 T SA).Sublist (whoL L 1 T G) := by rw [hG]; exact who_sub L 1 T SA SB
      have hw1 := whoL_len L 1 T SA
      have hw2 := whoL_len L 1 T G
      generalize whoL L 1 T SA = few at hsub hw1 ⊢
      generalize whoL L 1 T G = many at hsub hw2 ⊢
      have hall := grd_all few many 0 (Nat.zero_le _) (by rw [List.drop_zero]; exact hsub)
      simp -implicitDefEqProofs only [go_sem]
      refine loop_fam (fun (i : Nat) => i ≤ many.length)
        (fun i => ⟨[(16, .sl 32 0 few.length 1), (17, .sl 33 0 many.length 1), (18, .sl 34 0 many.length 1), (19, .v (.int .i64 (grd few (many.take i) 0 : Nat))), (97, .sl 33 0 many.length 1), (98, .v (.int .i64 many.length)), (99, .v (.int .i64 i))], ⟨[(32, some ⟨true, .strs few⟩), (33, some ⟨true, .strs many⟩), (34, some ⟨true, .strs many⟩)], x⟩, 35⟩)
        (fun i => many.length - i) 0 (Nat.zero_le _) ?_ ?_
      · refine sub_mk [] rfl rfl rfl ?_
        simp only [tmSub, hpSub, objSub, eqTm, eqHp, rn, lk, SV.ren, SV.renC, SV.renB, SV.renA, ren_ints, ren_strs, ren_pl, ren_svs, SV.v.injEq, Value.int.injEq, Body.ints.injEq, SV.ptr.injEq, SV.sl.injEq, Value.string.injEq, Value.bool.injEq, List.map_cons, List.map_nil, forall_const, Nat.reduceLT, Nat.lt_add_one, imp_self, true_and, and_true, and_self, ob_some, get_mk, lk_cons, ↓reduceIte, Nat.reduceEqDiff, ne_eq, not_true_eq_false, not_false_eq_true, Nat.one_ne_zero, Nat.zero_ne_one, Nat.succ_ne_self, Nat.reduceAdd, Bool.false_eq_true, false_implies, implies_true, reduceCtorEq]
        exact ⟨rfl, rfl⟩
      · intro i hi
        have hle := grd_le few (many.take i) 0 (Nat.zero_le _)
        simp -implicitDefEqProofs only [go_sem]
        refine condK_bb (fun e => ?_) (fun e => ?_)
        · have e1 : i < many.length := by have := of_decide_eq_true e; omega
          have w3 : IntKind.i64.wrap ((i : Int) + 1) = ((i + 1 : Nat) : Int) := by rw [wrap_i64 (by omega) (by omega)]; omega
          have e4 : many.take (i + 1) = many.take i ++ [many.getD i .empty] := by rw [List.take_add_one, List.getD_eq_getElem?_getD, List.getElem?_eq_getElem e1]; rfl
          have e5 := grd_snoc few (many.take i) (many.getD i .empty) 0
          rw [← e4] at e5
          generalize grd few (many.take i) 0 = z at hle e5 ⊢
          have w4 : IntKind.i64.wrap ((z : Int) + 1) = ((z + 1 : Nat) : Int) := by rw [wrap_i64 (by omega) (by omega)]; omega
          by_cases c : z < few.length
          · have c1 : decide ((z : Int) < (few.length : Int)) = true := decide_eq_true (by omega)
            by_cases h : few.getD z .empty = many.getD i .empty
            · have h1 : seq (few.getD z .empty) (many.getD i .empty) = true := by rw [h]; exact seq_self _
              rw [if_pos ⟨c, h⟩] at e5
              simp -implicitDefEqProofs only [go_sem, e, c1, h1, w3, w4]
              refine ⟨⟨by omega, by omega⟩, by omega, ⟨by omega, by omega⟩, by omega, ?_⟩
              refine kLoop_mk (i + 1) (by omega) (by omega) ?_
              refine sub_mk [] rfl rfl rfl ?_
              simp only [tmSub, hpSub, objSub, eqTm, eqHp, rn, lk, SV.ren, SV.renC, SV.renB, SV.renA, ren_ints, ren_strs, ren_pl, ren_svs, SV.v.injEq, Value.int.injEq, Body.ints.injEq, SV.ptr.injEq, SV.sl.injEq, Value.string.injEq, Value.bool.injEq, List.map_cons, List.map_nil, forall_const, Nat.reduceLT, Nat.lt_add_one, imp_self, true_and, and_true, and_self, ob_some, get_mk, lk_cons, ↓reduceIte, Nat.reduceEqDiff, ne_eq, not_true_eq_false, not_false_eq_true, Nat.one_ne_zero, Nat.zero_ne_one, Nat.succ_ne_self, Nat.reduceAdd, Bool.false_eq_true, false_implies, implies_true, reduceCtorEq, e5]
            · have h1 : seq (few.getD z .empty) (many.getD i .empty) = false := seq_ne h
              rw [if_neg (fun k => h k.2)] at e5
              simp -implicitDefEqProofs only [go_sem, e, c1, h1, w3, w4]
              refine ⟨⟨by omega, by omega⟩, by omega, ⟨by omega, by omega⟩, by omega, ?_⟩
              refine kLoop_mk (i + 1) (by omega) (by omega) ?_
              refine sub_mk [] rfl rfl rfl ?_
              simp only [tmSub, hpSub, objSub, eqTm, eqHp, rn, lk, SV.ren, SV.renC, SV.renB, SV.renA, ren_ints, ren_strs, ren_pl, ren_svs, SV.v.injEq, Value.int.injEq, Body.ints.injEq, SV.ptr.injEq, SV.sl.injEq, Value.string.injEq, Value.bool.injEq, List.map_cons, List.map_nil, forall_const, Nat.reduceLT, Nat.lt_add_one, imp_self, true_and, and_true, and_self, ob_some, get_mk, lk_cons, ↓reduceIte, Nat.reduceEqDiff, ne_eq, not_true_eq_false, not_false_eq_true, Nat.one_ne_zero, Nat.zero_ne_one, Nat.succ_ne_self, Nat.reduceAdd, Bool.false_eq_true, false_implies, implies_true, reduceCtorEq, e5]
          · have c1 : decide ((z : Int) < (few.length : Int)) = false := decide_eq_false (by omega)
            rw [if_neg (fun k => c k.1)] at e5
            simp -implicitDefEqProofs only [go_sem, e, c1, w3, w4]
            refine ⟨⟨by omega, by omega⟩, by omega, ?_⟩
            refine kLoop_mk (i + 1) (by omega) (by omega) ?_
            refine sub_mk [] rfl rfl rfl ?_
            simp only [tmSub, hpSub, objSub, eqTm, eqHp, rn, lk, SV.ren, SV.renC, SV.renB, SV.renA, ren_ints, ren_strs, ren_pl, ren_svs, SV.v.injEq, Value.int.injEq, Body.ints.injEq, SV.ptr.injEq, SV.sl.injEq, Value.string.injEq, Value.bool.injEq, List.map_cons, List.map_nil, forall_const, Nat.reduceLT, Nat.lt_add_one, imp_self, true_and, and_true, and_self, ob_some, get_mk, lk_cons, ↓reduceIte, Nat.reduceEqDiff, ne_eq, not_true_eq_false, not_false_eq_true, Nat.one_ne_zero, Nat.zero_ne_one, Nat.succ_ne_self, Nat.reduceAdd, Bool.false_eq_true, false_implies, implies_true, reduceCtorEq, e5]
        · have e1 : i = many.length := by have := of_decide_eq_false e; omega
          subst e1
          have et : many.take many.length = many := List.take_length
          have ea : grd few (many.take many.length) 0 = few.length := by rw [et, hall]
          have eb : decide ((few.length : Int) = (few.length : Int)) = true := decide_eq_true rfl
          simp -implicitDefEqProofs only [go_sem, e, ea, hall, et, eb]
          refine at_call tSameTexts (sameS (a := 33) (b := 34) (la := many) (lb := many) (by rfl) (by rfl) (by decide) (by rw [List.drop_zero, List.take_length]) (by rw [List.drop_zero, List.take_length]) (by omega) (by omega) (by omega)) ?_
          rw [decide_eq_true rfl]
          simp -implicitDefEqProofs only [go_sem]
          exact sub_val rfl (by decide) (by decide) rfl
end
end Go.Sx