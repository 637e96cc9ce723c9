/- Cells: readers. -/
import Derived.Test.YtjjnmdpppcmmfaaGreatDoorBtH
import Derived.Sort.Walk0
import Derived.Test.YtjjnmdpppcmmfaaGreatDoorBtD

set_option linter.unusedVariables false
set_option linter.unusedSimpArgs false
set_option maxRecDepth 100000
namespace Go.Sx
attribute [local go_sem ↓] bind_mk intsB_mk strsB_mk svB_mk fnVC ob_some vc_skip vc_exit vc_ret vc_seq vc_block kSeq_normal kSeq_exit kSeq_ret kBlock_normal kBlock_exit kBlock_ret vc_reg vc_regD vc_cond condK_true condK_false vc_loop kLoop_exit kLoop_ret kRoll_normal kRoll_exit kRoll_ret vcOps_nil vcOps_cons gd_bool gd_undef put_some put_none vcT_fin vcT_pure vcT_act vcT_acts vcT_stop stab_none stab_some stabM_nil stabM_cons stabO_ld stabO_ldn stabO_slP stabO_b2s fldOf_ai fldOf_agg fldOf_ait fldOf_aggt intsOf_nil intsOf_cons strsOf_nil strsOf_cons c_omap ob_if lk_nil lk_cons ev_t ev_k z_mov z_pick z_bin z_binA z_binB z_binP z_un z_r2s z_conv z_s2b z_b2s z_mkM z_luM z_upM z_lenM lenMk_mp lenMk_nil plsOf_v z_delM asM_so plV_v plV_agg mpOf_mp mpOf_nil mpUp_mp asM_mp luV_ok luV_v z_allocT aggOf_mk z_boxT z_alloc z_bld z_bldI z_rowI z_rowS z_ld z_ldn z_st z_stn asN_ptr asN_fn z_nilck z_fld z_fadr z_idxA z_idxP z_idxS z_idxV z_slS z_slL z_slP z_mk z_lenS z_lenL z_app appC_ints appC_pl appC_sv appC_strs isS_strs loose_ints loose_pl loose_sv z_slM z_callv callvK_fn callvK_f callvK_yl vc_rangeF rfEnd_eq rfGo_none rfGo_ret rfGo_exit yGo_mk yEnd_n yEnd_r yEnd_e yRdy_mk yMid_n putPs_nil putPs_cons leaf_v leaf_ptr leaf_sl leaf_yl leaf_mp z_appS z_appST z_appZ z_cpyS z_mkfn reps_int reps_str z_rowV z_slnil nilK_zero z_cpy z_call asT_tup z_extT z_box boxOf_ai boxOf_agg boxOf_int boxOf_str boxOf_bool boxOf_ptr boxOf_sl sbin_int sbin_str sbinA_mk ae_nil ae_int ae_str sbinB_mk sbinP_nn sbinP_pn sbinP_np i_add i_sub i_mul i_quo i_rem i_and i_or i_xor i_andNot i_shl i_shr i_eql i_neq i_lss i_leq i_gtr i_geq st_add st_eql st_neq st_lss st_leq st_gtr st_geq bo_eql bo_neq pt_eql pt_neq un_neg un_xor un_not asI_mk asB_mk asS_mk asP_mk asSl_mk asBy_mk bnd_none bnd_some get_mk hput_mk hdel_mk kill_eq wrOf_eq rowOf_eq rsvs_0 rsvs_1 rsvs_2 rsvs_3 rsv_t rsv_c1 rsv_cn nt_v nt_ptr nt_sl nt_agg nt_ai get_ints get_strs get_pl get_sv getN_ints getN_sv set_ints set_strs set_sv setN_ints setN_sv part_ints part_strs part_sv cat_ints cat_strs cat_sv over_ints over_strs over_sv ones_ints ones_strs evs_nil evs_cons condK_eqt condK_eqf det_callP V_ns V_nn V_gs V_gn obC_mk fresh_ev freshT_ev freshR_ev setN_plagg setN_intsv setN_svai setN_svagg over_intsv set_pl setN_pl setN_plai getN_pl getN_strs part_pl cat_pl over_pl over_plints z_mm
attribute [local go_sem] initTm ne_eq not_true_eq_false not_false_eq_true true_and and_true List.length_cons List.length_nil Int.toNat_natCast Nat.add_zero Nat.zero_add Nat.mul_one List.getElem?_cons_zero List.drop_zero List.take_length List.take_succ_cons List.take_zero List.take_nil List.drop_succ_cons Option.map_some Nat.le_refl implies_true List.getElem?_cons_succ decide_true decide_false Bool.not_true Bool.not_false beq_self_eq_true Nat.succ_ne_self Nat.one_ne_zero Nat.zero_ne_one vk_mk hk_mk nk_mk tok_eq plsOf_map intsOf_map bodyOf_pl bodyOf_ints bodyOf_strs bodyOf_sv part_aggv part_agg part_ai part_int part_str part_bool part_sl part_ptr part_nil numsOf_map u_int u_str u_bool u_pnil u_sl u_ptr u_oci u_ocs evq_nil evq_cons fillS_nil fillS_cons u_ocb ones_pl cells_sv cells_ints cells_strs cells_pl smms_nil smms_cons smm_min smm_max plsOf_nil List.nil_append List.all_cons List.all_nil Bool.and_self Bool.true_and Bool.and_true zws_len zw_len zi_len List.set_cons_zero List.set_cons_succ List.flatMap_cons List.flatMap_nil List.append_nil
attribute [local go_sem_proc] Nat.reduceEqDiff Nat.reduceAdd Nat.reduceMul Nat.reduceLT Nat.reduceLeDiff Nat.reduceSub Int.reduceToNat Int.reduceLE Int.reduceLT reduceCtorEq Int.reduceEq Int.reduceGT Int.reduceGE Int.reduceNeg
attribute [local go_sem_proc ↓] reduceIte
section
open Go.Proofs
variable {H : Hp} {n : Nat} {x : Nat → Option SO} {i : Nat}
theorem rdOS {f : Nat} {m : MFn} {args : List SV} {v : SV} {s s' : ByteArray} {e e' : Int} (t : trFn Tryz.prog f = some m) (ha : ∀ π, args.map (SV.ren π) = args) (hlt : args.all (ltT 2) = true) (hv : ∀ π, v.ren π = v)
    (hm : ∀ x, fnVC CT m (.ptr 1 0 :: args) ⟨[(1, some (rdO s e))], x⟩ 2 fun w H' n' => Sub 2 ⟨[(0, v)], ⟨[(1, some (rdO s' e'))], x⟩, 2⟩ ⟨[(0, w)], H', n'⟩)
    (hg : H.get i = some (rdO s e)) (hi : 0 < i ∧ i < 1000) : SpecAt Tryz.prog f (.ptr i 0 :: args) H n v ⟨(i, some (rdO s' e')) :: H.l, H.x⟩ n := by
  have := lift (n := n) (okT.spec t (hm H.x)) [(1, i)] rfl rfl (by rw [List.all_cons, hlt]; rfl) (by omega) rfl rfl
    ⟨sub_wr rfl hi.1 hi.2 hg rfl, trivial⟩ (by simp [apartB, apart1, rn, lk]) (by simp [wrNZ, rn, lk]; omega) (by omega)
  rw [hv, List.map_cons, ha] at this
  exact this
theorem textS {nm rest : ByteArray} {most : Nat} (hn : nm.size ≤ most) (hm : most ≤ 65535) (hg : H.get i = some (rdO (tx (be nm.size 2) ++ (nm ++ rest)) 0)) (hi : 0 < i ∧ i < 1000) :
    SpecAt Tryz.prog nRText [.ptr i 0, .v (.int .i64 most)] H n (.v (.string nm)) ⟨(i, some (rdO rest 0)) :: H.l, H.x⟩ n := rdOS tRText (fun _ => rfl) rfl (fun _ => rfl) (by
  intro x
  have hA : (tx (be nm.size 2)).size = 2 := by rw [tx_sz, be_len]
  have hb : bts (tx (be nm.size 2)) = be nm.size 2 := btx be_bytes
  have hnum : num (tx (be nm.size 2)) = nm.size := num_be hb (by omega)
  have hz : (tx (be nm.size 2) ++ (nm ++ rest)).size = 2 + (nm.size + rest.size) := by rw [ByteArray.size_append, ByteArray.size_append, hA]
  have hz2 : (nm ++ rest).size = nm.size + rest.size := ByteArray.size_append
  have r1 : rawT (tx (be nm.size 2) ++ (nm ++ rest)) 0 2 = tx (be nm.size 2) := by unfold rawT; rw [if_neg (by omega)]; exact ex_a hA
  have r2 : rawS (tx (be nm.size 2) ++ (nm ++ rest)) 0 2 = nm ++ rest := by unfold rawS; rw [if_neg (by omega)]; exact ex_r hA
  have r3 : rawE (tx (be nm.size 2) ++ (nm ++ rest)) 0 2 = 0 := by unfold rawE; rw [if_neg (by omega), if_neg (by omega)]
  have q1 : rawT (nm ++ rest) 0 nm.size = nm := by unfold rawT; rw [if_neg (by omega)]; exact ex_a rfl
  have q2 : rawS (nm ++ rest) 0 nm.size = rest := by unfold rawS; rw [if_neg (by omega)]; exact ex_r rfl
  have q3 : rawE (nm ++ rest) 0 nm.size = 0 := by unfold rawE; rw [if_neg (by omega), if_neg (by omega)]
  unfold mRText
  simp -implicitDefEqProofs only [↓fnVC, initTm]
  simp -implicitDefEqProofs only [go_sem]
  refine at_call tRErr (errS (s := tx (be nm.size 2) ++ (nm ++ rest)) (e := 0) (by rfl)) ?_
  unfold rdO
  simp -implicitDefEqProofs only [go_sem]
  refine at_call tRTwo (twoS (i := 1) (s := tx (be nm.size 2) ++ (nm ++ rest)) (e := 0) (by rfl) (by decide)) ?_
  rw [r1, r2, r3, hnum]
  have mx : max (most : Int) 0 = (most : Int) := by omega
  have b1 : decide ((nm.size : Int) > (most : Int)) = false := decide_eq_false (by omega)
  simp -implicitDefEqProofs only [go_sem, mx, b1]
  refine at_call tRRaw (rawSp (i := 1) (s := nm ++ rest) (e := 0) (k := nm.size) (by rfl) (by decide) (by omega)) ?_
  rw [q1, q2, q3]
  unfold rdO
  simp -implicitDefEqProofs only [go_sem]
  refine sub_mk [] rfl rfl rfl ?_
  simp only [tmSub, hpSub, objSub, eqTm, eqHp, rn, lk, SV.ren, SV.renC, SV.renB, SV.renA, ren_ints, ren_strs, ren_pl, ren_svs, SV.v.injEq, Value.int.injEq, Body.ints.injEq, SV.ptr.injEq, SV.sl.injEq, Value.string.injEq, Value.bool.injEq, List.map_cons, List.map_nil, forall_const, Nat.reduceLT, Nat.lt_add_one, imp_self, true_and, and_true, and_self, ob_some, get_mk, lk_cons, ↓reduceIte, Nat.reduceEqDiff, ne_eq, not_true_eq_false, not_false_eq_true, Nat.one_ne_zero, Nat.zero_ne_one, Nat.succ_ne_self, Nat.reduceAdd, Bool.false_eq_true, false_implies, implies_true, reduceCtorEq]) hg hi
theorem endS0 (hg : H.get i = some (rdO ⟨#[]⟩ 0)) (hi : 0 < i ∧ i < 1000) : SpecAt Tryz.prog nREnd [.ptr i 0] H n (.v (.int .i64 0)) ⟨(i, some (rdO ⟨#[]⟩ 0)) :: H.l, H.x⟩ n := rdOS (args := []) tREnd (fun _ => rfl) rfl (fun _ => rfl) (by
  intro x
  unfold mREnd
  simp -implicitDefEqProofs only [↓fnVC, initTm]
  unfold rdO
  simp -implicitDefEqProofs only [go_sem]
  refine in_call mixT tRLeft ?_
  unfold mRLeft
  simp -implicitDefEqProofs only [↓fnVC, initTm]
  simp -implicitDefEqProofs only [go_sem]
  have b1 : decide (((#[] : Array UInt8).size : Int) > 0) = false := rfl
  simp -implicitDefEqProofs only [go_sem, b1]
  refine at_call tRErr (errS (s := ⟨#[]⟩) (e := 0) (by rfl)) ?_
  simp -implicitDefEqProofs only [go_sem]
  refine sub_mk [] rfl rfl rfl ?_
  simp only [tmSub, hpSub, objSub, eqTm, eqHp, rn, lk, SV.ren, SV.renC, SV.renB, SV.renA, ren_ints, ren_strs, ren_pl, ren_svs, SV.v.injEq, Value.int.injEq, Body.ints.injEq, SV.ptr.injEq, SV.sl.injEq, Value.string.injEq, Value.bool.injEq, List.map_cons, List.map_nil, forall_const, Nat.reduceLT, Nat.lt_add_one, imp_self, true_and, and_true, and_self, ob_some, get_mk, lk_cons, ↓reduceIte, Nat.reduceEqDiff, ne_eq, not_true_eq_false, not_false_eq_true, Nat.one_ne_zero, Nat.zero_ne_one, Nat.succ_ne_self, Nat.reduceAdd, Bool.false_eq_true, false_implies, implies_true, reduceCtorEq]) hg hi
end
end Go.Sx
/- Cells: names rise. -/
set_option linter.unusedVariables false
set_option linter.unusedSimpArgs false
set_option maxRecDepth 100000
namespace Go.Sx
open Go.Proofs
theorem srtL {es : List (Value × Value)} : (srtK es).map (fun s => s.data.toList) = (es.map keyB).mergeSort fun x y => decide (x ≤ y) := by
  unfold srtK
  rw [List.map_map]
  exact List.map_id _
theorem srt_pw {es : List (Value × Value)} : ((srtK es).map fun s => s.data.toList).Pairwise (· ≤ ·) := by
  rw [srtL]
  have := List.pairwise_mergeSort (le := fun x y : List UInt8 => decide (x ≤ y)) (fun a b c h1 h2 => by
    simp only [decide_eq_true_eq] at h1 h2 ⊢; exact List.le_trans h1 h2) (fun a b => by
    rcases List.le_total a b with h | h
    · simp [h]
    · simp [h]) (es.map keyB)
  exact this.imp fun h => of_decide_eq_true h
theorem srt_nd {es : List (Value × Value)} (h : (es.map keyB).Nodup) : (srtK es).Nodup := by
  have : ((srtK es).map fun s => s.data.toList).Nodup := by
    rw [srtL]
    exact (List.mergeSort_perm _ _).nodup_iff.2 h
  exact List.Pairwise.imp (fun h e => h (by rw [e])) (List.pairwise_map.1 this)
theorem sle_ff {s t : ByteArray} (h : t.data.toList ≤ s.data.toList) (hn : s ≠ t) : sle s t = false := by
  unfold sle
  rw [bytesLess_eq]
  have h1 : s.toList = s.data.toList := Go.Lib.toList_data s
  have h2 : t.toList = t.data.toList := Go.Lib.toList_data t
  rw [h1, h2]
  have h3 : decide (s.data.toList < t.data.toList) = false := decide_eq_false (List.not_lt.2 h)
  rw [h3, Bool.false_or]
  refine Bool.eq_false_iff.2 fun e => hn ?_
  have e := eq_of_beq e
  exact ByteArray.ext (Array.toList_inj.1 e)
theorem sle_emp {s : ByteArray} (h : s.size ≠ 0) : sle s ⟨#[]⟩ = false :=
  sle_ff (s := s) (t := ⟨#[]⟩) (List.nil_le _) (fun e => h (by rw [e]; rfl))
theorem nm_get {es : List (Value × Value)} {j : Nat} (h : j < es.length) : (srtK es)[j]? = some (nmAt es j) := by
  unfold nmAt
  rw [List.getD_eq_getElem?_getD, List.getElem?_eq_getElem (by rw [srtK_len]; exact h)]
  rfl
theorem nm_le {es : List (Value × Value)} {i j : Nat} (hij : i < j) (h : j < es.length) : (nmAt es i).data.toList ≤ (nmAt es j).data.toList := by
  have hp := srt_pw (es := es)
  rw [List.pairwise_iff_getElem] at hp
  have := hp i j (by rw [List.length_map, srtK_len]; omega) (by rw [List.length_map, srtK_len]; omega) hij
  rw [List.getElem_map, List.getElem_map] at this
  have e1 : (srtK es)[i]'(by rw [srtK_len]; omega) = nmAt es i := by
    have := nm_get (es := es) (j := i) (by omega); rw [List.getElem?_eq_getElem (by rw [srtK_len]; omega)] at this; exact Option.some.inj this
  have e2 : (srtK es)[j]'(by rw [srtK_len]; omega) = nmAt es j := by
    have := nm_get (es := es) h; rw [List.getElem?_eq_getElem (by rw [srtK_len]; omega)] at this; exact Option.some.inj this
  rw [e1, e2] at this
  exact this
theorem nm_ne {es : List (Value × Value)} (hn : (es.map keyB).Nodup) {i j : Nat} (hij : i < j) (h : j < es.length) : nmAt es j ≠ nmAt es i := by
  have hp := srt_nd hn
  unfold List.Nodup at hp
  rw [List.pairwise_iff_getElem] at hp
  have := hp i j (by rw [srtK_len]; omega) (by rw [srtK_len]; omega) hij
  have e1 : (srtK es)[i]'(by rw [srtK_len]; omega) = nmAt es i := by
    have := nm_get (es := es) (j := i) (by omega); rw [List.getElem?_eq_getElem (by rw [srtK_len]; omega)] at this; exact Option.some.inj this
  have e2 : (srtK es)[j]'(by rw [srtK_len]; omega) = nmAt es j := by
    have := nm_get (es := es) h; rw [List.getElem?_eq_getElem (by rw [srtK_len]; omega)] at this; exact Option.some.inj this
  rw [e1, e2] at this
  exact fun e => this e.symm
theorem Es.nmpos {es : List (Value × Value)} (h : Es es) {j : Nat} (hj : j < es.length) : (nmAt es j).size ≠ 0 := by
  intro e
  have hm := srtK_mem (nmAt_mem hj)
  obtain ⟨e', he', hk'⟩ := List.mem_map.1 hm
  refine h.ne e' he' ?_
  rw [hk', ba_zero e]
theorem Es.sle_ff {es : List (Value × Value)} (h : Es es) {j : Nat} (hj : j < es.length) : sle (nmAt es j) (if j = 0 then ⟨#[]⟩ else nmAt es (j - 1)) = false := by
  by_cases h0 : j = 0
  · rw [if_pos h0]; exact sle_emp (h.nmpos hj)
  · rw [if_neg h0]; exact Sx.sle_ff (nm_le (by omega) hj) (nm_ne h.nd (by omega) hj)
theorem up_new {f : ByteArray → Value} {s : ByteArray} {y : Value} : ∀ {l : List ByteArray}, s ∉ l → upS (l.map fun nm => (.string nm, f nm)) s y = (l.map fun nm => (.string nm, f nm)) ++ [(.string s, y)]
  | [], _ => rfl
  | t :: l, h => by
    have h1 : t ≠ s := fun e => h (by rw [e]; exact List.mem_cons_self ..)
    have h2 : s ∉ l := fun e => h (List.mem_cons_of_mem _ e)
    rw [List.map_cons]
    unfold upS
    rw [if_neg (by unfold keyIs; rw [decide_eq_true_eq]; exact h1), up_new h2]
    rfl
def srtE (es : List (Value × Value)) : List (Value × Value) := (srtK es).map fun nm => (.string nm, .agg ⟨[.string (tOf es nm)]⟩)
theorem srtE_up {es : List (Value × Value)} (h : (es.map keyB).Nodup) {j : Nat} (hj : j < es.length) :
    upS ((srtE es).take j) (nmAt es j) (.agg ⟨[.string (tOf es (nmAt es j))]⟩) = (srtE es).take (j + 1) := by
  have hn : nmAt es j ∉ (srtK es).take j := by
    intro hm
    obtain ⟨i, hi, e⟩ := List.getElem_of_mem hm
    rw [List.length_take] at hi
    rw [List.getElem_take] at e
    have e1 : (srtK es)[i]'(by omega) = nmAt es i := by
      have := nm_get (es := es) (j := i) (by omega); rw [List.getElem?_eq_getElem (by omega)] at this; exact Option.some.inj this
    rw [e1] at e
    exact nm_ne h (by omega) hj e.symm
  unfold srtE
  rw [← List.map_take, up_new hn, ← List.map_take, List.take_add_one, nm_get hj]
  simp
theorem srtE_keys {es : List (Value × Value)} {j : Nat} : keysS ((srtE es).take j) = true := by
  unfold keysS srtE
  rw [List.all_eq_true]
  intro e he
  obtain ⟨nm, _, rfl⟩ := List.mem_map.1 (List.mem_of_mem_take he)
  rfl
theorem srtE_len {es : List (Value × Value)} : (srtE es).length = es.length := by unfold srtE; rw [List.length_map, srtK_len]
end Go.Sx

/- Cells: a content is read. -/
set_option linter.unusedVariables false
set_option linter.unusedSimpArgs false
set_option maxRecDepth 100000
namespace Go.Sx
attribute [local go_sem ↓] bind_mk intsB_mk strsB_mk svB_mk fnVC ob_some vc_skip vc_exit vc_ret vc_seq vc_block kSeq_normal kSeq_exit kSeq_ret kBlock_normal kBlock_exit kBlock_ret vc_reg vc_regD vc_cond condK_true condK_false vc_loop kLoop_exit kLoop_ret kRoll_normal kRoll_exit kRoll_ret vcOps_nil vcOps_cons gd_bool gd_undef put_some put_none vcT_fin vcT_pure vcT_act vcT_acts vcT_stop stab_none stab_some stabM_nil stabM_cons stabO_ld stabO_ldn stabO_slP stabO_b2s fldOf_ai fldOf_agg fldOf_ait fldOf_aggt intsOf_nil intsOf_cons strsOf_nil strsOf_cons c_omap ob_if lk_nil lk_cons ev_t ev_k z_mov z_pick z_bin z_binA z_binB z_binP z_un z_r2s z_conv z_s2b z_b2s z_mkM z_luM z_upM z_lenM lenMk_mp lenMk_nil plsOf_v z_delM asM_so plV_v plV_agg mpOf_mp mpOf_nil mpUp_mp asM_mp luV_ok luV_v z_allocT aggOf_mk z_boxT z_alloc z_bld z_bldI z_rowI z_rowS z_ld z_ldn z_st z_stn asN_ptr asN_fn z_nilck z_fld z_fadr z_idxA z_idxP z_idxS z_idxV z_slS z_slL z_slP z_mk z_lenS z_lenL z_app appC_ints appC_pl appC_sv appC_strs isS_strs loose_ints loose_pl loose_sv z_slM z_callv callvK_fn callvK_f callvK_yl vc_rangeF rfEnd_eq rfGo_none rfGo_ret rfGo_exit yGo_mk yEnd_n yEnd_r yEnd_e yRdy_mk yMid_n putPs_nil putPs_cons leaf_v leaf_ptr leaf_sl leaf_yl leaf_mp z_appS z_appST z_appZ z_cpyS z_mkfn reps_int reps_str z_rowV z_slnil nilK_zero z_cpy z_call asT_tup z_extT z_box boxOf_ai boxOf_agg boxOf_int boxOf_str boxOf_bool boxOf_ptr boxOf_sl sbin_int sbin_str sbinA_mk ae_nil ae_int ae_str sbinB_mk sbinP_nn sbinP_pn sbinP_np i_add i_sub i_mul i_quo i_rem i_and i_or i_xor i_andNot i_shl i_shr i_eql i_neq i_lss i_leq i_gtr i_geq st_add st_eql st_neq st_lss st_leq st_gtr st_geq bo_eql bo_neq pt_eql pt_neq un_neg un_xor un_not asI_mk asB_mk asS_mk asP_mk asSl_mk asBy_mk bnd_none bnd_some get_mk hput_mk hdel_mk kill_eq wrOf_eq rowOf_eq rsvs_0 rsvs_1 rsvs_2 rsvs_3 rsv_t rsv_c1 rsv_cn nt_v nt_ptr nt_sl nt_agg nt_ai get_ints get_strs get_pl get_sv getN_ints getN_sv set_ints set_strs set_sv setN_ints setN_sv part_ints part_strs part_sv cat_ints cat_strs cat_sv over_ints over_strs over_sv ones_ints ones_strs evs_nil evs_cons condK_eqt condK_eqf det_callP V_ns V_nn V_gs V_gn obC_mk fresh_ev freshT_ev freshR_ev setN_plagg setN_intsv setN_svai setN_svagg over_intsv set_pl setN_pl setN_plai getN_pl getN_strs part_pl cat_pl over_pl over_plints z_mm
attribute [local go_sem] initTm ne_eq not_true_eq_false not_false_eq_true true_and and_true List.length_cons List.length_nil Int.toNat_natCast Nat.add_zero Nat.zero_add Nat.mul_one List.getElem?_cons_zero List.drop_zero List.take_length List.take_succ_cons List.take_zero List.take_nil List.drop_succ_cons Option.map_some Nat.le_refl implies_true List.getElem?_cons_succ decide_true decide_false Bool.not_true Bool.not_false beq_self_eq_true Nat.succ_ne_self Nat.one_ne_zero Nat.zero_ne_one vk_mk hk_mk nk_mk tok_eq plsOf_map intsOf_map bodyOf_pl bodyOf_ints bodyOf_strs bodyOf_sv part_aggv part_agg part_ai part_int part_str part_bool part_sl part_ptr part_nil numsOf_map u_int u_str u_bool u_pnil u_sl u_ptr u_oci u_ocs evq_nil evq_cons fillS_nil fillS_cons u_ocb ones_pl cells_sv cells_ints cells_strs cells_pl smms_nil smms_cons smm_min smm_max plsOf_nil List.nil_append List.all_cons List.all_nil Bool.and_self Bool.true_and Bool.and_true zws_len zw_len zi_len List.set_cons_zero List.set_cons_succ List.flatMap_cons List.flatMap_nil List.append_nil
attribute [local go_sem_proc] Nat.reduceEqDiff Nat.reduceAdd Nat.reduceMul Nat.reduceLT Nat.reduceLeDiff Nat.reduceSub Int.reduceToNat Int.reduceLE Int.reduceLT reduceCtorEq Int.reduceEq Int.reduceGT Int.reduceGE Int.reduceNeg
attribute [local go_sem_proc ↓] reduceIte
section
open Go.Proofs
variable {H : Hp} {n : Nat} {x : Nat → Option SO} {i : Nat}
def suf (es : List (Value × Value)) : List ByteArray → ByteArray
  | [] => ⟨#[]⟩
  | nm :: l => tx (be nm.size 2) ++ (nm ++ (tx (be (tOf es nm).size 2) ++ (tOf es nm ++ suf es l)))
theorem enc_suf {es : List (Value × Value)} : ∀ j, j ≤ es.length → tx (encL es j) ++ suf es ((srtK es).drop j) = tx (be es.length 2) ++ suf es (srtK es)
  | 0, _ => rfl
  | j + 1, h => by
    rw [← enc_suf j (by omega)]
    have hd : (srtK es).drop j = nmAt es j :: (srtK es).drop (j + 1) := by
      have hl : j < (srtK es).length := by rw [srtK_len]; omega
      rw [List.drop_eq_getElem_cons hl]
      congr 1
      unfold nmAt
      rw [List.getD_eq_getElem?_getD, List.getElem?_eq_getElem hl]
      rfl
    rw [hd]
    show tx (encL es j ++ (be (nmAt es j).size 2 ++ bts (nmAt es j)) ++ (be (tOf es (nmAt es j)).size 2 ++ bts (tOf es (nmAt es j)))) ++ _ = _ ++ (tx (be (nmAt es j).size 2) ++ (nmAt es j ++ (tx (be (tOf es (nmAt es j)).size 2) ++ (tOf es (nmAt es j) ++ suf es _))))
    simp only [tx_app, tx_bts, ByteArray.append_assoc]
theorem encB_suf {es : List (Value × Value)} : encB es = tx (be es.length 2) ++ suf es (srtK es) := by
  rw [← enc_suf es.length (Nat.le_refl _)]
  rw [List.drop_of_length_le (by rw [srtK_len]; exact Nat.le_refl _)]
  exact app_nil.symm
theorem readW' {es : List (Value × Value)} (h : Es es) : fnVC CT mcread [.v (.string (encB es))] ⟨[], x⟩ 1 fun v H' n' => Sub 1 ⟨[(0, .tup [.mp 1, .v (.bool true)])], ⟨[(1, some ⟨true, .mp (.map (srtE es))⟩)], x⟩, 2⟩ ⟨[(0, v)], H', n'⟩ := by
  have hlen := h.len
  rw [encB_suf]
  have hA : (tx (be es.length 2)).size = 2 := by rw [tx_sz, be_len]
  have hnum : num (tx (be es.length 2)) = es.length := num_be (btx be_bytes) (by omega)
  unfold mcread
  simp -implicitDefEqProofs only [↓fnVC, initTm]
  simp -implicitDefEqProofs only [go_sem]
  refine at_call tPRead (preadS (by decide)) ?_
  simp -implicitDefEqProofs only [go_sem]
  generalize hs : suf es (srtK es) = sf
  have r1 : rawT (tx (be es.length 2) ++ sf) 0 2 = tx (be es.length 2) := by unfold rawT; rw [if_neg (by rw [ByteArray.size_append]; omega)]; exact ex_a hA
  have r2 : rawS (tx (be es.length 2) ++ sf) 0 2 = sf := by unfold rawS; rw [if_neg (by rw [ByteArray.size_append]; omega)]; exact ex_r hA
  have r3 : rawE (tx (be es.length 2) ++ sf) 0 2 = 0 := by unfold rawE; rw [if_neg (by omega), if_neg (by rw [ByteArray.size_append]; omega)]
  refine at_call tRTwo (twoS (i := 1) (s := tx (be es.length 2) ++ sf) (e := 0) (by rfl) (by decide)) ?_
  rw [r1, r2, r3, hnum]
  have b1 : decide ((es.length : Int) > 64) = false := decide_eq_false (by omega)
  simp -implicitDefEqProofs only [go_sem, b1]
  refine loop_fam (fun (j : Nat) => j ≤ es.length) (fun j => ⟨[(4, .ptr 1 0), (5, .mp 2), (6, .v (.string (if j = 0 then ⟨#[]⟩ else nmAt es (j - 1)))), (16, .v (.int .i64 es.length)), (17, .v (.int .i64 j))], ⟨[(1, some (rdO (suf es ((srtK es).drop j)) 0)), (2, some ⟨true, .mp (.map ((srtE es).take j))⟩)], x⟩, 3⟩) (fun j => es.length - j) 0 (Nat.zero_le _) ?_ ?_
  · unfold rdO
    refine sub_mk [] rfl rfl rfl ?_
    simp only [tmSub, hpSub, objSub, eqTm, eqHp, rn, lk, SV.ren, SV.renC, SV.renB, SV.renA, ren_ints, ren_strs, ren_pl, ren_svs, SV.v.injEq, Value.int.injEq, Body.ints.injEq, SV.ptr.injEq, SV.sl.injEq, Value.string.injEq, Value.bool.injEq, List.map_cons, List.map_nil, forall_const, Nat.reduceLT, Nat.lt_add_one, imp_self, true_and, and_true, and_self, ob_some, get_mk, lk_cons, ↓reduceIte, Nat.reduceEqDiff, ne_eq, not_true_eq_false, not_false_eq_true, Nat.one_ne_zero, Nat.zero_ne_one, Nat.succ_ne_self, Nat.reduceAdd, Bool.false_eq_true, false_implies, implies_true, reduceCtorEq]
    rw [List.drop_zero, hs]
    repeat' (first | rfl | apply And.intro)
  · intro j hj
    simp -implicitDefEqProofs only [go_sem]
    refine condK_bb (fun c => ?_) (fun c => ?_)
    · have c1 : j < es.length := by have := of_decide_eq_true c; omega
      have hd : (srtK es).drop j = nmAt es j :: (srtK es).drop (j + 1) := by
        have hl : j < (srtK es).length := by rw [srtK_len]; omega
        rw [List.drop_eq_getElem_cons hl]
        congr 1
        unfold nmAt
        rw [List.getD_eq_getElem?_getD, List.getElem?_eq_getElem hl]
        rfl
      obtain ⟨h1, h2, h3⟩ := h.at_ (nmAt_mem c1)
      rw [hd, show suf es (nmAt es j :: (srtK es).drop (j + 1)) = tx (be (nmAt es j).size 2) ++ (nmAt es j ++ (tx (be (tOf es (nmAt es j)).size 2) ++ (tOf es (nmAt es j) ++ suf es ((srtK es).drop (j + 1))))) from rfl]
      simp -implicitDefEqProofs only [go_sem, c]
      refine at_call tRText (textS (i := 1) (nm := nmAt es j) (rest := tx (be (tOf es (nmAt es j)).size 2) ++ (tOf es (nmAt es j) ++ suf es ((srtK es).drop (j + 1)))) (most := 32) h3 (by decide) (by rfl) (by decide)) ?_
      simp -implicitDefEqProofs only [go_sem]
      have b2 := h.sle_ff c1
      simp -implicitDefEqProofs only [go_sem, b2]
      refine at_call tRText (textS (i := 1) (nm := tOf es (nmAt es j)) (rest := suf es ((srtK es).drop (j + 1))) (most := 65535) h2 (by decide) (by rfl) (by decide)) ?_
      have w2 : IntKind.i64.wrap ((j : Int) + 1) = ((j + 1 : Nat) : Int) := by rw [wrap_i64 (by omega) (by omega)]; omega
      have hup := srtE_up h.nd c1
      simp -implicitDefEqProofs only [go_sem, spl1, w2]
      rw [hup]
      refine ⟨srtE_keys, ?_⟩
      refine kLoop_mk (j + 1) (by omega) (by omega) ?_
      unfold rdO
      refine sub_mk [] rfl rfl rfl ?_
      simp only [tmSub, hpSub, objSub, eqTm, eqHp, rn, lk, SV.ren, SV.renC, SV.renB, SV.renA, ren_ints, ren_strs, ren_pl, ren_svs, SV.v.injEq, Value.int.injEq, Body.ints.injEq, SV.ptr.injEq, SV.sl.injEq, Value.string.injEq, Value.bool.injEq, List.map_cons, List.map_nil, forall_const, Nat.reduceLT, Nat.lt_add_one, imp_self, true_and, and_true, and_self, ob_some, get_mk, lk_cons, ↓reduceIte, Nat.reduceEqDiff, ne_eq, not_true_eq_false, not_false_eq_true, Nat.one_ne_zero, Nat.zero_ne_one, Nat.succ_ne_self, Nat.reduceAdd, Bool.false_eq_true, false_implies, implies_true, reduceCtorEq]
      repeat' (first | rfl | apply And.intro)
    · have c1 : j = es.length := by have := of_decide_eq_false c; omega
      subst c1
      simp -implicitDefEqProofs only [go_sem, c]
      have hd : (srtK es).drop es.length = [] := List.drop_of_length_le (by rw [srtK_len]; exact Nat.le_refl _)
      rw [hd]
      refine at_call tREnd (endS0 (i := 1) (by rfl) (by decide)) ?_
      simp -implicitDefEqProofs only [go_sem]
      have ht : (srtE es).take es.length = srtE es := List.take_of_length_le (by rw [srtE_len]; exact Nat.le_refl _)
      rw [ht]
      refine sub_mk [(1, 2)] rfl rfl rfl ?_
      simp only [tmSub, hpSub, objSub, eqTm, eqHp, rn, lk, SV.ren, SV.renC, SV.renB, SV.renA, ren_ints, ren_strs, ren_pl, ren_svs, SV.v.injEq, Value.int.injEq, Body.ints.injEq, SV.ptr.injEq, SV.sl.injEq, Value.string.injEq, Value.bool.injEq, List.map_cons, List.map_nil, forall_const, Nat.reduceLT, Nat.lt_add_one, imp_self, true_and, and_true, and_self, ob_some, get_mk, lk_cons, ↓reduceIte, Nat.reduceEqDiff, ne_eq, not_true_eq_false, not_false_eq_true, Nat.one_ne_zero, Nat.zero_ne_one, Nat.succ_ne_self, Nat.reduceAdd, Bool.false_eq_true, false_implies, implies_true, reduceCtorEq]
      rfl
theorem readS {es : List (Value × Value)} (h : Es es) (hn : n + 1 ≤ 1000) : SpecAt Tryz.prog ncread [.v (.string (encB es))] H n (.tup [.mp n, .v (.bool true)]) ⟨(n, some ⟨true, .mp (.map (srtE es))⟩) :: H.l, H.x⟩ (n + 1) := by
  have := lift (n := n) (okT.spec tcread (readW' (x := H.x) h)) [] rfl rfl rfl (by omega) rfl rfl
    trivial (by simp [apartB, apart1, rn, lk]) (by simp [wrNZ, rn, lk]) (by omega)
  exact this
end
section
/- Cells: a copy is read. -/
set_option linter.unusedVariables false
set_option linter.unusedSimpArgs false
set_option maxRecDepth 100000
open Go.Proofs
variable {H : Hp} {n : Nat} {x : Nat → Option SO} {d d' : Fd} {i a b c : Nat} {u1 u2 u3 : Bool}
def secT (d : Fd) (k : Int) : ByteArray := tx (d.seen.getD k.toNat [])
def imgT (at_ : Int) (d : Fd) : Nat → ByteArray
  | 0 => ⟨#[]⟩
  | k + 1 => imgT at_ d k ++ secT d (at_ + 1 + k)
theorem rdS' {k : Int} {u1 u2 u3 u4 : Bool} (hi : H.get i = some ⟨u1, devB d a b c⟩) (ha : H.get a = some ⟨u2, secB d.seen⟩) (hb : H.get b = some ⟨u3, secB d.safe⟩) (hc : H.get c = some ⟨u4, .pl (prow d.pend)⟩) (ne : 0 < i ∧ 0 < a ∧ 0 < b ∧ 0 < c) (hd : d.ok) : SpecAt Tryz.prog nFRead [.ptr i 0, .v (.int .i64 k)] H n (rdV d k) H n := by
  obtain ⟨p1, p2, p3, p4⟩ := ne
  have := lift (n := n) (ok3.pure tFRead (wF14 (x := H.x) (k := k) hd)) [(1, i), (2, a), (3, b), (4, c)] rfl rfl rfl (by omega) rfl rfl
    ⟨sub_ro rfl p1 hi rfl, sub_ro rfl p2 ha rfl, sub_ro rfl p3 hb rfl, sub_ro rfl p4 hc rfl, trivial⟩ (by simp [apartB, apart1, rn, lk]) (by simp [wrNZ, rn, lk]; try omega) (by omega)
  have hv : ∀ π, (rdV d k).ren π = rdV d k := fun π => by unfold rdV; split <;> (try split) <;> rfl
  rw [hv] at this
  exact this
theorem secT_size {k : Int} (hd : d.ok) (h0 : 0 ≤ k) (h1 : k < d.seen.length) : (secT d k).size = 64 := by
  unfold secT
  rw [tx_sz]
  exact getD_len hd.seen (by omega)
theorem rdV_at {k : Int} (ho : d.off = false) (h0 : 0 ≤ k) (h1 : k < d.seen.length) : rdV d k = .tup [.v (.string (secT d k)), .v (.int .i64 0)] := by
  unfold rdV; rw [ho, if_neg Bool.false_ne_true, if_neg (by omega)]; rfl
theorem imgT_size {at_ : Int} (hd : d.ok) (h0 : 0 ≤ at_) : ∀ {j : Nat}, at_ + 1 + j ≤ d.seen.length → (imgT at_ d j).size = 64 * j
  | 0, _ => rfl
  | j + 1, h => by
    show (imgT at_ d j ++ secT d (at_ + 1 + j)).size = _
    rw [ByteArray.size_append, imgT_size hd h0 (by omega), secT_size hd (by omega) (by omega)]
    omega
def opB (B h num last : Nat) (D W : Nat) : Body := .sv [.ptr D 0, .v (.int .i64 B), .v (.int .i64 h), .v (.map none), .mp W, .v (.int .i64 num), .v (.int .i64 last), .v (.bool false)]
def opH (B h num last : Nat) (we : List (Value × Value)) (d : Fd) (x : Nat → Option SO) : Hp := ⟨[(1, some ⟨false, opB B h num last 2 6⟩), (2, some ⟨false, devB d 3 4 5⟩), (3, some ⟨false, secB d.seen⟩), (4, some ⟨false, secB d.safe⟩), (5, some ⟨false, .pl (prow d.pend)⟩), (6, some ⟨false, .mp (.map we)⟩)], x⟩
def NoHd (s : ByteArray) : Prop := preE s 0 = 0 ∧ preE (s.extract 12 s.size) 0 = 0 ∧ (num (s.extract 0 8) = 0 ∨ num (s.extract 0 8) ≠ num (s.extract 12 20)) ∧ num (s.extract 0 8) < 9223372036854775808 ∧ num (s.extract 12 20) < 9223372036854775808
theorem copiedN {B h nu la k : Nat} {we : List (Value × Value)} (hB : B ≤ 4096) (hh : 2 ≤ h ∧ h ≤ 129) (hk : k ≤ 1) (hd : d.ok) (ho : d.off = false) (hl : B + k * h + h ≤ d.seen.length) (hN : NoHd (secT d (B + k * h : Nat))) :
    fnVC CT mCcopied [.ptr 1 0, .v (.int .i64 k)] (opH B h nu la we d x) 7 fun v H' n' => Sub 7 ⟨[(0, .tup [.v (.int .i64 0), .v (.map none), .v (.bool false)])], ⟨[], x⟩, 7⟩ ⟨[(0, v)], H', n'⟩ := by
  unfold mCcopied opH opB devB
  simp -implicitDefEqProofs only [↓fnVC, initTm]
  simp -implicitDefEqProofs only [go_sem]
  refine in_call mixT tCfirst ?_
  unfold mCfirst
  simp -implicitDefEqProofs only [↓fnVC, initTm]
  have hm : k * h ≤ 129 := by
    calc k * h ≤ 1 * h := Nat.mul_le_mul_right _ hk
      _ ≤ 129 := by omega
  have w5 : IntKind.i64.wrap ((k : Int) * (h : Int)) = ((k * h : Nat) : Int) := by
    rw [← Int.natCast_mul]; exact wrap_i64 (by omega) (by omega)
  have w6 : IntKind.i64.wrap ((B : Int) + ((k * h : Nat) : Int)) = ((B + k * h : Nat) : Int) := by
    rw [wrap_i64 (by omega) (by omega)]; omega
  simp -implicitDefEqProofs only [go_sem, w5, w6]
  refine at_call tFRead (rdS' (i := 2) (a := 3) (b := 4) (c := 5) (d := d) (by rfl) (by rfl) (by rfl) (by rfl) (by decide) hd) ?_
  rw [rdV_at (k := (B + k * h : Nat)) ho (by omega) (by omega)]
  have hsz : (secT d (B + k * h : Nat)).size = 64 := secT_size hd (by omega) (by omega)
  generalize secT d (B + k * h : Nat) = s at hN hsz
  obtain ⟨e1, e2, hnn, l1, l2⟩ := hN
  simp -implicitDefEqProofs only [go_sem]
  refine at_call tPRead (preadS (s := s) (by decide)) ?_
  simp -implicitDefEqProofs only [go_sem]
  have f1 := rd_at (s := s) (k := 0) (w := 8) (by omega)
  have f2 := rd_at (s := s) (k := 8) (w := 4) (by omega)
  have f3 := rd_at (s := s) (k := 12) (w := 8) (by omega)
  rw [ext_all] at f1
  refine at_call tREight (eightSp (i := 7) (s := s) (e := 0) (by rfl) (by decide)) ?_
  rw [e1, f1.1, f1.2.1, f1.2.2]
  simp -implicitDefEqProofs only [go_sem]
  refine at_call tRFour (fourS (i := 7) (s := s.extract 8 s.size) (e := 0) (by rfl) (by decide)) ?_
  rw [f2.1, f2.2.1, f2.2.2]
  simp -implicitDefEqProofs only [go_sem]
  refine at_call tREight (eightSp (i := 7) (s := s.extract 12 s.size) (e := 0) (by rfl) (by decide)) ?_
  rw [e2, f3.1, f3.2.1, f3.2.2]
  rw [show 12 + 8 = 20 from rfl]
  simp -implicitDefEqProofs only [go_sem]
  by_cases c1 : num (s.extract 0 8) = 0
  · have a1 : decide ((num (s.extract 0 8) : Int) = 0) = true := decide_eq_true (by omega)
    simp -implicitDefEqProofs only [go_sem, a1]
    refine sub_mk [] rfl rfl rfl ?_
    simp only [tmSub, hpSub, objSub, eqTm, eqHp, rn, lk, SV.ren, SV.renC, SV.renB, SV.renA, ren_ints, ren_strs, ren_pl, ren_svs, SV.v.injEq, Value.int.injEq, Body.ints.injEq, SV.ptr.injEq, SV.sl.injEq, Value.string.injEq, Value.bool.injEq, List.map_cons, List.map_nil, forall_const, Nat.reduceLT, Nat.lt_add_one, imp_self, true_and, and_true, and_self, ob_some, get_mk, lk_cons, ↓reduceIte, Nat.reduceEqDiff, ne_eq, not_true_eq_false, not_false_eq_true, Nat.one_ne_zero, Nat.zero_ne_one, Nat.succ_ne_self, Nat.reduceAdd, Bool.false_eq_true, false_implies, implies_true, reduceCtorEq]
  have a1 : decide ((num (s.extract 0 8) : Int) = 0) = false := decide_eq_false (by omega)
  by_cases c2 : num (s.extract 0 8) = 9223372036854775807
  · have a2 : decide ((num (s.extract 0 8) : Int) = 9223372036854775807) = true := decide_eq_true (by omega)
    simp -implicitDefEqProofs only [go_sem, a1, a2]
    refine sub_mk [] rfl rfl rfl ?_
    simp only [tmSub, hpSub, objSub, eqTm, eqHp, rn, lk, SV.ren, SV.renC, SV.renB, SV.renA, ren_ints, ren_strs, ren_pl, ren_svs, SV.v.injEq, Value.int.injEq, Body.ints.injEq, SV.ptr.injEq, SV.sl.injEq, Value.string.injEq, Value.bool.injEq, List.map_cons, List.map_nil, forall_const, Nat.reduceLT, Nat.lt_add_one, imp_self, true_and, and_true, and_self, ob_some, get_mk, lk_cons, ↓reduceIte, Nat.reduceEqDiff, ne_eq, not_true_eq_false, not_false_eq_true, Nat.one_ne_zero, Nat.zero_ne_one, Nat.succ_ne_self, Nat.reduceAdd, Bool.false_eq_true, false_implies, implies_true, reduceCtorEq]
  have a2 : decide ((num (s.extract 0 8) : Int) = 9223372036854775807) = false := decide_eq_false (by omega)
  have a3 : decide ((num (s.extract 0 8) : Int) = (num (s.extract 12 20) : Int)) = false := decide_eq_false (by omega)
  simp -implicitDefEqProofs only [go_sem, a1, a2, a3, Bool.not_false]
  refine sub_mk [] rfl rfl rfl ?_
  simp only [tmSub, hpSub, objSub, eqTm, eqHp, rn, lk, SV.ren, SV.renC, SV.renB, SV.renA, ren_ints, ren_strs, ren_pl, ren_svs, SV.v.injEq, Value.int.injEq, Body.ints.injEq, SV.ptr.injEq, SV.sl.injEq, Value.string.injEq, Value.bool.injEq, List.map_cons, List.map_nil, forall_const, Nat.reduceLT, Nat.lt_add_one, imp_self, true_and, and_true, and_self, ob_some, get_mk, lk_cons, ↓reduceIte, Nat.reduceEqDiff, ne_eq, not_true_eq_false, not_false_eq_true, Nat.one_ne_zero, Nat.zero_ne_one, Nat.succ_ne_self, Nat.reduceAdd, Bool.false_eq_true, false_implies, implies_true, reduceCtorEq]
structure HdOK (s : ByteArray) (k z : Nat) : Prop where
  e1 : preE s 0 = 0
  e2 : preE (s.extract 12 s.size) 0 = 0
  n1 : num (s.extract 0 8) = k
  z : num (s.extract 8 12) = z
  n2 : num (s.extract 12 20) = k
  k0 : 0 < k
  k1 : k < 9223372036854775807
structure Cp (d : Fd) (at_ h k : Nat) (es : List (Value × Value)) : Prop where
  hd : HdOK (secT d at_) k (encB es).size
  img : (imgT at_ d (h - 1)).extract 0 (encB es).size = encB es
  room : (encB es).size ≤ 64 * (h - 1)
  es : Es es
set_option maxHeartbeats 2000000 in
theorem copiedC {B h nu la k r : Nat} {es we : List (Value × Value)} (hB : B ≤ 4096) (hh : 2 ≤ h ∧ h ≤ 129) (hk : k ≤ 1) (hd : d.ok) (ho : d.off = false) (hl : B + k * h + h ≤ d.seen.length) (hC : Cp d (B + k * h) h r es) :
    fnVC CT mCcopied [.ptr 1 0, .v (.int .i64 k)] (opH B h nu la we d x) 7 fun v H' n' => Sub 7 ⟨[(0, .tup [.v (.int .i64 r), .mp 7, .v (.bool true)])], ⟨[(7, some ⟨true, .mp (.map (srtE es))⟩)], x⟩, 8⟩ ⟨[(0, v)], H', n'⟩ := by
  obtain ⟨hhd, himg, hroom, hE⟩ := hC
  unfold mCcopied opH opB devB
  simp -implicitDefEqProofs only [↓fnVC, initTm]
  simp -implicitDefEqProofs only [go_sem]
  refine in_call mixT tCfirst ?_
  unfold mCfirst
  simp -implicitDefEqProofs only [↓fnVC, initTm]
  have hm : k * h ≤ 129 := by
    calc k * h ≤ 1 * h := Nat.mul_le_mul_right _ hk
      _ ≤ 129 := by omega
  have w5 : IntKind.i64.wrap ((k : Int) * (h : Int)) = ((k * h : Nat) : Int) := by
    rw [← Int.natCast_mul]; exact wrap_i64 (by omega) (by omega)
  have w6 : IntKind.i64.wrap ((B : Int) + ((k * h : Nat) : Int)) = ((B + k * h : Nat) : Int) := by
    rw [wrap_i64 (by omega) (by omega)]; omega
  simp -implicitDefEqProofs only [go_sem, w5, w6]
  refine at_call tFRead (rdS' (i := 2) (a := 3) (b := 4) (c := 5) (d := d) (by rfl) (by rfl) (by rfl) (by rfl) (by decide) hd) ?_
  rw [rdV_at (k := (B + k * h : Nat)) ho (by omega) (by omega)]
  have hsz : (secT d (B + k * h : Nat)).size = 64 := secT_size hd (by omega) (by omega)
  generalize secT d (B + k * h : Nat) = s at hhd hsz
  obtain ⟨e1, e2, n1, nz, n2, k0, k1⟩ := hhd
  simp -implicitDefEqProofs only [go_sem]
  refine at_call tPRead (preadS (s := s) (by decide)) ?_
  simp -implicitDefEqProofs only [go_sem]
  have f1 := rd_at (s := s) (k := 0) (w := 8) (by omega)
  have f2 := rd_at (s := s) (k := 8) (w := 4) (by omega)
  have f3 := rd_at (s := s) (k := 12) (w := 8) (by omega)
  rw [ext_all] at f1
  refine at_call tREight (eightSp (i := 7) (s := s) (e := 0) (by rfl) (by decide)) ?_
  rw [e1, f1.1, f1.2.1, f1.2.2]
  simp -implicitDefEqProofs only [go_sem]
  refine at_call tRFour (fourS (i := 7) (s := s.extract 8 s.size) (e := 0) (by rfl) (by decide)) ?_
  rw [f2.1, f2.2.1, f2.2.2]
  simp -implicitDefEqProofs only [go_sem]
  refine at_call tREight (eightSp (i := 7) (s := s.extract 12 s.size) (e := 0) (by rfl) (by decide)) ?_
  rw [e2, f3.1, f3.2.1, f3.2.2]
  rw [show 12 + 8 = 20 from rfl, n1, n2, nz]
  have a1 : decide ((r : Int) = 0) = false := decide_eq_false (by omega)
  have a2 : decide ((r : Int) = 9223372036854775807) = false := decide_eq_false (by omega)
  simp -implicitDefEqProofs only [go_sem, a1, a2]
  refine in_call mixT tCroom ?_
  unfold mCroom
  simp -implicitDefEqProofs only [↓fnVC, initTm]
  have w1 : IntKind.i64.wrap ((h : Int) - 1) = ((h - 1 : Nat) : Int) := by rw [wrap_i64 (by omega) (by omega)]; omega
  have w2 : IntKind.i64.wrap (64 * ((h - 1 : Nat) : Int)) = ((64 * (h - 1) : Nat) : Int) := by rw [wrap_i64 (by omega) (by omega)]; omega
  have a3 : decide (((encB es).size : Int) > ((64 * (h - 1) : Nat) : Int)) = false := decide_eq_false (by omega)
  simp -implicitDefEqProofs only [go_sem, w1, w2, a3]
  have a4 : decide ((1 : Int) < (h : Int)) = true := decide_eq_true (by omega)
  have w7 : IntKind.i64.wrap (((B + k * h : Nat) : Int) + 1) = ((B + k * h : Nat) : Int) + 1 + (0 : Nat) := by rw [wrap_i64 (by omega) (by omega)]; omega
  have w3 : IntKind.i64.wrap (1 + 1) = 2 := rfl
  refine loop_roll 1 ?_
  rw [LoopU_succ]
  simp -implicitDefEqProofs only [go_sem, a4]
  refine in_call mixT tCfirst ?_
  unfold mCfirst
  simp -implicitDefEqProofs only [↓fnVC, initTm]
  simp -implicitDefEqProofs only [go_sem, w5, w6, w7]
  generalize hat : B + k * h = at_ at *
  refine at_call tFRead (rdS' (i := 2) (a := 3) (b := 4) (c := 5) (d := d) (by rfl) (by rfl) (by rfl) (by rfl) (by decide) hd) ?_
  rw [rdV_at (k := (at_ : Int) + 1 + (0 : Nat)) ho (by omega) (by omega)]
  have s0 : (secT d ((at_ : Int) + 1 + (0 : Nat))).size = 64 := secT_size hd (by omega) (by omega)
  simp -implicitDefEqProofs only [go_sem, s0]
  refine in_call mixT tBWriteString ?_
  unfold mBWriteString
  simp -implicitDefEqProofs only [↓fnVC, initTm]
  simp -implicitDefEqProofs only [go_sem]
  refine at_ext (enters_mk Tryz.func111 rfl rfl) (ckF (i := 8) (j := 9) (by rfl) (by rfl) rfl) ?_
  simp -implicitDefEqProofs only [go_sem, s0]
  refine ⟨fun h => absurd rfl h, ?_⟩
  simp -implicitDefEqProofs only [go_sem, w3]
  refine loopU_fam (fun (j : Nat) => 2 ≤ j ∧ j ≤ h)
    (fun j => ⟨[(0, .ptr 1 0), (1, .v (.int .i64 k)), (10, .v (.int .i64 r)), (11, .v (.int .i64 (encB es).size)), (13, .ptr 8 0), (14, .v (.int .i64 j))], ⟨[(1, some ⟨false, opB B h nu la 2 6⟩), (2, some ⟨false, devB d 3 4 5⟩), (3, some ⟨false, secB d.seen⟩), (4, some ⟨false, secB d.safe⟩), (5, some ⟨false, .pl (prow d.pend)⟩), (6, some ⟨false, .mp (.map we)⟩), (8, some ⟨true, .sv [.ptr 8 0, .sl 10 0 (imgT at_ d (j - 1)).size 1]⟩), (10, some ⟨true, .ints .u8 (bts (imgT at_ d (j - 1)))⟩), (11, some ⟨false, .mp (.shp 10 5 none)⟩)], x⟩, 12⟩)
    (fun j => h - j) 2 ⟨Nat.le_refl _, by omega⟩ ?_ ?_
  · refine sub_mk [] rfl rfl rfl ?_
    simp only [tmSub, hpSub, objSub, eqTm, eqHp, rn, lk, SV.ren, SV.renC, SV.renB, SV.renA, ren_ints, ren_strs, ren_pl, ren_svs, SV.v.injEq, Value.int.injEq, Body.ints.injEq, SV.ptr.injEq, SV.sl.injEq, Value.string.injEq, Value.bool.injEq, List.map_cons, List.map_nil, forall_const, Nat.reduceLT, Nat.lt_add_one, imp_self, true_and, and_true, and_self, ob_some, get_mk, lk_cons, ↓reduceIte, Nat.reduceEqDiff, ne_eq, not_true_eq_false, not_false_eq_true, Nat.one_ne_zero, Nat.zero_ne_one, Nat.succ_ne_self, Nat.reduceAdd, Bool.false_eq_true, false_implies, implies_true, reduceCtorEq, opB, devB]
    have g1 : imgT at_ d (2 - 1) = secT d ((at_ : Int) + 1 + (0 : Nat)) := by show (⟨#[]⟩ : ByteArray) ++ _ = _; exact ba_nil
    rw [g1, s0]
    exact ⟨rfl, rfl, rfl, rfl, rfl, rfl, rfl⟩
  · intro j hj
    unfold opB devB
    simp -implicitDefEqProofs only [go_sem]
    refine condK_bb (fun c => ?_) (fun c => ?_)
    · have c1 : j < h := by have := of_decide_eq_true c; omega
      have w8 : IntKind.i64.wrap ((j : Int) + 1) = ((j + 1 : Nat) : Int) := by rw [wrap_i64 (by omega) (by omega)]; omega
      have w9 : IntKind.i64.wrap ((at_ : Int) + (j : Int)) = (at_ : Int) + 1 + ((j - 1 : Nat) : Int) := by rw [wrap_i64 (by omega) (by omega)]; omega
      simp -implicitDefEqProofs only [go_sem, c]
      refine in_call mixT tCfirst ?_
      unfold mCfirst
      simp -implicitDefEqProofs only [↓fnVC, initTm]
      rw [← hat] at w9 w6
      simp -implicitDefEqProofs only [go_sem, w5, w6, w9]
      rw [hat]
      refine at_call tFRead (rdS' (i := 2) (a := 3) (b := 4) (c := 5) (d := d) (by rfl) (by rfl) (by rfl) (by rfl) (by decide) hd) ?_
      rw [rdV_at (k := (at_ : Int) + 1 + ((j - 1 : Nat) : Int)) ho (by omega) (by omega)]
      have s0 : (secT d ((at_ : Int) + 1 + ((j - 1 : Nat) : Int))).size = 64 := secT_size hd (by omega) (by omega)
      simp -implicitDefEqProofs only [go_sem]
      refine in_call mixT tBWriteString ?_
      unfold mBWriteString
      simp -implicitDefEqProofs only [↓fnVC, initTm]
      simp -implicitDefEqProofs only [go_sem]
      refine at_ext (enters_mk Tryz.func111 rfl rfl) (ckU (i := 8) (by rfl) rfl) ?_
      simp -implicitDefEqProofs only [go_sem]
      have sj : (imgT at_ d (j - 1)).size = 64 * (j - 1) := imgT_size hd (by omega) (by omega)
      refine ⟨by omega, fun _ => ⟨rfl, 11, ⟨false, .mp (.shp 10 5 none)⟩, rfl, rfl⟩, by rw [bts_len]; exact Nat.le_refl _, ?_⟩
      refine kLoop_mk (j + 1) (by omega) (by omega) ?_
      refine sub_mk [(10, 12), (11, 13)] rfl rfl rfl ?_
      simp only [tmSub, hpSub, objSub, eqTm, eqHp, rn, lk, SV.ren, SV.renC, SV.renB, SV.renA, ren_ints, ren_strs, ren_pl, ren_svs, SV.v.injEq, Value.int.injEq, Body.ints.injEq, SV.ptr.injEq, SV.sl.injEq, Value.string.injEq, Value.bool.injEq, List.map_cons, List.map_nil, forall_const, Nat.reduceLT, Nat.lt_add_one, imp_self, true_and, and_true, and_self, ob_some, get_mk, lk_cons, ↓reduceIte, Nat.reduceEqDiff, ne_eq, not_true_eq_false, not_false_eq_true, Nat.one_ne_zero, Nat.zero_ne_one, Nat.succ_ne_self, Nat.reduceAdd, Bool.false_eq_true, false_implies, implies_true, reduceCtorEq, opB, devB]
      obtain ⟨q, hq⟩ : ∃ q, j = q + 1 := ⟨j - 1, by omega⟩
      subst hq
      rw [show q + 1 + 1 - 1 = q + 1 from rfl, show q + 1 - 1 = q from rfl, show imgT at_ d (q + 1) = imgT at_ d q ++ secT d (at_ + 1 + q) from rfl, ByteArray.size_append, bts_app, List.take_of_length_le (by rw [bts_len]; exact Nat.le_refl _)]
      exact ⟨w8, rfl, rfl, rfl, rfl, rfl, rfl⟩
    · have c1 : j = h := by have := of_decide_eq_false c; omega
      subst c1
      have sj : (imgT at_ d (j - 1)).size = 64 * (j - 1) := imgT_size hd (by omega) (by omega)
      simp -implicitDefEqProofs only [go_sem, c]
      refine at_ext (enters_mk Tryz.func80 rfl rfl) (strS (i := 8) (r := 10) (q := 11) (k := (imgT at_ d (j - 1)).size) (bs := bts (imgT at_ d (j - 1))) (by rfl) rfl (by rfl) (by rw [bts_len]) (by omega) (by omega) (by rfl) rfl bts_bytes) ?_
      rw [tx_bts]
      simp -implicitDefEqProofs only [go_sem]
      refine ⟨⟨by omega, by omega⟩, ?_⟩
      rw [himg]
      refine at_call tcread (readS hE (by decide)) ?_
      simp -implicitDefEqProofs only [go_sem]
      refine sub_mk [(7, 12)] rfl rfl rfl ?_
      simp only [tmSub, hpSub, objSub, eqTm, eqHp, rn, lk, SV.ren, SV.renC, SV.renB, SV.renA, ren_ints, ren_strs, ren_pl, ren_svs, SV.v.injEq, Value.int.injEq, Body.ints.injEq, SV.ptr.injEq, SV.sl.injEq, Value.string.injEq, Value.bool.injEq, List.map_cons, List.map_nil, forall_const, Nat.reduceLT, Nat.lt_add_one, imp_self, true_and, and_true, and_self, ob_some, get_mk, lk_cons, ↓reduceIte, Nat.reduceEqDiff, ne_eq, not_true_eq_false, not_false_eq_true, Nat.one_ne_zero, Nat.zero_ne_one, Nat.succ_ne_self, Nat.reduceAdd, Bool.false_eq_true, false_implies, implies_true, reduceCtorEq]
      rfl
structure OpAt (H : Hp) (B h nu la : Nat) (we : List (Value × Value)) (d : Fd) (i D a b c W : Nat) : Prop where
  cell : ∃ u, H.get i = some ⟨u, opB B h nu la D W⟩
  dev : ∃ u, H.get D = some ⟨u, devB d a b c⟩
  seen : ∃ u, H.get a = some ⟨u, secB d.seen⟩
  safe : ∃ u, H.get b = some ⟨u, secB d.safe⟩
  pend : ∃ u, H.get c = some ⟨u, .pl (prow d.pend)⟩
  was : ∃ u, H.get W = some ⟨u, .mp (.map we)⟩
  ne : 0 < i ∧ 0 < D ∧ 0 < a ∧ 0 < b ∧ 0 < c ∧ 0 < W
theorem copiedNS {B h nu la k D W : Nat} {we : List (Value × Value)} (hO : OpAt H B h nu la we d i D a b c W) (hB : B ≤ 4096) (hh : 2 ≤ h ∧ h ≤ 129) (hk : k ≤ 1) (hd : d.ok) (ho : d.off = false) (hl : B + k * h + h ≤ d.seen.length) (hN : NoHd (secT d (B + k * h : Nat))) :
    SpecAt Tryz.prog nCcopied [.ptr i 0, .v (.int .i64 k)] H n (.tup [.v (.int .i64 0), .v (.map none), .v (.bool false)]) H n := by
  obtain ⟨⟨u1, h1⟩, ⟨u2, h2⟩, ⟨u3, h3⟩, ⟨u4, h4⟩, ⟨u5, h5⟩, ⟨u6, h6⟩, p1, p2, p3, p4, p5, p6⟩ := hO
  have := lift_ro (n := n) (okT.spec tCcopied (copiedN (x := H.x) (nu := nu) (la := la) (we := we) hB hh hk hd ho hl hN)) [(1, i), (2, D), (3, a), (4, b), (5, c), (6, W)] rfl rfl rfl (by omega) rfl rfl
    ⟨sub_ro rfl p1 h1 rfl, sub_ro rfl p2 h2 rfl, sub_ro rfl p3 h3 rfl, sub_ro rfl p4 h4 rfl, sub_ro rfl p5 h5 rfl, sub_ro rfl p6 h6 rfl, trivial⟩ (by simp [opH, apartB, apart1, rn, lk]) (by simp [opH, wrNZ, rn, lk]) rfl
  exact this
theorem copiedCS {B h nu la k r D W : Nat} {es we : List (Value × Value)} (hO : OpAt H B h nu la we d i D a b c W) (hB : B ≤ 4096) (hh : 2 ≤ h ∧ h ≤ 129) (hk : k ≤ 1) (hd : d.ok) (ho : d.off = false) (hl : B + k * h + h ≤ d.seen.length) (hC : Cp d (B + k * h) h r es) (hn : n + 1 ≤ 1000) :
    SpecAt Tryz.prog nCcopied [.ptr i 0, .v (.int .i64 k)] H n (.tup [.v (.int .i64 r), .mp n, .v (.bool true)]) ⟨(n, some ⟨true, .mp (.map (srtE es))⟩) :: H.l, H.x⟩ (n + 1) := by
  obtain ⟨⟨u1, h1⟩, ⟨u2, h2⟩, ⟨u3, h3⟩, ⟨u4, h4⟩, ⟨u5, h5⟩, ⟨u6, h6⟩, p1, p2, p3, p4, p5, p6⟩ := hO
  have := lift (n := n) (okT.spec tCcopied (copiedC (x := H.x) (nu := nu) (la := la) (we := we) hB hh hk hd ho hl hC)) [(1, i), (2, D), (3, a), (4, b), (5, c), (6, W)] rfl rfl rfl (by omega) rfl rfl
    ⟨sub_ro rfl p1 h1 rfl, sub_ro rfl p2 h2 rfl, sub_ro rfl p3 h3 rfl, sub_ro rfl p4 h4 rfl, sub_ro rfl p5 h5 rfl, sub_ro rfl p6 h6 rfl, trivial⟩ (by simp [opH, apartB, apart1, rn, lk]) (by simp [opH, wrNZ, rn, lk]) (by omega)
  exact this
end
section
/- Cells: Open. -/
set_option linter.unusedVariables false
set_option linter.unusedSimpArgs false
set_option maxRecDepth 100000
open Go.Proofs
variable {H : Hp} {n : Nat} {x : Nat → Option SO} {d d' : Fd} {i a b c : Nat} {u1 u2 u3 : Bool}
def CpO (d : Fd) (at_ h r : Nat) (es : List (Value × Value)) : Prop := (r = 0 ∧ NoHd (secT d at_)) ∨ Cp d at_ h r es
def opN (r0 r1 : Nat) : Nat := if r0 < r1 then r1 else r0
def opE (r0 r1 : Nat) (e0 e1 : List (Value × Value)) : List (Value × Value) := if r0 < r1 then srtE e1 else if 0 < r0 then srtE e0 else []
def opL (r0 r1 : Nat) : Nat := if r0 < r1 then 1 else if 0 < r0 then 0 else 1
def opC (B h r0 r1 : Nat) (e0 e1 : List (Value × Value)) : Ce := ⟨B, h, opN r0 r1, opL r0 r1, false, opE r0 r1 e0 e1, opE r0 r1 e0 e1⟩
def nwH (C : Ce) (d : Fd) (x : Nat → Option SO) : Hp := ⟨[(5, some ⟨true, cellB C 1 6 7⟩), (6, some ⟨true, .mp (.map C.now)⟩), (7, some ⟨true, .mp (.map C.was)⟩)], x⟩
theorem one_mp {i : Nat} : (SV.mp i).one = true := rfl
theorem pc_mp {i : Nat} : (partCells (.mp i)).length = 1 := rfl
theorem pc_mp' {i : Nat} : partCells (.mp i) = [.mp i] := rfl
theorem sp8_0 {a0 a1 a2 a3 a4 a5 a6 a7 v : SV} : splice [a0, a1, a2, a3, a4, a5, a6, a7] 0 [v] = [v, a1, a2, a3, a4, a5, a6, a7] := rfl
theorem sp8_1 {a0 a1 a2 a3 a4 a5 a6 a7 v : SV} : splice [a0, a1, a2, a3, a4, a5, a6, a7] 1 [v] = [a0, v, a2, a3, a4, a5, a6, a7] := rfl
theorem sp8_2 {a0 a1 a2 a3 a4 a5 a6 a7 v : SV} : splice [a0, a1, a2, a3, a4, a5, a6, a7] 2 [v] = [a0, a1, v, a3, a4, a5, a6, a7] := rfl
theorem sp8_3 {a0 a1 a2 a3 a4 a5 a6 a7 v : SV} : splice [a0, a1, a2, a3, a4, a5, a6, a7] 3 [v] = [a0, a1, a2, v, a4, a5, a6, a7] := rfl
theorem sp8_4 {a0 a1 a2 a3 a4 a5 a6 a7 v : SV} : splice [a0, a1, a2, a3, a4, a5, a6, a7] 4 [v] = [a0, a1, a2, a3, v, a5, a6, a7] := rfl
theorem sp8_5 {a0 a1 a2 a3 a4 a5 a6 a7 v : SV} : splice [a0, a1, a2, a3, a4, a5, a6, a7] 5 [v] = [a0, a1, a2, a3, a4, v, a6, a7] := rfl
theorem sp8_6 {a0 a1 a2 a3 a4 a5 a6 a7 v : SV} : splice [a0, a1, a2, a3, a4, a5, a6, a7] 6 [v] = [a0, a1, a2, a3, a4, a5, v, a7] := rfl
theorem sp8_7 {a0 a1 a2 a3 a4 a5 a6 a7 v : SV} : splice [a0, a1, a2, a3, a4, a5, a6, a7] 7 [v] = [a0, a1, a2, a3, a4, a5, a6, v] := rfl
set_option maxHeartbeats 2000000 in
theorem openW {B h r0 r1 : Nat} {e0 e1 : List (Value × Value)} (hB : B ≤ 4096) (hh : 2 ≤ h ∧ h ≤ 129) (hd : d.ok) (ho : d.off = false) (hl : B + 2 * h ≤ d.seen.length) (h0 : CpO d B h r0 e0) (h1 : CpO d (B + h) h r1 e1) :
    fnVC CT mCOpen [.ptr 1 0, .v (.int .i64 B), .v (.int .i64 h)] (hp3s d x) 5 fun v H' n' => Sub 5 ⟨[(0, .tup [.ptr 5 0, .v (.int .i64 0)])], nwH (opC B h r0 r1 e0 e1) d x, 8⟩ ⟨[(0, v)], H', n'⟩ := by
  have hsn := hd.most
  obtain ⟨hh1, hh2⟩ := hh
  unfold mCOpen hp3s devB
  simp -implicitDefEqProofs only [↓fnVC, initTm]
  simp -implicitDefEqProofs only [go_sem]
  refine in_call mixT tFSectors ?_
  unfold mFSectors
  simp -implicitDefEqProofs only [↓fnVC, initTm]
  have a1 : decide ((B : Int) < 0) = false := decide_eq_false (by omega)
  have a2 : decide ((h : Int) < 2) = false := decide_eq_false (by omega)
  have a3 : decide ((B : Int) > (d.seen.length : Int)) = false := decide_eq_false (by omega)
  have w1 : IntKind.i64.wrap ((d.seen.length : Int) - (B : Int)) = ((d.seen.length - B : Nat) : Int) := by rw [wrap_i64 (by omega) (by omega)]; omega
  simp -implicitDefEqProofs only [go_sem, a1, a2, a3, w1]
  have e4 : ((d.seen.length - B : Nat) : Int).tdiv 2 = (((d.seen.length - B) / 2 : Nat) : Int) := rfl
  have w2 : IntKind.i64.wrap (((d.seen.length - B : Nat) : Int).tdiv 2) = (((d.seen.length - B) / 2 : Nat) : Int) := by rw [e4, wrap_i64 (by omega) (by omega)]
  have a4 : decide ((h : Int) > (((d.seen.length - B) / 2 : Nat) : Int)) = false := decide_eq_false (by omega)
  simp -implicitDefEqProofs only [go_sem, w2, a4]
  refine in_call mixT tFOff ?_
  unfold mFOff
  simp -implicitDefEqProofs only [↓fnVC, initTm]
  simp -implicitDefEqProofs only [go_sem]
  refine condK_bb (fun c => by rw [ho] at c; cases c) (fun c => ?_)
  simp -implicitDefEqProofs only [go_sem, pc_mp, pc_mp', if_true, Option.bind_some, Option.bind_none, sp8_0, sp8_1, sp8_2, sp8_3, sp8_4, sp8_5, sp8_6, sp8_7]
  have k1w : IntKind.i64.wrap (0 + 1) = 1 := rfl
  have k1b : IntKind.i64.wrap (1 + 1) = 2 := rfl
  refine loop_roll 3 ?_
  rw [LoopU_succ]
  simp -implicitDefEqProofs only [go_sem]
  rcases h0 with ⟨z0, hN0⟩ | hC0
  · subst z0
    refine at_call tCcopied (copiedNS (i := 6) (D := 1) (a := 2) (b := 3) (c := 4) (k := 0) (B := B) (h := h) (nu := 0) (la := 1) (W := 5) (we := []) (d := d) ⟨⟨_, by rfl⟩, ⟨_, by rfl⟩, ⟨_, by rfl⟩, ⟨_, by rfl⟩, ⟨_, by rfl⟩, ⟨_, by rfl⟩, by decide⟩ hB ⟨hh1, hh2⟩ (by decide) hd ho (by omega) (by rw [Nat.zero_mul]; exact hN0)) ?_
    simp -implicitDefEqProofs only [go_sem, k1w]
    rw [LoopU_succ]
    simp -implicitDefEqProofs only [go_sem]
    rcases h1 with ⟨z1, hN1⟩ | hC1
    · subst z1
      refine at_call tCcopied (copiedNS (i := 6) (D := 1) (a := 2) (b := 3) (c := 4) (k := 1) (B := B) (h := h) (nu := 0) (la := 1) (W := 5) (we := []) (d := d) ⟨⟨_, by rfl⟩, ⟨_, by rfl⟩, ⟨_, by rfl⟩, ⟨_, by rfl⟩, ⟨_, by rfl⟩, ⟨_, by rfl⟩, by decide⟩ hB ⟨hh1, hh2⟩ (by decide) hd ho (by omega) (by rw [Nat.one_mul]; exact hN1)) ?_
      simp -implicitDefEqProofs only [go_sem, k1b]
      rw [LoopU_succ]
      simp -implicitDefEqProofs only [go_sem]
      refine in_call mixT tCUndo ?_
      unfold mCUndo
      simp -implicitDefEqProofs only [↓fnVC, initTm]
      simp -implicitDefEqProofs only [go_sem]
      refine at_ext (enters_mk Tryz.func49 rfl rfl) (cloneT (i := 5) (by rfl) rfl (by decide)) ?_
      simp -implicitDefEqProofs only [go_sem, sp8_0, sp8_1, sp8_2, sp8_3, sp8_4, sp8_5, sp8_6, sp8_7, one_mp, true_and]
      rw [show opC B h 0 0 e0 e1 = ⟨B, h, 0, 1, false, [], []⟩ from rfl]
      unfold nwH cellB
      refine sub_mk [(5, 6), (6, 7), (7, 5)] rfl rfl rfl ?_
      simp only [tmSub, hpSub, objSub, eqTm, eqHp, rn, lk, SV.ren, SV.renC, SV.renB, SV.renA, ren_ints, ren_strs, ren_pl, ren_svs, SV.v.injEq, Value.int.injEq, Body.ints.injEq, SV.ptr.injEq, SV.sl.injEq, Value.string.injEq, Value.bool.injEq, List.map_cons, List.map_nil, forall_const, Nat.reduceLT, Nat.lt_add_one, imp_self, true_and, and_true, and_self, ob_some, get_mk, lk_cons, ↓reduceIte, Nat.reduceEqDiff, ne_eq, not_true_eq_false, not_false_eq_true, Nat.one_ne_zero, Nat.zero_ne_one, Nat.succ_ne_self, Nat.reduceAdd, Bool.false_eq_true, false_implies, implies_true, reduceCtorEq]
      repeat' (first | rfl | apply And.intro)
    · have k1 := hC1.hd.k0
      have k2 := hC1.hd.k1
      have b1 : decide ((r1 : Int) > 0) = true := decide_eq_true (by omega)
      refine at_call tCcopied (copiedCS (i := 6) (D := 1) (a := 2) (b := 3) (c := 4) (k := 1) (B := B) (h := h) (nu := 0) (la := 1) (W := 5) (we := []) (d := d) ⟨⟨_, by rfl⟩, ⟨_, by rfl⟩, ⟨_, by rfl⟩, ⟨_, by rfl⟩, ⟨_, by rfl⟩, ⟨_, by rfl⟩, by decide⟩ hB ⟨hh1, hh2⟩ (by decide) hd ho (by omega) (by rw [Nat.one_mul]; exact hC1) (by decide)) ?_
      simp -implicitDefEqProofs only [go_sem, b1, k1b, sp8_0, sp8_1, sp8_2, sp8_3, sp8_4, sp8_5, sp8_6, sp8_7, one_mp, true_and]
      simp -implicitDefEqProofs only [go_sem, k1b]
      rw [LoopU_succ]
      simp -implicitDefEqProofs only [go_sem]
      refine in_call mixT tCUndo ?_
      unfold mCUndo
      simp -implicitDefEqProofs only [↓fnVC, initTm]
      simp -implicitDefEqProofs only [go_sem]
      refine at_ext (enters_mk Tryz.func49 rfl rfl) (cloneT (i := 7) (by rfl) rfl (by decide)) ?_
      simp -implicitDefEqProofs only [go_sem, sp8_0, sp8_1, sp8_2, sp8_3, sp8_4, sp8_5, sp8_6, sp8_7, one_mp, true_and]
      rw [show opC B h 0 r1 e0 e1 = ⟨B, h, r1, 1, false, srtE e1, srtE e1⟩ by unfold opC opN opL opE; rw [if_pos k1, if_pos k1, if_pos k1]]
      unfold nwH cellB
      refine sub_mk [(5, 6), (6, 8), (7, 7)] rfl rfl rfl ?_
      simp only [tmSub, hpSub, objSub, eqTm, eqHp, rn, lk, SV.ren, SV.renC, SV.renB, SV.renA, ren_ints, ren_strs, ren_pl, ren_svs, SV.v.injEq, Value.int.injEq, Body.ints.injEq, SV.ptr.injEq, SV.sl.injEq, Value.string.injEq, Value.bool.injEq, List.map_cons, List.map_nil, forall_const, Nat.reduceLT, Nat.lt_add_one, imp_self, true_and, and_true, and_self, ob_some, get_mk, lk_cons, ↓reduceIte, Nat.reduceEqDiff, ne_eq, not_true_eq_false, not_false_eq_true, Nat.one_ne_zero, Nat.zero_ne_one, Nat.succ_ne_self, Nat.reduceAdd, Bool.false_eq_true, false_implies, implies_true, reduceCtorEq]
      repeat' (first | rfl | apply And.intro)
  · have k1 := hC0.hd.k0
    have k2 := hC0.hd.k1
    have b0 : decide ((r0 : Int) > 0) = true := decide_eq_true (by omega)
    refine at_call tCcopied (copiedCS (i := 6) (D := 1) (a := 2) (b := 3) (c := 4) (k := 0) (B := B) (h := h) (nu := 0) (la := 1) (W := 5) (we := []) (d := d) ⟨⟨_, by rfl⟩, ⟨_, by rfl⟩, ⟨_, by rfl⟩, ⟨_, by rfl⟩, ⟨_, by rfl⟩, ⟨_, by rfl⟩, by decide⟩ hB ⟨hh1, hh2⟩ (by decide) hd ho (by omega) (by rw [Nat.zero_mul]; exact hC0) (by decide)) ?_
    simp -implicitDefEqProofs only [go_sem, b0, k1w, sp8_0, sp8_1, sp8_2, sp8_3, sp8_4, sp8_5, sp8_6, sp8_7, one_mp, true_and]
    rw [LoopU_succ]
    simp -implicitDefEqProofs only [go_sem]
    rcases h1 with ⟨z1, hN1⟩ | hC1
    · subst z1
      refine at_call tCcopied (copiedNS (i := 6) (D := 1) (a := 2) (b := 3) (c := 4) (k := 1) (B := B) (h := h) (nu := r0) (la := 0) (W := 7) (we := (srtE e0)) (d := d) ⟨⟨_, by rfl⟩, ⟨_, by rfl⟩, ⟨_, by rfl⟩, ⟨_, by rfl⟩, ⟨_, by rfl⟩, ⟨_, by rfl⟩, by decide⟩ hB ⟨hh1, hh2⟩ (by decide) hd ho (by omega) (by rw [Nat.one_mul]; exact hN1)) ?_
      simp -implicitDefEqProofs only [go_sem, k1b]
      rw [LoopU_succ]
      simp -implicitDefEqProofs only [go_sem]
      refine in_call mixT tCUndo ?_
      unfold mCUndo
      simp -implicitDefEqProofs only [↓fnVC, initTm]
      simp -implicitDefEqProofs only [go_sem]
      refine at_ext (enters_mk Tryz.func49 rfl rfl) (cloneT (i := 7) (by rfl) rfl (by decide)) ?_
      simp -implicitDefEqProofs only [go_sem, sp8_0, sp8_1, sp8_2, sp8_3, sp8_4, sp8_5, sp8_6, sp8_7, one_mp, true_and]
      rw [show opC B h r0 0 e0 e1 = ⟨B, h, r0, 0, false, srtE e0, srtE e0⟩ by unfold opC opN opL opE; rw [if_neg (Nat.not_lt_zero _), if_neg (Nat.not_lt_zero _), if_neg (Nat.not_lt_zero _), if_pos k1, if_pos k1]]
      unfold nwH cellB
      refine sub_mk [(5, 6), (6, 8), (7, 7)] rfl rfl rfl ?_
      simp only [tmSub, hpSub, objSub, eqTm, eqHp, rn, lk, SV.ren, SV.renC, SV.renB, SV.renA, ren_ints, ren_strs, ren_pl, ren_svs, SV.v.injEq, Value.int.injEq, Body.ints.injEq, SV.ptr.injEq, SV.sl.injEq, Value.string.injEq, Value.bool.injEq, List.map_cons, List.map_nil, forall_const, Nat.reduceLT, Nat.lt_add_one, imp_self, true_and, and_true, and_self, ob_some, get_mk, lk_cons, ↓reduceIte, Nat.reduceEqDiff, ne_eq, not_true_eq_false, not_false_eq_true, Nat.one_ne_zero, Nat.zero_ne_one, Nat.succ_ne_self, Nat.reduceAdd, Bool.false_eq_true, false_implies, implies_true, reduceCtorEq]
      repeat' (first | rfl | apply And.intro)
    · have q1 := hC1.hd.k0
      have q2 := hC1.hd.k1
      refine at_call tCcopied (copiedCS (i := 6) (D := 1) (a := 2) (b := 3) (c := 4) (k := 1) (B := B) (h := h) (nu := r0) (la := 0) (W := 7) (we := (srtE e0)) (d := d) ⟨⟨_, by rfl⟩, ⟨_, by rfl⟩, ⟨_, by rfl⟩, ⟨_, by rfl⟩, ⟨_, by rfl⟩, ⟨_, by rfl⟩, by decide⟩ hB ⟨hh1, hh2⟩ (by decide) hd ho (by omega) (by rw [Nat.one_mul]; exact hC1) (by decide)) ?_
      by_cases hc : r0 < r1
      · have b1 : decide ((r1 : Int) > (r0 : Int)) = true := decide_eq_true (by omega)
        simp -implicitDefEqProofs only [go_sem, b1, k1b, sp8_0, sp8_1, sp8_2, sp8_3, sp8_4, sp8_5, sp8_6, sp8_7, one_mp, true_and]
        simp -implicitDefEqProofs only [go_sem, k1b]
        rw [LoopU_succ]
        simp -implicitDefEqProofs only [go_sem]
        refine in_call mixT tCUndo ?_
        unfold mCUndo
        simp -implicitDefEqProofs only [↓fnVC, initTm]
        simp -implicitDefEqProofs only [go_sem]
        refine at_ext (enters_mk Tryz.func49 rfl rfl) (cloneT (i := 8) (by rfl) rfl (by decide)) ?_
        simp -implicitDefEqProofs only [go_sem, sp8_0, sp8_1, sp8_2, sp8_3, sp8_4, sp8_5, sp8_6, sp8_7, one_mp, true_and]
        rw [show opC B h r0 r1 e0 e1 = ⟨B, h, r1, 1, false, srtE e1, srtE e1⟩ by unfold opC opN opL opE; rw [if_pos hc, if_pos hc, if_pos hc]]
        unfold nwH cellB
        refine sub_mk [(5, 6), (6, 9), (7, 8)] rfl rfl rfl ?_
        simp only [tmSub, hpSub, objSub, eqTm, eqHp, rn, lk, SV.ren, SV.renC, SV.renB, SV.renA, ren_ints, ren_strs, ren_pl, ren_svs, SV.v.injEq, Value.int.injEq, Body.ints.injEq, SV.ptr.injEq, SV.sl.injEq, Value.string.injEq, Value.bool.injEq, List.map_cons, List.map_nil, forall_const, Nat.reduceLT, Nat.lt_add_one, imp_self, true_and, and_true, and_self, ob_some, get_mk, lk_cons, ↓reduceIte, Nat.reduceEqDiff, ne_eq, not_true_eq_false, not_false_eq_true, Nat.one_ne_zero, Nat.zero_ne_one, Nat.succ_ne_self, Nat.reduceAdd, Bool.false_eq_true, false_implies, implies_true, reduceCtorEq]
        repeat' (first | rfl | apply And.intro)
      · have b1 : decide ((r1 : Int) > (r0 : Int)) = false := decide_eq_false (by omega)
        simp -implicitDefEqProofs only [go_sem, b1, k1b, sp8_0, sp8_1, sp8_2, sp8_3, sp8_4, sp8_5, sp8_6, sp8_7, one_mp, true_and]
        simp -implicitDefEqProofs only [go_sem, k1b]
        rw [LoopU_succ]
        simp -implicitDefEqProofs only [go_sem]
        refine in_call mixT tCUndo ?_
        unfold mCUndo
        simp -implicitDefEqProofs only [↓fnVC, initTm]
        simp -implicitDefEqProofs only [go_sem]
        refine at_ext (enters_mk Tryz.func49 rfl rfl) (cloneT (i := 7) (by rfl) rfl (by decide)) ?_
        simp -implicitDefEqProofs only [go_sem, sp8_0, sp8_1, sp8_2, sp8_3, sp8_4, sp8_5, sp8_6, sp8_7, one_mp, true_and]
        rw [show opC B h r0 r1 e0 e1 = ⟨B, h, r0, 0, false, srtE e0, srtE e0⟩ by unfold opC opN opL opE; rw [if_neg hc, if_neg hc, if_neg hc, if_pos k1, if_pos k1]]
        unfold nwH cellB
        refine sub_mk [(5, 6), (6, 9), (7, 7)] rfl rfl rfl ?_
        simp only [tmSub, hpSub, objSub, eqTm, eqHp, rn, lk, SV.ren, SV.renC, SV.renB, SV.renA, ren_ints, ren_strs, ren_pl, ren_svs, SV.v.injEq, Value.int.injEq, Body.ints.injEq, SV.ptr.injEq, SV.sl.injEq, Value.string.injEq, Value.bool.injEq, List.map_cons, List.map_nil, forall_const, Nat.reduceLT, Nat.lt_add_one, imp_self, true_and, and_true, and_self, ob_some, get_mk, lk_cons, ↓reduceIte, Nat.reduceEqDiff, ne_eq, not_true_eq_false, not_false_eq_true, Nat.one_ne_zero, Nat.zero_ne_one, Nat.succ_ne_self, Nat.reduceAdd, Bool.false_eq_true, false_implies, implies_true, reduceCtorEq]
        repeat' (first | rfl | apply And.intro)
theorem openS {B h r0 r1 : Nat} {e0 e1 : List (Value × Value)} (hD : DevAt H d i a b c) (hB : B ≤ 4096) (hh : 2 ≤ h ∧ h ≤ 129) (hd : d.ok) (ho : d.off = false) (hl : B + 2 * h ≤ d.seen.length) (h0 : CpO d B h r0 e0) (h1 : CpO d (B + h) h r1 e1) (hn : n + 3 ≤ 1000) :
    SpecAt Tryz.prog nCOpen [.ptr i 0, .v (.int .i64 B), .v (.int .i64 h)] H n (.tup [.ptr n 0, .v (.int .i64 0)]) ⟨(n, some ⟨true, cellB (opC B h r0 r1 e0 e1) i (n + 1) (n + 2)⟩) :: (n + 1, some ⟨true, .mp (.map (opE r0 r1 e0 e1))⟩) :: (n + 2, some ⟨true, .mp (.map (opE r0 r1 e0 e1))⟩) :: H.l, H.x⟩ (n + 3) := by
  obtain ⟨hi, ha, hb', hc, ⟨p1, p2, p3, p4⟩, ⟨q1, q2, q3, q4⟩, n1, n2, n3, n4, n5, n6⟩ := hD
  have := lift (n := n) (okT.spec tCOpen (openW (x := H.x) hB hh hd ho hl h0 h1)) [(1, i), (2, a), (3, b), (4, c)] rfl rfl rfl (by omega) rfl rfl
    ⟨sub_ro rfl p1 hi rfl, sub_ro rfl p2 ha rfl, sub_ro rfl p3 hb' rfl, sub_ro rfl p4 hc rfl, trivial⟩ (by simp [hp3s, apartB, apart1, rn, lk]) (by simp [hp3s, wrNZ, rn, lk]) (by omega)
  exact this
end
section
/- Cells: the rest of the calls; nil cells. -/
set_option linter.unusedVariables false
set_option linter.unusedSimpArgs false
set_option maxRecDepth 100000
open Go.Proofs
variable {H : Hp} {n : Nat} {x : Nat → Option SO} {i D a b c M W : Nat} {d d' : Fd} {C C' : Ce}
theorem commitS {m t : Nat} (h : CellAt H C d i D a b c M W) (hC : C.ok) (hP : Pl d m t) (ht : t + 1000 < 1000000) (hn : n + 4 ≤ 1000) {e : Int} (hq : coR C d = (e, C', d')) :
    SpecAt Tryz.prog nCCommit [.ptr i 0] H n (.v (.int .i64 e)) ⟨(i, some ⟨true, cellB C' D M (n + 3)⟩) :: (D, some ⟨true, devB d' n (n + 1) (n + 2)⟩) :: (a, none) :: (b, none) :: (c, none) :: (M, some ⟨true, .mp (.map C'.now)⟩) :: (W, none) :: (n, some ⟨true, secB d'.seen⟩) :: (n + 1, some ⟨true, secB d'.safe⟩) :: (n + 2, some ⟨true, .pl (prow d'.pend)⟩) :: (n + 3, some ⟨true, .mp (.map C'.was)⟩) :: H.l, H.x⟩ (n + 4) := by
  have e1 : (coR C d).1 = e := by rw [hq]
  have e2 : (coR C d).2.1 = C' := by rw [hq]
  have e3 : (coR C d).2.2 = d' := by rw [hq]
  subst e1; subst e2; subst e3
  have := lift (n := n) (okT.spec tCCommit (commitW (x := H.x) hC hP ht)) (ceP i D a b c M W) rfl rfl rfl (by omega) rfl rfl h.sub h.ap h.nz (by omega)
  exact this
def ceHr (C : Ce) (d : Fd) (x : Nat → Option SO) : Hp := ⟨[(1, some ⟨false, cellB C 2 6 7⟩), (2, some ⟨false, devB d 3 4 5⟩), (3, some ⟨false, secB d.seen⟩), (4, some ⟨false, secB d.safe⟩), (5, some ⟨false, .pl (prow d.pend)⟩), (6, some ⟨false, .mp (.map C.now)⟩), (7, some ⟨false, .mp (.map C.was)⟩)], x⟩
theorem CellAt.sub_r (h : CellAt H C d i D a b c M W) : hpSub (ceP i D a b c M W) H (ceHr C d x).l := by
  obtain ⟨g1, g2, g3, g4, g5, g6, g7, hp, _, _⟩ := h
  simp at hp
  exact ⟨sub_ro rfl hp.1.1 g1 rfl, sub_ro rfl hp.2.1.1 g2 rfl, sub_ro rfl hp.2.2.1.1 g3 rfl, sub_ro rfl hp.2.2.2.1.1 g4 rfl, sub_ro rfl hp.2.2.2.2.1.1 g5 rfl, sub_ro rfl hp.2.2.2.2.2.1.1 g6 rfl, sub_ro rfl hp.2.2.2.2.2.2.1 g7 rfl, trivial⟩
theorem getW {name : ByteArray} (hE : Es C.now) : fnVC CT mCGet [.ptr 1 0, .v (.string name)] (ceHr C d x) 8 fun v H' n' => Sub 8 ⟨[(0, getV C.now name)], ⟨[], x⟩, 8⟩ ⟨[(0, v)], H', n'⟩ := by
  have hk := hE.keys
  have hg := hE.el name
  unfold mCGet ceHr cellB
  simp -implicitDefEqProofs only [↓fnVC, initTm]
  simp -implicitDefEqProofs only [go_sem, asM_so, hk, hg, spl1]
  unfold getV
  refine sub_mk [] rfl rfl rfl ?_
  simp only [tmSub, hpSub, objSub, eqTm, eqHp, rn, lk, SV.ren, SV.renC, SV.renB, SV.renA, ren_ints, ren_strs, ren_pl, ren_svs, SV.v.injEq, Value.int.injEq, Body.ints.injEq, SV.ptr.injEq, SV.sl.injEq, Value.string.injEq, Value.bool.injEq, List.map_cons, List.map_nil, forall_const, Nat.reduceLT, Nat.lt_add_one, imp_self, true_and, and_true, and_self, ob_some, get_mk, lk_cons, ↓reduceIte, Nat.reduceEqDiff, ne_eq, not_true_eq_false, not_false_eq_true, Nat.one_ne_zero, Nat.zero_ne_one, Nat.succ_ne_self, Nat.reduceAdd, Bool.false_eq_true, false_implies, implies_true, reduceCtorEq]
theorem cNamesW (hE : Es C.now) : fnVC CT mCNames [.ptr 1 0] (ceHr C d x) 8 fun v H' n' => Sub 8 ⟨[(0, .sl 8 0 C.now.length 1)], ⟨[(8, some ⟨true, .strs (srtK C.now)⟩)], x⟩, 9⟩ ⟨[(0, v)], H', n'⟩ := by
  have hl := hE.len
  unfold mCNames ceHr cellB
  simp -implicitDefEqProofs only [↓fnVC, initTm]
  simp -implicitDefEqProofs only [go_sem]
  refine at_call tcnames (namesS (i := 6) (by rfl) rfl (by decide) hE.keys (fun e he => Nat.le_trans (hE.kl e he) (by decide)) (by omega) (by decide)) ?_
  simp -implicitDefEqProofs only [go_sem]
  refine sub_mk [] rfl rfl rfl ?_
  simp only [tmSub, hpSub, objSub, eqTm, eqHp, rn, lk, SV.ren, SV.renC, SV.renB, SV.renA, ren_ints, ren_strs, ren_pl, ren_svs, SV.v.injEq, Value.int.injEq, Body.ints.injEq, SV.ptr.injEq, SV.sl.injEq, Value.string.injEq, Value.bool.injEq, List.map_cons, List.map_nil, forall_const, Nat.reduceLT, Nat.lt_add_one, imp_self, true_and, and_true, and_self, ob_some, get_mk, lk_cons, ↓reduceIte, Nat.reduceEqDiff, ne_eq, not_true_eq_false, not_false_eq_true, Nat.one_ne_zero, Nat.zero_ne_one, Nat.succ_ne_self, Nat.reduceAdd, Bool.false_eq_true, false_implies, implies_true, reduceCtorEq]
theorem getN {s : ByteArray} : SpecAt Tryz.prog nCGet [.v (.pointer none), .v (.string s)] H n (.tup [.v (.string ⟨#[]⟩), .v (.bool false)]) H n := okT.pure tCGet (by
  unfold mCGet
  simp -implicitDefEqProofs only [↓fnVC, initTm]
  simp -implicitDefEqProofs only [go_sem])
end
end Go.Sx